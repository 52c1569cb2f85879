/- rank, plain: each guest in one component; levels along arrows. -/
import Derived.Test.YtdfhfehlmonjjaaR22
namespace Go.Proofs.Ytdfhfehlmonjjaa
open Go.Eng Go.RowKit

section
variable {n : Nat} {R : Nat → Nat → Bool}

theorem Pre.uniq (P : Pre n R) {x : Int} {i j : Nat} (hi : i < (compsL n R).length) (hj : j < (compsL n R).length) (h1 : x ∈ (compsL n R)[i]) (h2 : x ∈ (compsL n R)[j]) : i = j := by
  have hp := List.pairwise_iff_getElem.1 P.order
  rcases Nat.lt_trichotomy i j with h | h | h
  · obtain ⟨a, b, e1, e2, hne, _⟩ := hp i j hi hj h x h1 x h2
    omega
  · exact h
  · obtain ⟨a, b, e1, e2, hne, _⟩ := hp j i hj hi h x h2 x h1
    omega

theorem Pre.where_ (P : Pre n R) {a : Nat} (ha : a < n) : ∃ i, ∃ hi : i < (compsL n R).length, (a : Int) ∈ (compsL n R)[i] := by
  obtain ⟨l, hl, hm⟩ := P.all ha
  obtain ⟨i, hi, rfl⟩ := List.getElem_of_mem hl
  exact ⟨i, hi, hm⟩

open Classical in
/-- In which component a guest is. -/
noncomputable def ix (n : Nat) (R : Nat → Nat → Bool) (a : Nat) : Nat := if h : ∃ i, ∃ hi : i < (compsL n R).length, (a : Int) ∈ (compsL n R)[i] then h.choose else 0

theorem Pre.ix_at (P : Pre n R) {a : Nat} (ha : a < n) : ∃ hi : ix n R a < (compsL n R).length, (a : Int) ∈ (compsL n R)[ix n R a] := by
  have h := P.where_ ha
  unfold ix
  rw [dif_pos h]
  exact h.choose_spec
theorem Pre.ix_eq (P : Pre n R) {a i : Nat} (ha : a < n) (hi : i < (compsL n R).length) (h : (a : Int) ∈ (compsL n R)[i]) : ix n R a = i := by
  obtain ⟨hj, hm⟩ := P.ix_at ha
  exact P.uniq hj hi hm h

theorem Pre.nodup_flat (P : Pre n R) : (compsL n R).flatten.Nodup := by
  refine List.pairwise_flatten.2 ⟨fun l hl => ?_, ?_⟩
  · obtain ⟨a, ha, rfl⟩ := P.from_ hl
    unfold members
    rw [List.pairwise_map]
    refine List.Pairwise.imp ?_ (List.Pairwise.filter _ (List.nodup_range (n := 24)))
    intro p q hpq e
    exact hpq (by omega)
  · refine List.Pairwise.imp (fun {l l'} hb x hx y hy e => ?_) P.order
    obtain ⟨a, b, e1, e2, hne, _⟩ := hb x hx y hy
    omega

theorem Pre.count_one (P : Pre n R) {a : Nat} (ha : a < n) : (compsL n R).flatten.count (a : Int) = 1 := by
  obtain ⟨l, hl, hm⟩ := P.all ha
  rw [List.Nodup.count P.nodup_flat, if_pos (List.mem_flatten.2 ⟨l, hl, hm⟩)]

theorem Pre.lev_at (P : Pre n R) {a i : Nat} (hi : i < (compsL n R).length) (h : (a : Int) ∈ (compsL n R)[i]) : ∀ j, i < j → j ≤ (compsL n R).length →
    levF n R ((compsL n R).take j) (fun _ => 0) a = levTo R (levF n R ((compsL n R).take i) fun _ => 0) ((compsL n R)[i].headD 0).toNat n
  | 0, h0, _ => absurd h0 (Nat.not_lt_zero _)
  | j + 1, hij, hj => by
    have hjl : j < (compsL n R).length := hj
    rw [List.take_succ_eq_append_getElem hjl, levF_snoc]
    by_cases e : j = i
    · subst e
      show (if _ then _ else _) = _
      rw [if_pos h]
    · have hno : ¬ (a : Int) ∈ (compsL n R)[j] := fun hm => e (P.uniq hjl hi hm h)
      show (if _ then _ else _) = _
      rw [if_neg hno]
      exact P.lev_at hi h j (by omega) (by omega)

theorem levTo_ge {f : Nat → Nat} {z b : Nat} (h : standR R b z = 1) : ∀ m, b < m → f b + 1 ≤ levTo R f z m
  | 0, hb => absurd hb (Nat.not_lt_zero _)
  | m + 1, hb => by
    rw [levTo]
    by_cases e : b = m
    · subst e; rw [if_pos h]; omega
    · have := levTo_ge (f := f) h m (by omega)
      split <;> omega

/-- Along an arrow. -/
theorem Pre.arrow (P : Pre n R) {p q : Nat} (h : R p q = true) : ix n R p ≤ ix n R q ∧ (ix n R p = ix n R q → levelsL n R p = levelsL n R q) ∧ (ix n R p < ix n R q → levelsL n R p < levelsL n R q) := by
  obtain ⟨hp, hq⟩ := P.inside _ _ h
  obtain ⟨hi, hmi⟩ := P.ix_at hp
  obtain ⟨hj, hmj⟩ := P.ix_at hq
  have hpw := List.pairwise_iff_getElem.1 P.order
  have li := P.lev_at hi hmi (compsL n R).length hi (Nat.le_refl _)
  have lj := P.lev_at hj hmj (compsL n R).length hj (Nat.le_refl _)
  rw [List.take_length] at li lj
  refine ⟨?_, fun e => ?_, fun hlt => ?_⟩
  · rcases Nat.lt_or_ge (ix n R q) (ix n R p) with hlt | hge
    · obtain ⟨a, b, e1, e2, _, hba⟩ := hpw _ _ hj hi hlt _ hmj _ hmi
      have e1 : q = a := by omega
      have e2 : p = b := by omega
      subst e1 e2
      rw [h] at hba; cases hba
    · exact hge
  · unfold levelsL
    rw [li, lj]
    simp only [e]
  · unfold levelsL
    rw [lj]
    have lp := P.lev_at hi hmi (ix n R q) hlt (Nat.le_of_lt hj)
    rw [li, ← lp]
    obtain ⟨a, ha, el⟩ := P.from_ (List.getElem_mem hj)
    have hmem : ∀ x, x ∈ (compsL n R)[ix n R q] ↔ x ∈ members (compS n R a) := fun x => by rw [el]
    have hz : ∃ z : Nat, ((compsL n R)[ix n R q].headD 0).toNat = z ∧ (z : Int) ∈ (compsL n R)[ix n R q] := by
      cases hl : (compsL n R)[ix n R q] with
      | nil => rw [hl] at hmj; simp at hmj
      | cons x r =>
        have hx : x ∈ (compsL n R)[ix n R q] := by rw [hl]; simp
        obtain ⟨k, hk, _⟩ := mem_members.1 ((hmem x).1 hx)
        subst hk
        exact ⟨k, by simp, by simp⟩
    obtain ⟨z, ez, hzm⟩ := hz
    rw [ez]
    obtain ⟨a', b', e1, e2, hne, hba⟩ := hpw _ _ hi hj hlt _ hmi _ hzm
    have e1 : p = a' := by omega
    have e2 : z = b' := by omega
    subst e1 e2
    obtain ⟨q', eq', _, hcq⟩ := mem_members.1 ((hmem _).1 hmj)
    have eq' : q = q' := by omega
    subst eq'
    obtain ⟨z', ez', _, hcz⟩ := mem_members.1 ((hmem _).1 hzm)
    have ez' : z = z' := by omega
    subst ez'
    have hqz := P.comp_trans (comp_symm ha hcq) hcz
    have hpz : R p z = true := by
      rcases (compS_iff.1 hqz).2 with rfl | ⟨h3, _⟩
      · exact h
      · exact P.trans _ _ _ h h3
    exact levTo_ge (standR_one.2 ⟨hne, hpz, hba⟩) n hp
end

end Go.Proofs.Ytdfhfehlmonjjaa
