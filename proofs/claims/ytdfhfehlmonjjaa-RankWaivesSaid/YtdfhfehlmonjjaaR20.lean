/- rank, plain: what the components are. -/
import Derived.Test.YtdfhfehlmonjjaaR19
namespace Go.Proofs.Ytdfhfehlmonjjaa
open Go.Eng Go.RowKit

/-- Chains among 'n' guests. -/
structure Pre (n : Nat) (R : Nat → Nat → Bool) : Prop where
  le : n ≤ 24
  trans : ∀ a b c, R a b = true → R b c = true → R a c = true
  inside : ∀ a b, R a b = true → a < n ∧ b < n

theorem path_inside {n : Nat} {T : Nat → Nat → Bool} (hT : Inside n T) {a b : Nat} (h : Path T a b) : a < n ∧ b < n := by
  induction h with
  | one h => exact hT _ _ h
  | step _ h ih => exact ⟨ih.1, (hT _ _ h).2⟩

theorem pre_reach {n : Nat} {T : Nat → Nat → Bool} (hn : n ≤ 24) (hT : Inside n T) : Pre n (reach T) :=
  ⟨hn, fun a b c h k => reach_iff.2 ((reach_iff.1 h).trans (reach_iff.1 k)), fun a b h => path_inside hT (reach_iff.1 h)⟩

theorem mem_members {S : Nat → Bool} {x : Int} : x ∈ members S ↔ ∃ k : Nat, x = (k : Int) ∧ k < 24 ∧ S k = true := by
  constructor
  · intro h
    obtain ⟨k, hk, rfl⟩ := List.mem_map.1 h
    obtain ⟨h1, h2⟩ := List.mem_filter.1 hk
    exact ⟨k, rfl, List.mem_range.1 h1, h2⟩
  · rintro ⟨k, rfl, h1, h2⟩
    exact List.mem_map.2 ⟨k, List.mem_filter.2 ⟨List.mem_range.2 h1, h2⟩, rfl⟩

theorem standR_three {R : Nat → Nat → Bool} {a b : Nat} : standR R a b = 3 ↔ a ≠ b ∧ R a b = true ∧ R b a = true := by
  unfold standR
  by_cases h : a = b
  · simp [h]
  · cases R a b <;> cases R b a <;> simp [h]

theorem compS_iff {n : Nat} {R : Nat → Nat → Bool} {a b : Nat} : compS n R a b = true ↔ b < n ∧ (a = b ∨ (R a b = true ∧ R b a = true)) := by
  unfold compS
  simp only [Bool.and_eq_true, Bool.or_eq_true, decide_eq_true_eq, standR_three]
  constructor
  · rintro ⟨h1, h2 | ⟨_, h3⟩⟩
    · exact ⟨h1, .inl h2⟩
    · exact ⟨h1, .inr h3⟩
  · rintro ⟨h1, h2 | h3⟩
    · exact ⟨h1, .inl h2⟩
    · by_cases h : a = b
      · exact ⟨h1, .inl h⟩
      · exact ⟨h1, .inr ⟨h, h3⟩⟩

section
variable {n : Nat} {R : Nat → Nat → Bool}

theorem Pre.comp_trans (P : Pre n R) {a b c : Nat} (h : compS n R a b = true) (k : compS n R b c = true) : compS n R a c = true := by
  rw [compS_iff] at *
  refine ⟨k.1, ?_⟩
  rcases h.2 with rfl | ⟨h1, h2⟩
  · exact k.2
  · rcases k.2 with rfl | ⟨k1, k2⟩
    · exact .inr ⟨h1, h2⟩
    · exact .inr ⟨P.trans _ _ _ h1 k1, P.trans _ _ _ k2 h2⟩

theorem comp_symm {a b : Nat} (ha : a < n) (h : compS n R a b = true) : compS n R b a = true := by
  rw [compS_iff] at *
  refine ⟨ha, ?_⟩
  rcases h.2 with rfl | ⟨h1, h2⟩
  · exact .inl rfl
  · exact .inr ⟨h2, h1⟩

/-- What is done is made of whole components. -/
def ClosedC (n : Nat) (R : Nat → Nat → Bool) (D : Nat → Bool) : Prop := ∀ a b, a < n → D a = true → compS n R a b = true → D b = true

theorem Pre.closed_or (P : Pre n R) {D : Nat → Bool} (h : ClosedC n R D) {a : Nat} : ClosedC n R (orS D (compS n R a)) := by
  intro c b hc hD hcb
  simp only [orS, Bool.or_eq_true] at hD ⊢
  rcases hD with hD | hD
  · exact .inl (h c b hc hD hcb)
  · exact .inr (P.comp_trans hD hcb)

theorem prec_false {a : Nat} {own D : Nat → Bool} (h : precS n R a own D = false) {b : Nat} (hb : b < n) (ho : own b = false) (hD : D b = false) : R b a = false := by
  unfold precS at h
  rw [List.any_eq_false] at h
  have := h b (List.mem_range.2 hb)
  rw [ho, hD] at this
  simpa using this

/-- Two components, the one behind the other. -/
def Behind (R : Nat → Nat → Bool) (l l' : List Int) : Prop := ∀ x ∈ l, ∀ y ∈ l', ∃ a b : Nat, x = (a : Int) ∧ y = (b : Int) ∧ a ≠ b ∧ R b a = false

theorem Pre.comps_from (P : Pre n R) : ∀ (m : Nat) (D : Nat → Bool), ClosedC n R D → ∀ l ∈ compsF n R m D, ∃ a < n, l = members (compS n R a) ∧ D a = false
  | 0, _, _, l, h => by simp [compsF] at h
  | m + 1, D, hD, l, h => by
    rw [compsF] at h
    cases hf : (List.range n).find? fun a => !(D a || precS n R a (compS n R a) D) with
    | none => rw [hf] at h; simp at h
    | some a =>
      rw [hf] at h
      have hp := List.find?_some hf
      simp only [Bool.not_eq_true', Bool.or_eq_false_iff] at hp
      have ha := List.mem_range.1 (List.mem_of_find?_eq_some hf)
      rcases List.mem_cons.1 h with rfl | h
      · exact ⟨a, ha, rfl, hp.1⟩
      · obtain ⟨b, hb, e, hDb⟩ := P.comps_from m _ (P.closed_or hD) l h
        simp only [orS, Bool.or_eq_false_iff] at hDb
        exact ⟨b, hb, e, hDb.1⟩

theorem Pre.comps_order (P : Pre n R) : ∀ (m : Nat) (D : Nat → Bool), ClosedC n R D → (compsF n R m D).Pairwise (Behind R)
  | 0, _, _ => by simp [compsF]
  | m + 1, D, hD => by
    rw [compsF]
    cases hf : (List.range n).find? fun a => !(D a || precS n R a (compS n R a) D) with
    | none => simp
    | some a =>
      have hp := List.find?_some hf
      simp only [Bool.not_eq_true', Bool.or_eq_false_iff] at hp
      have ha := List.mem_range.1 (List.mem_of_find?_eq_some hf)
      refine List.pairwise_cons.2 ⟨fun l' hl' => ?_, P.comps_order m _ (P.closed_or hD)⟩
      obtain ⟨b, hb, rfl, hDb⟩ := P.comps_from m _ (P.closed_or hD) l' hl'
      intro x hx y hy
      obtain ⟨i, rfl, hi24, hi⟩ := mem_members.1 hx
      obtain ⟨j, rfl, hj24, hj⟩ := mem_members.1 hy
      have hjn : j < n := (compS_iff.1 hj).1
      have hin : i < n := (compS_iff.1 hi).1
      have hDj : orS D (compS n R a) j = false := by
        cases h : orS D (compS n R a) j with
        | false => rfl
        | true =>
          have := P.closed_or hD j b hjn h (comp_symm hb hj)
          rw [hDb] at this; cases this
      simp only [orS, Bool.or_eq_false_iff] at hDj
      refine ⟨i, j, rfl, rfl, ?_, ?_⟩
      · intro e
        subst e
        rw [hi] at hDj; cases hDj.2
      · cases h : R j i with
        | false => rfl
        | true =>
          have hja : R j a = true := by
            rcases (compS_iff.1 hi).2 with rfl | ⟨_, h2⟩
            · exact h
            · exact P.trans _ _ _ h h2
          rw [prec_false hp.2 hjn hDj.2 hDj.1] at hja; cases hja

/-- How many are not done. -/
def left (n : Nat) (D : Nat → Bool) : Nat := ((List.range n).filter fun k => !D k).length

theorem Pre.first (P : Pre n R) (D : Nat → Bool) : ∀ (c a : Nat), ((List.range n).filter fun b => !D b && (R b a && !R a b)).length ≤ c → a < n → D a = false → ∃ b < n, D b = false ∧ precS n R b (compS n R b) D = false
  | c, a, hc, ha, hD => by
    by_cases hp : precS n R a (compS n R a) D = true
    · unfold precS at hp
      obtain ⟨b, hb, h⟩ := List.any_eq_true.1 hp
      simp only [Bool.and_eq_true, Bool.not_eq_true'] at h
      obtain ⟨⟨hown, hDb⟩, hba⟩ := h
      have hbn := List.mem_range.1 hb
      have hab : R a b = false := by
        cases h : R a b with
        | false => rfl
        | true =>
          have : compS n R a b = true := compS_iff.2 ⟨hbn, .inr ⟨h, hba⟩⟩
          rw [this] at hown; cases hown
      have hlt : ((List.range n).filter fun k => !D k && (R k b && !R b k)).length < ((List.range n).filter fun k => !D k && (R k a && !R a k)).length := by
        refine filter_lt _ (fun k hk => ?_) hb ?_ ?_
        · simp only [Bool.and_eq_true, Bool.not_eq_true'] at hk ⊢
          obtain ⟨h1, h2, h3⟩ := hk
          refine ⟨h1, P.trans _ _ _ h2 hba, ?_⟩
          cases h : R a k with
          | false => rfl
          | true => rw [P.trans _ _ _ hba h] at h3; cases h3
        · cases R b b <;> simp
        · rw [hDb, hba, hab]; rfl
      match c, hc with
      | 0, hc => omega
      | c + 1, hc => exact P.first D c b (by omega) hbn hDb
    · exact ⟨a, ha, hD, by simpa using hp⟩

theorem Pre.comps_all (P : Pre n R) : ∀ (m : Nat) (D : Nat → Bool), left n D ≤ m → ∀ a < n, D a = false → ∃ l ∈ compsF n R m D, (a : Int) ∈ l
  | 0, D, hm, a, ha, hD => by
    have : a ∈ (List.range n).filter fun k => !D k := List.mem_filter.2 ⟨List.mem_range.2 ha, by rw [hD]; rfl⟩
    have := List.length_pos_of_mem this
    unfold left at hm
    omega
  | m + 1, D, hm, a, ha, hD => by
    rw [compsF]
    cases hf : (List.range n).find? fun a => !(D a || precS n R a (compS n R a) D) with
    | none =>
      exfalso
      obtain ⟨b, hb, h1, h2⟩ := P.first D _ a (Nat.le_refl _) ha hD
      rw [List.find?_eq_none] at hf
      have := hf b (List.mem_range.2 hb)
      rw [h1, h2] at this
      exact this rfl
    | some c =>
      have hp := List.find?_some hf
      simp only [Bool.not_eq_true', Bool.or_eq_false_iff] at hp
      have hc := List.mem_range.1 (List.mem_of_find?_eq_some hf)
      have hn := P.le
      by_cases hac : compS n R c a = true
      · exact ⟨_, List.mem_cons_self, mem_members.2 ⟨a, rfl, by omega, hac⟩⟩
      · have hac : compS n R c a = false := by simpa using hac
        have hlt : left n (orS D (compS n R c)) < left n D := by
          refine filter_lt _ (fun k hk => ?_) (List.mem_range.2 hc) ?_ ?_
          · simp only [orS, Bool.not_or, Bool.and_eq_true] at hk
            exact hk.1
          · simp [orS, comp_refl hc]
          · rw [hp.1]; rfl
        obtain ⟨l, hl, hal⟩ := P.comps_all m (orS D (compS n R c)) (by omega) a ha (by simp [orS, hD, hac])
        exact ⟨l, List.mem_cons_of_mem _ hl, hal⟩

theorem closed_none : ClosedC n R fun _ => false := fun _ _ _ h => by cases h
theorem Pre.all (P : Pre n R) {a : Nat} (ha : a < n) : ∃ l ∈ compsL n R, (a : Int) ∈ l :=
  P.comps_all 24 _ (Nat.le_trans (List.length_filter_le _ _) (by simpa using P.le)) a ha rfl
theorem Pre.order (P : Pre n R) : (compsL n R).Pairwise (Behind R) := P.comps_order 24 _ closed_none
theorem Pre.from_ (P : Pre n R) {l : List Int} (h : l ∈ compsL n R) : ∃ a < n, l = members (compS n R a) := by
  obtain ⟨a, ha, e, _⟩ := P.comps_from 24 _ closed_none l h
  exact ⟨a, ha, e⟩

/-! ### when all is settled -/
theorem mem_pairs {hs : Nat → Nat → Bool} {a b : Nat} (hab : a < b) (hb : b < n) (h : hs a b = true) : ((a : Int), (b : Int)) ∈ pairsL n hs := by
  unfold pairsL pairsTo
  refine List.mem_flatMap.2 ⟨a, List.mem_range.2 (by omega), List.mem_map.2 ⟨b, List.mem_filter.2 ⟨?_, h⟩, rfl⟩⟩
  rw [List.mem_range'_1]; omega

theorem unset_false {a b : Nat} (h : unsetB R a b = false) : a ≠ b ∧ (R a b = true ∧ R b a = false ∨ R a b = false ∧ R b a = true) := by
  unfold unsetB at h
  unfold standR at h
  by_cases e : a = b
  · simp [e] at h
  · refine ⟨e, ?_⟩
    cases h1 : R a b <;> cases h2 : R b a <;> simp [h1, h2, e] at h ⊢

theorem settled_pair (h : pairsL n (unsetB R) = []) {a b : Nat} (ha : a < n) (hb : b < n) (hne : a ≠ b) : (R a b = true ∧ R b a = false) ∨ (R a b = false ∧ R b a = true) := by
  rcases Nat.lt_or_gt_of_ne hne with hlt | hlt
  · cases hu : unsetB R a b with
    | true => have := mem_pairs hlt hb hu; rw [h] at this; simp at this
    | false => exact (unset_false hu).2
  · cases hu : unsetB R b a with
    | true => have := mem_pairs hlt ha hu; rw [h] at this; simp at this
    | false => rcases (unset_false hu).2 with ⟨h1, h2⟩ | ⟨h1, h2⟩
               · exact .inr ⟨h2, h1⟩
               · exact .inl ⟨h2, h1⟩

theorem Pre.settled (P : Pre n R) (h : pairsL n (unsetB R) = []) : (compsL n R).flatten.length = n ∧ (compsL n R).flatten.Pairwise fun x y => ∃ a b : Nat, x = (a : Int) ∧ y = (b : Int) ∧ a < n ∧ b < n ∧ standR R a b = 1 := by
  have single : ∀ l ∈ compsL n R, ∃ a : Nat, a < n ∧ ∀ x ∈ l, x = (a : Int) := by
    intro l hl
    obtain ⟨a, ha, rfl⟩ := P.from_ hl
    refine ⟨a, ha, fun x hx => ?_⟩
    obtain ⟨k, rfl, _, hk⟩ := mem_members.1 hx
    obtain ⟨hkn, hk⟩ := compS_iff.1 hk
    rcases hk with rfl | ⟨h1, h2⟩
    · rfl
    · by_cases e : a = k
      · rw [e]
      · rcases settled_pair h ha hkn e with ⟨_, h4⟩ | ⟨h3, _⟩
        · rw [h2] at h4; cases h4
        · rw [h1] at h3; cases h3
  have hp : (compsL n R).flatten.Pairwise fun x y => ∃ a b : Nat, x = (a : Int) ∧ y = (b : Int) ∧ a < n ∧ b < n ∧ standR R a b = 1 := by
    refine List.pairwise_flatten.2 ⟨fun l hl => ?_, ?_⟩
    · obtain ⟨a, ha, rfl⟩ := P.from_ hl
      -- a component of one guest
      have hpw : (members (compS n R a)).Pairwise (· ≠ ·) := by
        unfold members
        rw [List.pairwise_map]
        refine List.Pairwise.imp ?_ (List.Pairwise.filter _ (List.nodup_range (n := 24)))
        intro p q hpq e
        exact hpq (by omega)
      obtain ⟨c, _, hc⟩ := single _ hl
      refine List.Pairwise.imp_of_mem (fun {x y} hx hy hxy => ?_) hpw
      exact absurd ((hc x hx).trans (hc y hy).symm) hxy
    · refine List.Pairwise.imp_of_mem (fun {l l'} hl hl' hb x hx y hy => ?_) P.order
      obtain ⟨a, b, rfl, rfl, hne, hba⟩ := hb x hx y hy
      obtain ⟨p, hp, hpx⟩ := single l hl
      obtain ⟨q, hq, hqy⟩ := single l' hl'
      have e1 : a = p := by have := hpx _ hx; omega
      have e2 : b = q := by have := hqy _ hy; omega
      subst e1 e2
      refine ⟨a, b, rfl, rfl, hp, hq, standR_one.2 ⟨hne, ?_, hba⟩⟩
      rcases settled_pair h hp hq hne with ⟨h3, _⟩ | ⟨_, h4⟩
      · exact h3
      · rw [hba] at h4; cases h4
  refine ⟨?_, hp⟩
  have hnd : (compsL n R).flatten.Nodup := by
    refine List.Pairwise.imp (fun {x y} hxy => ?_) hp
    obtain ⟨a, b, rfl, rfl, _, _, hs⟩ := hxy
    have := (standR_one.1 hs).1
    omega
  have hnd2 : ((List.range n).map fun (k : Nat) => (k : Int)).Nodup := by
    unfold List.Nodup
    rw [List.pairwise_map]
    exact List.Pairwise.imp (fun {p q} hpq e => hpq (by omega)) (List.nodup_range (n := n))
  have hperm := (List.perm_ext_iff_of_nodup hnd hnd2).2 fun x => by
    constructor
    · intro hx
      obtain ⟨l, hl, hxl⟩ := List.mem_flatten.1 hx
      obtain ⟨a, ha, hax⟩ := single l hl
      exact List.mem_map.2 ⟨a, List.mem_range.2 ha, (hax x hxl).symm⟩
    · intro hx
      obtain ⟨k, hk, rfl⟩ := List.mem_map.1 hx
      obtain ⟨l, hl, hkl⟩ := P.all (List.mem_range.1 hk)
      exact List.mem_flatten.2 ⟨l, hl, hkl⟩
  have := hperm.length_eq
  simpa using this
end

end Go.Proofs.Ytdfhfehlmonjjaa
