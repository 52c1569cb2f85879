/- rank: the laws RankSettles, RankWhole. -/
import Derived.Test.YtdfhfehlmonjjaaQ4
namespace Go.Proofs.Ytdfhfehlmonjjaa
open Go.Eng Go.RowKit

/-- Chains among 'n' guests. -/
structure Pre (n : Nat) (R : Nat → Nat → Bool) : Prop where
  le : n ≤ 24
  trans : ∀ a b c, R a b = true → R b c = true → R a c = true
  inside : ∀ a b, R a b = true → a < n ∧ b < n

theorem path_inside {n : Nat} {T : Nat → Nat → Bool} (hT : Inside n T) {a b : Nat} (h : Path T a b) : a < n ∧ b < n := by
  induction h with
  | one h => exact hT _ _ h
  | step _ h ih => exact ⟨ih.1, (hT _ _ h).2⟩

theorem pre_reach {n : Nat} {T : Nat → Nat → Bool} (hn : n ≤ 24) (hT : Inside n T) : Pre n (reach T) :=
  ⟨hn, fun _ _ _ h k => reach_iff.2 ((reach_iff.1 h).trans (reach_iff.1 k)), fun _ _ h => path_inside hT (reach_iff.1 h)⟩

theorem mem_members {S : Nat → Bool} {x : Int} : x ∈ members S ↔ ∃ k : Nat, x = (k : Int) ∧ k < 24 ∧ S k = true := by
  constructor
  · intro h
    obtain ⟨k, hk, rfl⟩ := List.mem_map.1 h
    obtain ⟨h1, h2⟩ := List.mem_filter.1 hk
    exact ⟨k, rfl, List.mem_range.1 h1, h2⟩
  · rintro ⟨k, rfl, h1, h2⟩
    exact List.mem_map.2 ⟨k, List.mem_filter.2 ⟨List.mem_range.2 h1, h2⟩, rfl⟩

theorem standR_three {R : Nat → Nat → Bool} {a b : Nat} : standR R a b = 3 ↔ a ≠ b ∧ R a b = true ∧ R b a = true := by
  unfold standR
  by_cases h : a = b
  · simp [h]
  · cases R a b <;> cases R b a <;> simp [h]

theorem compS_iff {n : Nat} {R : Nat → Nat → Bool} {a b : Nat} : compS n R a b = true ↔ b < n ∧ (a = b ∨ (R a b = true ∧ R b a = true)) := by
  unfold compS
  simp only [Bool.and_eq_true, Bool.or_eq_true, decide_eq_true_eq, standR_three]
  constructor
  · rintro ⟨h1, h2 | ⟨_, h3⟩⟩
    · exact ⟨h1, .inl h2⟩
    · exact ⟨h1, .inr h3⟩
  · rintro ⟨h1, h2 | h3⟩
    · exact ⟨h1, .inl h2⟩
    · by_cases h : a = b
      · exact ⟨h1, .inl h⟩
      · exact ⟨h1, .inr ⟨h, h3⟩⟩

section
variable {n : Nat} {R : Nat → Nat → Bool}

theorem Pre.comp_trans (P : Pre n R) {a b c : Nat} (h : compS n R a b = true) (k : compS n R b c = true) : compS n R a c = true := by
  rw [compS_iff] at *
  refine ⟨k.1, ?_⟩
  rcases h.2 with rfl | ⟨h1, h2⟩
  · exact k.2
  · rcases k.2 with rfl | ⟨k1, k2⟩
    · exact .inr ⟨h1, h2⟩
    · exact .inr ⟨P.trans _ _ _ h1 k1, P.trans _ _ _ k2 h2⟩

theorem comp_symm {a b : Nat} (ha : a < n) (h : compS n R a b = true) : compS n R b a = true := by
  rw [compS_iff] at *
  refine ⟨ha, ?_⟩
  rcases h.2 with rfl | ⟨h1, h2⟩
  · exact .inl rfl
  · exact .inr ⟨h2, h1⟩

/-- What is done is made of whole components. -/
def ClosedC (n : Nat) (R : Nat → Nat → Bool) (D : Nat → Bool) : Prop := ∀ a b, a < n → D a = true → compS n R a b = true → D b = true

theorem Pre.closed_or (P : Pre n R) {D : Nat → Bool} (h : ClosedC n R D) {a : Nat} : ClosedC n R (orS D (compS n R a)) := by
  intro c b hc hD hcb
  simp only [orS, Bool.or_eq_true] at hD ⊢
  rcases hD with hD | hD
  · exact .inl (h c b hc hD hcb)
  · exact .inr (P.comp_trans hD hcb)

theorem prec_false {a : Nat} {own D : Nat → Bool} (h : precS n R a own D = false) {b : Nat} (hb : b < n) (ho : own b = false) (hD : D b = false) : R b a = false := by
  unfold precS at h
  rw [List.any_eq_false] at h
  have := h b (List.mem_range.2 hb)
  rw [ho, hD] at this
  simpa using this

/-- Two components, the one behind the other. -/
def Behind (R : Nat → Nat → Bool) (l l' : List Int) : Prop := ∀ x ∈ l, ∀ y ∈ l', ∃ a b : Nat, x = (a : Int) ∧ y = (b : Int) ∧ a ≠ b ∧ R b a = false

theorem Pre.comps_from (P : Pre n R) : ∀ (m : Nat) (D : Nat → Bool), ClosedC n R D → ∀ l ∈ compsF n R m D, ∃ a < n, l = members (compS n R a) ∧ D a = false
  | 0, _, _, l, h => by simp [compsF] at h
  | m + 1, D, hD, l, h => by
    rw [compsF] at h
    cases hf : (List.range n).find? fun a => !(D a || precS n R a (compS n R a) D) with
    | none => rw [hf] at h; simp at h
    | some a =>
      rw [hf] at h
      have hp := List.find?_some hf
      simp only [Bool.not_eq_true', Bool.or_eq_false_iff] at hp
      have ha := List.mem_range.1 (List.mem_of_find?_eq_some hf)
      rcases List.mem_cons.1 h with rfl | h
      · exact ⟨a, ha, rfl, hp.1⟩
      · obtain ⟨b, hb, e, hDb⟩ := P.comps_from m _ (P.closed_or hD) l h
        simp only [orS, Bool.or_eq_false_iff] at hDb
        exact ⟨b, hb, e, hDb.1⟩

theorem Pre.comps_order (P : Pre n R) : ∀ (m : Nat) (D : Nat → Bool), ClosedC n R D → (compsF n R m D).Pairwise (Behind R)
  | 0, _, _ => by simp [compsF]
  | m + 1, D, hD => by
    rw [compsF]
    cases hf : (List.range n).find? fun a => !(D a || precS n R a (compS n R a) D) with
    | none => simp
    | some a =>
      have hp := List.find?_some hf
      simp only [Bool.not_eq_true', Bool.or_eq_false_iff] at hp
      have ha := List.mem_range.1 (List.mem_of_find?_eq_some hf)
      refine List.pairwise_cons.2 ⟨fun l' hl' => ?_, P.comps_order m _ (P.closed_or hD)⟩
      obtain ⟨b, hb, rfl, hDb⟩ := P.comps_from m _ (P.closed_or hD) l' hl'
      intro x hx y hy
      obtain ⟨i, rfl, hi24, hi⟩ := mem_members.1 hx
      obtain ⟨j, rfl, hj24, hj⟩ := mem_members.1 hy
      have hjn : j < n := (compS_iff.1 hj).1
      have hin : i < n := (compS_iff.1 hi).1
      have hDj : orS D (compS n R a) j = false := by
        cases h : orS D (compS n R a) j with
        | false => rfl
        | true =>
          have := P.closed_or hD j b hjn h (comp_symm hb hj)
          rw [hDb] at this; cases this
      simp only [orS, Bool.or_eq_false_iff] at hDj
      refine ⟨i, j, rfl, rfl, ?_, ?_⟩
      · intro e
        subst e
        rw [hi] at hDj; cases hDj.2
      · cases h : R j i with
        | false => rfl
        | true =>
          have hja : R j a = true := by
            rcases (compS_iff.1 hi).2 with rfl | ⟨_, h2⟩
            · exact h
            · exact P.trans _ _ _ h h2
          rw [prec_false hp.2 hjn hDj.2 hDj.1] at hja; cases hja

/-- How many are not done. -/
def left (n : Nat) (D : Nat → Bool) : Nat := ((List.range n).filter fun k => !D k).length

theorem Pre.first (P : Pre n R) (D : Nat → Bool) : ∀ (c a : Nat), ((List.range n).filter fun b => !D b && (R b a && !R a b)).length ≤ c → a < n → D a = false → ∃ b < n, D b = false ∧ precS n R b (compS n R b) D = false
  | c, a, hc, ha, hD => by
    by_cases hp : precS n R a (compS n R a) D = true
    · unfold precS at hp
      obtain ⟨b, hb, h⟩ := List.any_eq_true.1 hp
      simp only [Bool.and_eq_true, Bool.not_eq_true'] at h
      obtain ⟨⟨hown, hDb⟩, hba⟩ := h
      have hbn := List.mem_range.1 hb
      have hab : R a b = false := by
        cases h : R a b with
        | false => rfl
        | true =>
          have : compS n R a b = true := compS_iff.2 ⟨hbn, .inr ⟨h, hba⟩⟩
          rw [this] at hown; cases hown
      have hlt : ((List.range n).filter fun k => !D k && (R k b && !R b k)).length < ((List.range n).filter fun k => !D k && (R k a && !R a k)).length := by
        refine filter_lt _ (fun k hk => ?_) hb ?_ ?_
        · simp only [Bool.and_eq_true, Bool.not_eq_true'] at hk ⊢
          obtain ⟨h1, h2, h3⟩ := hk
          refine ⟨h1, P.trans _ _ _ h2 hba, ?_⟩
          cases h : R a k with
          | false => rfl
          | true => rw [P.trans _ _ _ hba h] at h3; cases h3
        · cases R b b <;> simp
        · rw [hDb, hba, hab]; rfl
      match c, hc with
      | 0, hc => omega
      | c + 1, hc => exact P.first D c b (by omega) hbn hDb
    · exact ⟨a, ha, hD, by simpa using hp⟩

theorem Pre.comps_all (P : Pre n R) : ∀ (m : Nat) (D : Nat → Bool), left n D ≤ m → ∀ a < n, D a = false → ∃ l ∈ compsF n R m D, (a : Int) ∈ l
  | 0, D, hm, a, ha, hD => by
    have : a ∈ (List.range n).filter fun k => !D k := List.mem_filter.2 ⟨List.mem_range.2 ha, by rw [hD]; rfl⟩
    have := List.length_pos_of_mem this
    unfold left at hm
    omega
  | m + 1, D, hm, a, ha, hD => by
    rw [compsF]
    cases hf : (List.range n).find? fun a => !(D a || precS n R a (compS n R a) D) with
    | none =>
      exfalso
      obtain ⟨b, hb, h1, h2⟩ := P.first D _ a (Nat.le_refl _) ha hD
      rw [List.find?_eq_none] at hf
      have := hf b (List.mem_range.2 hb)
      rw [h1, h2] at this
      exact this rfl
    | some c =>
      have hp := List.find?_some hf
      simp only [Bool.not_eq_true', Bool.or_eq_false_iff] at hp
      have hc := List.mem_range.1 (List.mem_of_find?_eq_some hf)
      have hn := P.le
      by_cases hac : compS n R c a = true
      · exact ⟨_, List.mem_cons_self, mem_members.2 ⟨a, rfl, by omega, hac⟩⟩
      · have hac : compS n R c a = false := by simpa using hac
        have hlt : left n (orS D (compS n R c)) < left n D := by
          refine filter_lt _ (fun k hk => ?_) (List.mem_range.2 hc) ?_ ?_
          · simp only [orS, Bool.not_or, Bool.and_eq_true] at hk
            exact hk.1
          · simp [orS, comp_refl hc]
          · rw [hp.1]; rfl
        obtain ⟨l, hl, hal⟩ := P.comps_all m (orS D (compS n R c)) (by omega) a ha (by simp [orS, hD, hac])
        exact ⟨l, List.mem_cons_of_mem _ hl, hal⟩

theorem closed_none : ClosedC n R fun _ => false := fun _ _ _ h => by cases h
theorem Pre.all (P : Pre n R) {a : Nat} (ha : a < n) : ∃ l ∈ compsL n R, (a : Int) ∈ l :=
  P.comps_all 24 _ (Nat.le_trans (List.length_filter_le _ _) (by simpa using P.le)) a ha rfl
theorem Pre.order (P : Pre n R) : (compsL n R).Pairwise (Behind R) := P.comps_order 24 _ closed_none
theorem Pre.from_ (P : Pre n R) {l : List Int} (h : l ∈ compsL n R) : ∃ a < n, l = members (compS n R a) := by
  obtain ⟨a, ha, e, _⟩ := P.comps_from 24 _ closed_none l h
  exact ⟨a, ha, e⟩

/-! ### when all is settled -/
theorem mem_pairs {hs : Nat → Nat → Bool} {a b : Nat} (hab : a < b) (hb : b < n) (h : hs a b = true) : ((a : Int), (b : Int)) ∈ pairsL n hs := by
  unfold pairsL pairsTo
  refine List.mem_flatMap.2 ⟨a, List.mem_range.2 (by omega), List.mem_map.2 ⟨b, List.mem_filter.2 ⟨?_, h⟩, rfl⟩⟩
  rw [List.mem_range'_1]; omega

theorem unset_false {a b : Nat} (h : unsetB R a b = false) : a ≠ b ∧ (R a b = true ∧ R b a = false ∨ R a b = false ∧ R b a = true) := by
  unfold unsetB at h
  unfold standR at h
  by_cases e : a = b
  · simp [e] at h
  · refine ⟨e, ?_⟩
    cases h1 : R a b <;> cases h2 : R b a <;> simp [h1, h2, e] at h ⊢

theorem settled_pair (h : pairsL n (unsetB R) = []) {a b : Nat} (ha : a < n) (hb : b < n) (hne : a ≠ b) : (R a b = true ∧ R b a = false) ∨ (R a b = false ∧ R b a = true) := by
  rcases Nat.lt_or_gt_of_ne hne with hlt | hlt
  · cases hu : unsetB R a b with
    | true => have := mem_pairs hlt hb hu; rw [h] at this; simp at this
    | false => exact (unset_false hu).2
  · cases hu : unsetB R b a with
    | true => have := mem_pairs hlt ha hu; rw [h] at this; simp at this
    | false => rcases (unset_false hu).2 with ⟨h1, h2⟩ | ⟨h1, h2⟩
               · exact .inr ⟨h2, h1⟩
               · exact .inl ⟨h2, h1⟩

theorem Pre.settled (P : Pre n R) (h : pairsL n (unsetB R) = []) : (compsL n R).flatten.length = n ∧ (compsL n R).flatten.Pairwise fun x y => ∃ a b : Nat, x = (a : Int) ∧ y = (b : Int) ∧ a < n ∧ b < n ∧ standR R a b = 1 := by
  have single : ∀ l ∈ compsL n R, ∃ a : Nat, a < n ∧ ∀ x ∈ l, x = (a : Int) := by
    intro l hl
    obtain ⟨a, ha, rfl⟩ := P.from_ hl
    refine ⟨a, ha, fun x hx => ?_⟩
    obtain ⟨k, rfl, _, hk⟩ := mem_members.1 hx
    obtain ⟨hkn, hk⟩ := compS_iff.1 hk
    rcases hk with rfl | ⟨h1, h2⟩
    · rfl
    · by_cases e : a = k
      · rw [e]
      · rcases settled_pair h ha hkn e with ⟨_, h4⟩ | ⟨h3, _⟩
        · rw [h2] at h4; cases h4
        · rw [h1] at h3; cases h3
  have hp : (compsL n R).flatten.Pairwise fun x y => ∃ a b : Nat, x = (a : Int) ∧ y = (b : Int) ∧ a < n ∧ b < n ∧ standR R a b = 1 := by
    refine List.pairwise_flatten.2 ⟨fun l hl => ?_, ?_⟩
    · obtain ⟨a, ha, rfl⟩ := P.from_ hl
      -- a component of one guest
      have hpw : (members (compS n R a)).Pairwise (· ≠ ·) := by
        unfold members
        rw [List.pairwise_map]
        refine List.Pairwise.imp ?_ (List.Pairwise.filter _ (List.nodup_range (n := 24)))
        intro p q hpq e
        exact hpq (by omega)
      obtain ⟨c, _, hc⟩ := single _ hl
      refine List.Pairwise.imp_of_mem (fun {x y} hx hy hxy => ?_) hpw
      exact absurd ((hc x hx).trans (hc y hy).symm) hxy
    · refine List.Pairwise.imp_of_mem (fun {l l'} hl hl' hb x hx y hy => ?_) P.order
      obtain ⟨a, b, rfl, rfl, hne, hba⟩ := hb x hx y hy
      obtain ⟨p, hp, hpx⟩ := single l hl
      obtain ⟨q, hq, hqy⟩ := single l' hl'
      have e1 : a = p := by have := hpx _ hx; omega
      have e2 : b = q := by have := hqy _ hy; omega
      subst e1 e2
      refine ⟨a, b, rfl, rfl, hp, hq, standR_one.2 ⟨hne, ?_, hba⟩⟩
      rcases settled_pair h hp hq hne with ⟨h3, _⟩ | ⟨_, h4⟩
      · exact h3
      · rw [hba] at h4; cases h4
  refine ⟨?_, hp⟩
  have hnd : (compsL n R).flatten.Nodup := by
    refine List.Pairwise.imp (fun {x y} hxy => ?_) hp
    obtain ⟨a, b, rfl, rfl, _, _, hs⟩ := hxy
    have := (standR_one.1 hs).1
    omega
  have hnd2 : ((List.range n).map fun (k : Nat) => (k : Int)).Nodup := by
    unfold List.Nodup
    rw [List.pairwise_map]
    exact List.Pairwise.imp (fun {p q} hpq e => hpq (by omega)) (List.nodup_range (n := n))
  have hperm := (List.perm_ext_iff_of_nodup hnd hnd2).2 fun x => by
    constructor
    · intro hx
      obtain ⟨l, hl, hxl⟩ := List.mem_flatten.1 hx
      obtain ⟨a, ha, hax⟩ := single l hl
      exact List.mem_map.2 ⟨a, List.mem_range.2 ha, (hax x hxl).symm⟩
    · intro hx
      obtain ⟨k, hk, rfl⟩ := List.mem_map.1 hx
      obtain ⟨l, hl, hkl⟩ := P.all (List.mem_range.1 hk)
      exact List.mem_flatten.2 ⟨l, hl, hkl⟩
  have := hperm.length_eq
  simpa using this
end

end Go.Proofs.Ytdfhfehlmonjjaa

namespace Go.Proofs.Ytdfhfehlmonjjaa
open Go.Eng Go.RowKit

theorem settled_facts {N : Int} {xs : List Arrow} (h : settledB N xs = true) : chk N xs = 0 ∧ unsetL N xs = [] ∧ (settledL N xs).length = N ∧ ∀ i k (hi : i < (settledL N xs).length) (hk : k < (settledL N xs).length), i < k → standS N xs (settledL N xs)[i] (settledL N xs)[k] = 1 := by
  have h0 := h
  unfold settledB at h
  simp only [Bool.and_eq_true, decide_eq_true_eq] at h
  obtain ⟨hv, hu⟩ := h
  have hok := valid_of_chk hv
  have hlo := hok.lo
  have hhi := hok.hi
  have P := pre_reach (by omega : N.toNat ≤ 24) hok.inside
  have hl : settledL N xs = (compsL N.toNat (reach (toM xs))).flatten := by rw [settledL, if_pos h0, compsV, if_pos hv]
  have hu' : pairsL N.toNat (unsetB (reach (toM xs))) = [] := by rw [unsetL, if_pos hv] at hu; exact hu
  obtain ⟨h1, h2⟩ := P.settled hu'
  refine ⟨hv, hu, by rw [hl, h1]; omega, ?_⟩
  rw [hl]
  intro i k hi hk hik
  obtain ⟨a, b, ea, eb, ha, hb, hs⟩ := (List.pairwise_iff_getElem.1 h2) i k hi hk hik
  rw [ea, eb]
  refine standS_one.2 ⟨hv, ?_, ?_, hs⟩
  · simp; omega
  · simp; omega

theorem settledL_no {N : Int} {xs : List Arrow} (h : settledB N xs = false) : settledL N xs = [] := by rw [settledL, h]; rfl

theorem RankSettles_spec {N : Int} {A : Option Addr} {xs : List Arrow} {c : Nat} {w : World} (h : HRel w N A xs c) :
    CallsV C.P 6 #[relVal N A xs.length c] w fun v w' => v = .bool true ∧ Ext w w' := by
  refine callsV_of C_ok (args := [_]) (plans := plans6) Try.func6 rfl Try.ntmps6 (by kernel_rfl) (Nat.le_of_ble_eq_true rfl) ?_
  intro g1 w1 h1
  have M1 := (Mem.start w).alloc h1
  refine ⟨[.int .i64 N, .slice A xs.length c], rfl, M1.rd 0 rfl, ?_⟩
  refine (huge_spec w1).mono ?_
  rintro v w2 ⟨rfl, e2⟩
  have M2 := M1.grow e2
  have stop : ∀ {w' : World}, Ext w w' → CallsV C.P 16 #[] w' fun v w'' => v = .bool true ∧ Ext w w'' := fun e => (stands_spec _).mono fun v w'' hh => ⟨hh.1, e.trans hh.2⟩
  refine brE_mk (fun _ => ?_) (fun _ => ?_)
  · exact stop M2.ext
  refine ⟨[.int .i64 N, .slice A xs.length c], rfl, M2.rd 0 rfl, ?_⟩
  refine (Settled_spec (h.ext M2.ext)).mono ?_
  rintro v w3 ⟨⟨u3, hv3, hl3⟩, e3⟩
  have M3 := M2.grow e3
  cases hs : settledB N xs with
  | true =>
    rw [hs] at hv3
    subst hv3
    obtain ⟨hv, hu, hlen, hpair⟩ := settled_facts hs
    generalize settledL N xs = l at hl3 hlen hpair
    obtain ⟨A3, c3, rfl, hr3, _⟩ := hl3.slice
    refine ⟨[.int .i64 N, .slice A xs.length c], rfl, M3.rd 0 rfl, ?_⟩
    refine (Unsettled_spec (h.ext M3.ext)).mono ?_
    rintro v w4 ⟨⟨u4, hv4, hp4⟩, e4⟩
    rw [hv] at hv4
    subst hv4
    rw [hu] at hp4
    obtain ⟨A4, c4, rfl, _, _⟩ := reads_of_owns hp4
    have M4 := M3.grow e4
    refine ⟨_, neqBool _ _ _ _, ?_⟩
    refine ⟨_, M4.cell 0 rfl rfl, ?_⟩
    refine brE_mk (fun hb => ?_) (fun _ => ?_)
    · exfalso
      have : ¬ (l.length : Int) = N := by simpa using hb
      exact this hlen
    have hlo := (valid_of_chk hv).lo
    have hhi := (valid_of_chk hv).hi
    refine loopE C_ok (fun (i : Nat) => [(1, .pointer (some ⟨g1, 0, none⟩)), (3, .slice A3 l.length c3), (7, .int .i64 i)])
      (fun i w' => i ≤ l.length ∧ Mem w3 w' [] ∧ Mem w w' [(g1, .cells #[.int .i64 N, .slice A xs.length c] 24 (0, 0))]) (fun i => l.length - i) 0 ⟨rfl, rfl, rfl, trivial⟩ ⟨Nat.zero_le _, (Mem.start w3).grow e4, M4⟩ ?_
    rintro i w5 ⟨hi, K5, M5⟩
    refine brE_dec (fun hlt => ?_) (fun hge => ?_)
    · have hlt : i < l.length := by omega
      refine ⟨((i + 1 : Nat) : Int), fit ⟨by omega, by omega⟩, ?_⟩
      refine loopE C_ok (fun (k : Nat) => [(1, .pointer (some ⟨g1, 0, none⟩)), (3, .slice A3 l.length c3), (7, .int .i64 i), (8, .int .i64 k)])
        (fun k w' => i + 1 ≤ k ∧ k ≤ l.length ∧ Mem w3 w' [] ∧ Mem w w' [(g1, .cells #[.int .i64 N, .slice A xs.length c] 24 (0, 0))]) (fun k => l.length - k) (i + 1) ⟨rfl, rfl, rfl, rfl, trivial⟩ ⟨Nat.le_refl _, hlt, K5, M5⟩ ?_
      rintro k w6 ⟨hik, hk, K6, M6⟩
      refine brE_dec (fun hlt2 => ?_) (fun hge2 => ?_)
      · have hlt2 : k < l.length := by omega
        obtain ⟨b1, o1, hA, hc1⟩ := Reads.int (hr3.ext K6.ext) hlt
        obtain ⟨b2, o2, hB, hc2⟩ := Reads.int (hr3.ext K6.ext) hlt2
        refine ⟨[.int .i64 N, .slice A xs.length c], rfl, M6.rd 0 rfl, ?_⟩
        refine ⟨i, b1, o1, rfl, hlt, hA, ?_⟩
        refine ⟨_, by simpa using hc1, ?_⟩
        refine ⟨k, b2, o2, rfl, hlt2, hB, ?_⟩
        refine ⟨_, by simpa using hc2, ?_⟩
        refine (Standing_spec (h.ext M6.ext) l[i] l[k]).mono ?_
        rintro v w7 ⟨hv7, e7⟩
        rw [hpair i k hlt hlt2 (by omega)] at hv7
        subst hv7
        refine ⟨((k + 1 : Nat) : Int), fit ⟨by omega, by omega⟩, ?_⟩
        exact ⟨k + 1, ⟨rfl, rfl, rfl, rfl, trivial⟩, ⟨by omega, hlt2, K6.grow e7, M6.grow e7⟩, by omega⟩
      · refine ⟨((i + 1 : Nat) : Int), fit ⟨by omega, by omega⟩, ?_⟩
        exact ⟨i + 1, ⟨rfl, rfl, rfl, trivial⟩, ⟨hlt, K6, M6⟩, by omega⟩
    · exact stop M5.ext
  | false =>
    rw [hs] at hv3
    subst hv3
    rw [settledL_no hs] at hl3
    obtain ⟨A3, c3, rfl, _, _⟩ := hl3.slice
    refine ⟨[.int .i64 N, .slice A xs.length c], rfl, M3.rd 0 rfl, ?_⟩
    refine (Unsettled_spec (h.ext M3.ext)).mono ?_
    rintro v w4 ⟨⟨u4, rfl, hp4⟩, e4⟩
    have M4 := M3.grow e4
    obtain ⟨A4, c4, rfl, _, _⟩ := reads_of_owns hp4
    have hno : ¬ (chk N xs = 0 ∧ unsetL N xs = []) := by
      intro ⟨h3, h4⟩
      have : settledB N xs = true := by simp [settledB, h3, h4]
      rw [hs] at this; cases this
    refine brE_dec (fun hv => ?_) (fun _ => ?_)
    · have hne : ¬ unsetL N xs = [] := fun e => hno ⟨hv, e⟩
      have hlen : decide (((unsetL N xs).length : Int) = 0) = false := by
        rw [decide_eq_false_iff_not]
        intro e
        exact hne (List.length_eq_zero_iff.1 (by omega))
      refine ⟨_, neqBool _ _ _ _, ?_⟩
      refine brE_mk (fun hb => ?_) (fun _ => ?_)
      · exfalso
        have hb : (false != decide (((unsetL N xs).length : Int) = 0)) = true := hb
        rw [hlen] at hb; cases hb
      · refine loopE C_ok (fun (i : Nat) => [(1, .pointer (some ⟨g1, 0, none⟩)), (3, .slice A3 0 c3), (7, .int .i64 i)])
          (fun i w' => i ≤ 0 ∧ Ext w w') (fun i => 0 - i) 0 ⟨rfl, rfl, rfl, trivial⟩ ⟨Nat.le_refl _, M4.ext⟩ ?_
        rintro i w5 ⟨hi, e5⟩
        obtain rfl : i = 0 := by omega
        exact stop e5
    · refine ⟨_, neqBool _ _ _ _, ?_⟩
      refine loopE C_ok (fun (i : Nat) => [(1, .pointer (some ⟨g1, 0, none⟩)), (3, .slice A3 0 c3), (7, .int .i64 i)])
        (fun i w' => i ≤ 0 ∧ Ext w w') (fun i => 0 - i) 0 ⟨rfl, rfl, rfl, trivial⟩ ⟨Nat.le_refl _, M4.ext⟩ ?_
      rintro i w5 ⟨hi, e5⟩
      obtain rfl : i = 0 := by omega
      exact stop e5

end Go.Proofs.Ytdfhfehlmonjjaa

namespace Go.Proofs.Ytdfhfehlmonjjaa
open Go.Eng Go.RowKit

/-- Two levels: the higher one. -/
theorem maxQ {o : Oper} {l : Env} {w : World} {x y : Operand} {ts : Array Nat} {a b : Int} (ho : o.op = .call ⟨.builtin .max, #[x, y], ts⟩) (hx : evo l x = some (.int .i64 a)) (hy : evo l y = some (.int .i64 b)) :
    QuietRun C o l w (.int .i64 (if b > a then b else a)) := by
  intro ρ hρ w' _
  unfold execOp
  rw [ho]
  simp [resolve, invoke, builtin, hρ _ _ hx, hρ _ _ hy, Builtin.max_, Builtin.max2]

/-- The level of a component whose first guest is 'z', given the levels so far. -/
def levTo (R : Nat → Nat → Bool) (f : Nat → Nat) (z : Nat) : Nat → Nat
  | 0 => 0
  | b + 1 => if standR R b z = 1 then max (levTo R f z b) (f b + 1) else levTo R f z b

def levF (n : Nat) (R : Nat → Nat → Bool) : List (List Int) → (Nat → Nat) → Nat → Nat
  | [], f => f
  | l :: L, f => levF n R L fun a => if (a : Int) ∈ l then levTo R f (l.headD 0).toNat n else f a

/-- The row of the first 'n' numbers of a function. -/
def natsN (n : Nat) (f : Nat → Nat) : List Int := (List.range n).map fun k => ((f k : Nat) : Int)
theorem natsN_length (n : Nat) (f : Nat → Nat) : (natsN n f).length = n := by simp [natsN]
theorem natsN_get {n i : Nat} (h : i < n) (f : Nat → Nat) : (ints (natsN n f))[i]? = some (.int .i64 (f i : Nat)) := by simp [ints, natsN, h]
theorem natsN_set {n i : Nat} (h : i < n) (f : Nat → Nat) (v : Nat) : splice (ints (natsN n f)) i [.int .i64 (v : Nat)] = ints (natsN n fun a => if a = i then v else f a) := by
  rw [splice_one (by rw [ints_length, natsN_length]; exact h)]
  apply List.ext_getElem?
  intro k
  rw [List.getElem?_set]
  by_cases hk : i = k
  · subst hk
    rw [if_pos rfl, natsN_get h, if_pos (by rw [ints_length, natsN_length]; exact h), if_pos rfl]
  · rw [if_neg hk]
    by_cases hkn : k < n
    · rw [natsN_get hkn, natsN_get hkn, if_neg (fun e => hk e.symm)]
    · rw [List.getElem?_eq_none (by rw [ints_length, natsN_length]; omega), List.getElem?_eq_none (by rw [ints_length, natsN_length]; omega)]

theorem levTo_le {R : Nat → Nat → Bool} {f : Nat → Nat} {z c : Nat} (h : ∀ b, f b ≤ c) : ∀ b, levTo R f z b ≤ c + 1
  | 0 => by simp [levTo]
  | b + 1 => by
    have h1 := levTo_le (R := R) (z := z) h b
    have h2 := h b
    rw [levTo]
    split <;> omega

theorem zeros_natsN (n : Nat) : List.replicate n (Value.int .i64 0) = ints (natsN n fun _ => 0) := by
  apply List.ext_getElem?
  intro i
  by_cases h : i < n
  · rw [natsN_get h, List.getElem?_replicate, if_pos h]; rfl
  · rw [List.getElem?_eq_none (by simp; omega), List.getElem?_eq_none (by rw [ints_length, natsN_length]; omega)]

/-- The guests of the first 'k' of a component have their level. -/
def setTo (l : List Int) (v : Nat) (f : Nat → Nat) (k : Nat) : Nat → Nat := fun a => if (a : Int) ∈ l.take k then v else f a

theorem setTo_succ {l : List Int} {v k y : Nat} {f : Nat → Nat} (hk : k < l.length) (hy : l[k] = (y : Int)) : (fun a => if a = y then v else setTo l v f k a) = setTo l v f (k + 1) := by
  funext a
  unfold setTo
  rw [List.take_succ_eq_append_getElem hk, hy]
  by_cases h : a = y
  · subst h; simp
  · simp only [List.mem_append, List.mem_singleton, if_neg h]
    have : ¬ (a : Int) = (y : Int) := by omega
    simp [this]

theorem setTo_all (l : List Int) (v : Nat) (f : Nat → Nat) : setTo l v f l.length = fun (a : Nat) => if (a : Int) ∈ l then v else f a := by
  funext a; unfold setTo; rw [List.take_length]
theorem setTo_zero (l : List Int) (v : Nat) (f : Nat → Nat) : setTo l v f 0 = f := by
  funext a; unfold setTo; simp

theorem levF_snoc (n : Nat) (R : Nat → Nat → Bool) (l : List Int) : ∀ (L : List (List Int)) (f : Nat → Nat), levF n R (L ++ [l]) f = fun (a : Nat) => if (a : Int) ∈ l then levTo R (levF n R L f) (l.headD 0).toNat n else levF n R L f a
  | [], f => rfl
  | k :: L, f => by rw [List.cons_append, levF, levF_snoc n R l L, levF]

theorem levF_le {n : Nat} {R : Nat → Nat → Bool} : ∀ (L : List (List Int)) (f : Nat → Nat) (c : Nat), (∀ b, f b ≤ c) → ∀ b, levF n R L f b ≤ c + L.length
  | [], f, c, h, b => by simpa [levF] using h b
  | l :: L, f, c, h, b => by
    rw [levF]
    have := levF_le (n := n) (R := R) L (fun a => if (a : Int) ∈ l then levTo R f (l.headD 0).toNat n else f a) (c + 1) (fun a => by
      have h1 := levTo_le (R := R) (z := (l.headD 0).toNat) h n
      have h2 := h a
      show (if _ then _ else _) ≤ _
      split <;> omega) b
    simp only [List.length_cons]
    omega

theorem maxQ' {o : Oper} {l : Env} {w : World} {x y : Operand} {ts : Array Nat} {a b c : Int} (hm : (if b > a then b else a) = c) (ho : o.op = .call ⟨.builtin .max, #[x, y], ts⟩) (hx : evo l x = some (.int .i64 a)) (hy : evo l y = some (.int .i64 b)) :
    QuietRun C o l w (.int .i64 c) := by
  rw [← hm]
  exact maxQ ho hx hy

theorem AllRows.put {w w' : World} {B g : Nat} {o : Obj} {us : List Value} {ls : List (List Int)} (h : AllRows w B us ls) (p : Put w g o w') (hg : g < B) : AllRows w' B us ls := by
  induction h with
  | nil => exact .nil
  | cons h _ ih => exact .cons (ownsRow_put h p (fun e => by have := (h.lt g e).1; omega)) ih
theorem Lists.put {w w' : World} {B g : Nat} {o : Obj} {v : Value} {L : List (List Int)} (h : Lists B w v L) (p : Put w g o w') (hg : g < B) : Lists B w' v L :=
  let ⟨us, h1, h2⟩ := h
  ⟨us, ownsRow_put h1 p (fun e => by have := (h1.lt g e).1; omega), h2.put p hg⟩

/-- What Levels says of a valid relation. -/
def levelsL (n : Nat) (R : Nat → Nat → Bool) : Nat → Nat := levF n R (compsL n R) fun _ => 0
noncomputable def levelsV (N : Int) (xs : List Arrow) : List Int := if chk N xs = 0 then natsN N.toNat (levelsL N.toNat (reach (toM xs))) else []

theorem Levels_spec {N : Int} {A : Option Addr} {xs : List Arrow} {c : Nat} {w : World} (h : HRel w N A xs c) :
    CallsV C.P 23 #[relVal N A xs.length c] w fun v w' => NewInts w w' v (levelsV N xs) ∧ Ext w w' := by
  refine callsV_of C_ok (args := [_]) (plans := []) Try.func23 rfl Try.ntmps23 (by kernel_rfl) (Nat.le_of_ble_eq_true rfl) ?_
  intro g1 w1 h1
  have M1 := (Mem.start w).alloc h1
  refine ⟨[.int .i64 N, .slice A xs.length c], rfl, M1.rd 0 rfl, ?_⟩
  by_cases hv : chk N xs = 0
  · have hok := valid_of_chk hv
    have hlo := hok.lo
    have hhi := hok.hi
    refine (open_yes (h.ext M1.ext) hok).mono ?_
    rintro v w2 ⟨g, rfl, hg, hw, he⟩
    have M2 := M1.grow he
    obtain ⟨n, rfl⟩ := Int.eq_ofNat_of_zero_le hlo
    have hn : n ≤ 24 := by omega
    refine ⟨_, hw.n, ?_⟩
    refine ⟨n, n, rfl, rfl, Nat.le_refl _, by omega, by omega, rfl, rfl, rfl, rfl, ?_⟩
    intro go w3 h3
    have h3 : Alloc w2 go (.cells (ints (natsN n fun _ => 0)).toArray 3 (0, 0)) w3 := by rw [← zeros_natsN]; exact h3
    have M3 := M2.alloc h3
    have hw3 := hw.ext h3.ext
    refine (components_spec hw3 hn).mono ?_
    rintro v w4 ⟨hl4, e4⟩
    obtain ⟨A4, c4, us, rfl, hr4⟩ := hl4.read
    have P := pre_reach hn hok.inside
    have M4 : Mem w w4 [(go, .cells (ints (natsN n fun _ => 0)).toArray 3 (0, 0))] := (M3.grow e4).sub (List.Sublist.cons_cons _ (List.nil_sublist _))
    have hlv : levelsV n xs = natsN n (levelsL n (reach (toM xs))) := by rw [levelsV, if_pos hv]; rfl
    rw [hlv]
    have hw4 : Web w4 g n (toM xs) (reach (toM xs)) := hw3.ext e4
    have hgo : go < w3.heap.size := by rw [h3.size, h3.new]; omega
    have hgne : g ≠ go := by
      intro e
      have := lt_of_heap hw
      rw [e, h3.new] at this
      exact Nat.lt_irrefl _ this
    generalize reach (toM xs) = R at *
    have hpr := compsL_props (R := R) hn
    unfold levelsL
    have hfrom : ∀ l ∈ compsL n R, ∃ a < n, l = members (compS n R a) := fun l hl => P.from_ hl
    generalize compsL n R = L at *
    refine loopE C_ok (fun (i : Nat) => [(3, .pointer (some ⟨g, 0, none⟩)), (5, .slice (some ⟨go, 0, none⟩) n n), (25, .slice A4 L.length c4), (26, .int .i64 L.length), (27, .int .i64 i)])
      (fun i w' => i ≤ L.length ∧ Lists w3.heap.size w' (.slice A4 L.length c4) L ∧ Web w' g n (toM xs) R ∧ Mem w w' [(go, .cells (ints (natsN n (levF n R (L.take i) fun _ => 0))).toArray 3 (0, 0))])
      (fun i => L.length - i) 0 ⟨rfl, rfl, rfl, rfl, rfl, trivial⟩ ⟨Nat.zero_le _, hl4, hw4, M4⟩ ?_
    rintro i w5 ⟨hi, hl5, hw5, M5⟩
    refine brE_dec (fun hlt => ?_) (fun hge => ?_)
    · have hlt : i < L.length := by omega
      obtain ⟨us5, ho5, hrows5⟩ := hl5
      obtain ⟨u, hu, hou⟩ := hrows5.at hlt
      obtain ⟨A6, c6, e6, hr6, _⟩ := reads_of_owns hou
      subst e6
      obtain ⟨A4', c4', e4', hr4', _⟩ := reads_of_owns ho5
      cases e4'
      rcases hr4' with h0 | ⟨b, o, hA, hrd⟩
      · rw [h0] at hu; simp at hu
      refine ⟨i, b, o, rfl, hlt, hA, ?_⟩
      refine ⟨_, by have := hrd i _ hu; simpa using this, ?_⟩
      refine ⟨_, hw5.n, ?_⟩
      obtain ⟨z0, hz0, el⟩ := hfrom L[i] (List.getElem_mem _)
      have hlen24 := hpr.2.1 L[i] (List.getElem_mem _)
      have hne := hpr.2.2 L[i] (List.getElem_mem _)
      have hfb := levF_le (n := n) (R := R) (L.take i) (fun _ => 0) 0 (fun _ => Nat.le_refl _)
      have hti : (L.take i).length ≤ 24 := by rw [List.length_take]; omega
      have hsn := levF_snoc n R L[i] (L.take i) fun _ => 0
      rw [← List.take_succ_eq_append_getElem hlt] at hsn
      generalize levF n R (L.take i) (fun _ => 0) = f at *
      generalize L[i] = l at *
      have hget : ∀ k (hk : k < l.length), ∃ y : Nat, l[k] = (y : Int) ∧ y < n := by
        intro k hk
        have hm : ∀ x ∈ l, x ∈ members (compS n R z0) := fun x hx => by rw [← el]; exact hx
        obtain ⟨y, hy, _, hc⟩ := mem_members.1 (hm _ (List.getElem_mem hk))
        exact ⟨y, hy, (compS_iff.1 hc).1⟩
      have hpos : 0 < l.length := List.length_pos_iff.2 hne
      obtain ⟨z, hz, hzn⟩ := hget 0 hpos
      have hhead : (l.headD 0).toNat = z := by
        cases l with
        | nil => simp at hpos
        | cons x l => simp at hz; simp [hz]
      rw [hhead] at hsn
      refine loopE C_ok (fun (b : Nat) => [(3, .pointer (some ⟨g, 0, none⟩)), (5, .slice (some ⟨go, 0, none⟩) n n), (7, .slice A6 l.length c6), (8, .int .i64 (levTo R f z b : Nat)), (25, .slice A4 L.length c4), (26, .int .i64 L.length), (27, .int .i64 i), (34, .int .i64 n), (35, .int .i64 b)])
        (fun b w' => b ≤ n ∧ w' = w5) (fun b => n - b) 0 ⟨rfl, rfl, rfl, rfl, rfl, rfl, rfl, rfl, rfl, trivial⟩ ⟨Nat.zero_le _, rfl⟩ ?_
      rintro b w6 ⟨hb, rfl⟩
      refine brE_dec (fun hlt2 => ?_) (fun hge2 => ?_)
      · have hlt2 : b < n := by omega
        obtain ⟨b1, o1, hA1, hc1⟩ := Reads.int hr6 hpos
        rw [hz] at hc1
        refine ⟨0, b1, o1, rfl, hpos, hA1, ?_⟩
        refine ⟨_, by simpa using hc1, ?_⟩
        refine (standing_spec hw5 (a := b) (b := z) (by omega) (by omega)).mono ?_
        rintro v w7 ⟨rfl, rfl⟩
        have next : IntKind.i64.wrap ((b : Int) + 1) = ((b + 1 : Nat) : Int) := fit ⟨by omega, by omega⟩
        refine brE_dec (fun hs => ?_) (fun hs => ?_)
        · have hf := hfb b
          refine ⟨b, go, 0, rfl, hlt2, rfl, ?_⟩
          refine ⟨.int .i64 (f b : Nat), by have := M5.rd 0 rfl b _ (natsN_get hlt2 f); simpa using this, ?_⟩
          refine ⟨((f b + 1 : Nat) : Int), fit ⟨by omega, by omega⟩, ?_⟩
          have hmx : (if ((f b + 1 : Nat) : Int) > ((levTo R f z b : Nat) : Int) then ((f b + 1 : Nat) : Int) else ((levTo R f z b : Nat) : Int)) = ((levTo R f z (b + 1) : Nat) : Int) := by
            rw [levTo, if_pos hs]
            split <;> omega
          refine ⟨_, maxQ' hmx rfl rfl rfl, ?_⟩
          refine ⟨_, next, ?_⟩
          exact ⟨b + 1, ⟨rfl, rfl, rfl, rfl, rfl, rfl, rfl, rfl, rfl, trivial⟩, ⟨hlt2, rfl⟩, by omega⟩
        · have hst : levTo R f z (b + 1) = levTo R f z b := by rw [levTo, if_neg hs]
          refine ⟨_, next, ?_⟩
          exact ⟨b + 1, ⟨rfl, rfl, rfl, by rw [hst]; rfl, rfl, rfl, rfl, rfl, rfl, trivial⟩, ⟨hlt2, rfl⟩, by omega⟩
      · have : b = n := by omega
        subst this
        have hlv0 : levTo R f z b ≤ 25 := by
          have := levTo_le (R := R) (z := z) (f := f) (c := 24) (fun k => by have := hfb k; omega) b
          omega
        generalize levTo R f z b = lv at *
        refine loopE C_ok (fun (k : Nat) => [(3, .pointer (some ⟨g, 0, none⟩)), (5, .slice (some ⟨go, 0, none⟩) b b), (8, .int .i64 lv), (25, .slice A4 L.length c4), (26, .int .i64 L.length), (27, .int .i64 i), (53, .slice A6 l.length c6), (54, .int .i64 l.length), (55, .int .i64 k)])
          (fun k w' => k ≤ l.length ∧ Lists w3.heap.size w' (.slice A4 L.length c4) L ∧ Web w' g b (toM xs) R ∧ w'.ownsRow w3.heap.size 3 1 (.slice A6 l.length c6) l.length (ints l) ∧ Mem w w' [(go, .cells (ints (natsN b (setTo l lv f k))).toArray 3 (0, 0))])
          (fun k => l.length - k) 0 ⟨rfl, rfl, rfl, rfl, rfl, rfl, rfl, rfl, rfl, trivial⟩ ⟨Nat.zero_le _, ⟨us5, ho5, hrows5⟩, hw5, hou, by rw [setTo_zero]; exact M5⟩ ?_
        rintro k w7 ⟨hk, hl7, hw7, ho7, M7⟩
        refine brE_dec (fun hlt3 => ?_) (fun hge3 => ?_)
        · have hlt3 : k < l.length := by omega
          obtain ⟨y, hy, hyn⟩ := hget k hlt3
          obtain ⟨A7, c7, e7, hr7, _⟩ := reads_of_owns ho7
          cases e7
          obtain ⟨b1, o1, hA1, hc1⟩ := Reads.int hr7 hlt3
          rw [hy] at hc1
          refine ⟨k, b1, o1, rfl, hlt3, hA1, ?_⟩
          refine ⟨_, by simpa using hc1, ?_⟩
          refine ⟨y, go, 0, rfl, hyn, rfl, ?_⟩
          refine ⟨rfl, _, _, M7.get 0 rfl, by rw [ints_length, natsN_length]; show 0 + y * 1 + 1 ≤ b; omega, rfl, ?_⟩
          intro w8 h8
          have e8 : splice (ints (natsN b (setTo l lv f k))) (0 + y * 1) [.int .i64 lv] = ints (natsN b (setTo l lv f (k + 1))) := by
            have := natsN_set hyn (setTo l lv f k) lv
            rw [setTo_succ hlt3 hy] at this
            simpa using this
          have h8 : Put w7 go (.cells (ints (natsN b (setTo l lv f (k + 1)))).toArray 3 (0, 0)) w8 := by rw [← e8]; exact h8
          refine ⟨((k + 1 : Nat) : Int), fit ⟨by omega, by omega⟩, ?_⟩
          exact ⟨k + 1, ⟨rfl, rfl, rfl, rfl, rfl, rfl, rfl, rfl, rfl, trivial⟩, ⟨hlt3, hl7.put h8 hgo, (h8.there g hgne).trans hw7, ownsRow_put ho7 h8 (fun e => by have := (ho7.lt go e).1; omega), M7.put 0 rfl h8⟩, by omega⟩
        · have : k = l.length := by omega
          subst this
          rw [setTo_all, ← hsn] at M7
          refine ⟨((i + 1 : Nat) : Int), fit ⟨by omega, by omega⟩, ?_⟩
          exact ⟨i + 1, ⟨rfl, rfl, rfl, rfl, rfl, trivial⟩, ⟨hlt, hl7, hw7, M7⟩, by omega⟩
    · have : i = L.length := by omega
      subst this
      rw [List.take_length] at M5
      refine ⟨?_, M5.ext⟩
      have := owns_block (e := 3) (base := w.heap.size) (size := 1) (n := n) (M5.get 0 rfl) (M5.new 0 rfl) (by rw [ints_length, natsN_length, Nat.mul_one]) (by simp only [maxLen]; omega)
      unfold NewInts
      rw [natsN_length]
      exact this
  · refine (open_no (h.ext M1.ext) hv).mono ?_
    rintro v w2 ⟨rfl, he⟩
    rw [levelsV, if_neg hv]
    exact ⟨World.ownsRow_nil _ _ _ _, (M1.grow he).ext⟩

end Go.Proofs.Ytdfhfehlmonjjaa

namespace Go.Proofs.Ytdfhfehlmonjjaa
open Go.Eng Go.RowKit

section
variable {n : Nat} {R : Nat → Nat → Bool}

theorem Pre.uniq (P : Pre n R) {x : Int} {i j : Nat} (hi : i < (compsL n R).length) (hj : j < (compsL n R).length) (h1 : x ∈ (compsL n R)[i]) (h2 : x ∈ (compsL n R)[j]) : i = j := by
  have hp := List.pairwise_iff_getElem.1 P.order
  rcases Nat.lt_trichotomy i j with h | h | h
  · obtain ⟨a, b, e1, e2, hne, _⟩ := hp i j hi hj h x h1 x h2
    omega
  · exact h
  · obtain ⟨a, b, e1, e2, hne, _⟩ := hp j i hj hi h x h2 x h1
    omega

theorem Pre.where_ (P : Pre n R) {a : Nat} (ha : a < n) : ∃ i, ∃ hi : i < (compsL n R).length, (a : Int) ∈ (compsL n R)[i] := by
  obtain ⟨l, hl, hm⟩ := P.all ha
  obtain ⟨i, hi, rfl⟩ := List.getElem_of_mem hl
  exact ⟨i, hi, hm⟩

open Classical in
/-- In which component a guest is. -/
noncomputable def ix (n : Nat) (R : Nat → Nat → Bool) (a : Nat) : Nat := if h : ∃ i, ∃ hi : i < (compsL n R).length, (a : Int) ∈ (compsL n R)[i] then h.choose else 0

theorem Pre.ix_at (P : Pre n R) {a : Nat} (ha : a < n) : ∃ hi : ix n R a < (compsL n R).length, (a : Int) ∈ (compsL n R)[ix n R a] := by
  have h := P.where_ ha
  unfold ix
  rw [dif_pos h]
  exact h.choose_spec
theorem Pre.ix_eq (P : Pre n R) {a i : Nat} (ha : a < n) (hi : i < (compsL n R).length) (h : (a : Int) ∈ (compsL n R)[i]) : ix n R a = i := by
  obtain ⟨hj, hm⟩ := P.ix_at ha
  exact P.uniq hj hi hm h

theorem Pre.nodup_flat (P : Pre n R) : (compsL n R).flatten.Nodup := by
  refine List.pairwise_flatten.2 ⟨fun l hl => ?_, ?_⟩
  · obtain ⟨a, ha, rfl⟩ := P.from_ hl
    unfold members
    rw [List.pairwise_map]
    refine List.Pairwise.imp ?_ (List.Pairwise.filter _ (List.nodup_range (n := 24)))
    intro p q hpq e
    exact hpq (by omega)
  · refine List.Pairwise.imp (fun {l l'} hb x hx y hy e => ?_) P.order
    obtain ⟨a, b, e1, e2, hne, _⟩ := hb x hx y hy
    omega

theorem Pre.count_one (P : Pre n R) {a : Nat} (ha : a < n) : (compsL n R).flatten.count (a : Int) = 1 := by
  obtain ⟨l, hl, hm⟩ := P.all ha
  rw [List.Nodup.count P.nodup_flat, if_pos (List.mem_flatten.2 ⟨l, hl, hm⟩)]

theorem Pre.lev_at (P : Pre n R) {a i : Nat} (hi : i < (compsL n R).length) (h : (a : Int) ∈ (compsL n R)[i]) : ∀ j, i < j → j ≤ (compsL n R).length →
    levF n R ((compsL n R).take j) (fun _ => 0) a = levTo R (levF n R ((compsL n R).take i) fun _ => 0) ((compsL n R)[i].headD 0).toNat n
  | 0, h0, _ => absurd h0 (Nat.not_lt_zero _)
  | j + 1, hij, hj => by
    have hjl : j < (compsL n R).length := hj
    rw [List.take_succ_eq_append_getElem hjl, levF_snoc]
    by_cases e : j = i
    · subst e
      show (if _ then _ else _) = _
      rw [if_pos h]
    · have hno : ¬ (a : Int) ∈ (compsL n R)[j] := fun hm => e (P.uniq hjl hi hm h)
      show (if _ then _ else _) = _
      rw [if_neg hno]
      exact P.lev_at hi h j (by omega) (by omega)

theorem levTo_ge {f : Nat → Nat} {z b : Nat} (h : standR R b z = 1) : ∀ m, b < m → f b + 1 ≤ levTo R f z m
  | 0, hb => absurd hb (Nat.not_lt_zero _)
  | m + 1, hb => by
    rw [levTo]
    by_cases e : b = m
    · subst e; rw [if_pos h]; omega
    · have := levTo_ge (f := f) h m (by omega)
      split <;> omega

/-- Along an arrow. -/
theorem Pre.arrow (P : Pre n R) {p q : Nat} (h : R p q = true) : ix n R p ≤ ix n R q ∧ (ix n R p = ix n R q → levelsL n R p = levelsL n R q) ∧ (ix n R p < ix n R q → levelsL n R p < levelsL n R q) := by
  obtain ⟨hp, hq⟩ := P.inside _ _ h
  obtain ⟨hi, hmi⟩ := P.ix_at hp
  obtain ⟨hj, hmj⟩ := P.ix_at hq
  have hpw := List.pairwise_iff_getElem.1 P.order
  have li := P.lev_at hi hmi (compsL n R).length hi (Nat.le_refl _)
  have lj := P.lev_at hj hmj (compsL n R).length hj (Nat.le_refl _)
  rw [List.take_length] at li lj
  refine ⟨?_, fun e => ?_, fun hlt => ?_⟩
  · rcases Nat.lt_or_ge (ix n R q) (ix n R p) with hlt | hge
    · obtain ⟨a, b, e1, e2, _, hba⟩ := hpw _ _ hj hi hlt _ hmj _ hmi
      have e1 : q = a := by omega
      have e2 : p = b := by omega
      subst e1 e2
      rw [h] at hba; cases hba
    · exact hge
  · unfold levelsL
    rw [li, lj]
    simp only [e]
  · unfold levelsL
    rw [lj]
    have lp := P.lev_at hi hmi (ix n R q) hlt (Nat.le_of_lt hj)
    rw [li, ← lp]
    obtain ⟨a, ha, el⟩ := P.from_ (List.getElem_mem hj)
    have hmem : ∀ x, x ∈ (compsL n R)[ix n R q] ↔ x ∈ members (compS n R a) := fun x => by rw [el]
    have hz : ∃ z : Nat, ((compsL n R)[ix n R q].headD 0).toNat = z ∧ (z : Int) ∈ (compsL n R)[ix n R q] := by
      cases hl : (compsL n R)[ix n R q] with
      | nil => rw [hl] at hmj; simp at hmj
      | cons x r =>
        have hx : x ∈ (compsL n R)[ix n R q] := by rw [hl]; simp
        obtain ⟨k, hk, _⟩ := mem_members.1 ((hmem x).1 hx)
        subst hk
        exact ⟨k, by simp, by simp⟩
    obtain ⟨z, ez, hzm⟩ := hz
    rw [ez]
    obtain ⟨a', b', e1, e2, hne, hba⟩ := hpw _ _ hi hj hlt _ hmi _ hzm
    have e1 : p = a' := by omega
    have e2 : z = b' := by omega
    subst e1 e2
    obtain ⟨q', eq', _, hcq⟩ := mem_members.1 ((hmem _).1 hmj)
    have eq' : q = q' := by omega
    subst eq'
    obtain ⟨z', ez', _, hcz⟩ := mem_members.1 ((hmem _).1 hzm)
    have ez' : z = z' := by omega
    subst ez'
    have hqz := P.comp_trans (comp_symm ha hcq) hcz
    have hpz : R p z = true := by
      rcases (compS_iff.1 hqz).2 with rfl | ⟨h3, _⟩
      · exact h
      · exact P.trans _ _ _ h h3
    exact levTo_ge (standR_one.2 ⟨hne, hpz, hba⟩) n hp
end

end Go.Proofs.Ytdfhfehlmonjjaa

namespace Go.Proofs.Ytdfhfehlmonjjaa
open Go.Eng Go.RowKit

theorem natsN_at {n i : Nat} (f : Nat → Nat) (h : i < (natsN n f).length) : (natsN n f)[i] = ((f i : Nat) : Int) := by simp [natsN]
theorem natsN_congr {n : Nat} {f g : Nat → Nat} (h : ∀ k < n, f k = g k) : natsN n f = natsN n g := by
  unfold natsN
  exact List.map_congr_left fun k hk => by rw [h k (List.mem_range.1 hk)]

/-- What stands in 'at' while guest 'a' is looked for and has been found 'c' times. -/
noncomputable def stA (n : Nat) (R : Nat → Nat → Bool) (a c : Nat) : Nat → Nat := fun k => if k < a then ix n R k else if k = a ∧ 0 < c then ix n R a else 0

theorem stA_zero {n : Nat} {R : Nat → Nat → Bool} : stA n R 0 0 = fun _ => 0 := by
  funext k; unfold stA; rw [if_neg (by omega), if_neg (by omega)]
theorem stA_next {n : Nat} {R : Nat → Nat → Bool} {a : Nat} : stA n R a 1 = stA n R (a + 1) 0 := by
  funext k
  unfold stA
  by_cases h1 : k < a
  · rw [if_pos h1, if_pos (by omega)]
  · rw [if_neg h1]
    by_cases h2 : k = a
    · subst h2; rw [if_pos ⟨rfl, by omega⟩, if_pos (by omega)]
    · rw [if_neg (by omega), if_neg (by omega), if_neg (by omega)]
theorem stA_found {n : Nat} {R : Nat → Nat → Bool} {a c i : Nat} (h : ix n R a = i) : (fun k => if k = a then i else stA n R a c k) = stA n R a (c + 1) := by
  funext k
  unfold stA
  by_cases h2 : k = a
  · subst h2; rw [if_pos rfl, if_neg (by omega), if_pos ⟨rfl, by omega⟩, h]
  · rw [if_neg h2]
    by_cases h1 : k < a
    · rw [if_pos h1, if_pos h1]
    · rw [if_neg h1, if_neg h1, if_neg (by omega), if_neg (by omega)]

theorem RankWhole_spec {N : Int} {A : Option Addr} {xs : List Arrow} {c : Nat} {w : World} (h : HRel w N A xs c) :
    CallsV C.P 7 #[relVal N A xs.length c] w fun v w' => v = .bool true ∧ Ext w w' := by
  have hxl := h.cap
  refine callsV_of C_ok (args := [_]) (plans := plans7) Try.func7 rfl Try.ntmps7 (by kernel_rfl) (Nat.le_of_ble_eq_true rfl) ?_
  intro g1 w1 h1
  have M1 := (Mem.start w).alloc h1
  refine ⟨[.int .i64 N, .slice A xs.length c], rfl, M1.rd 0 rfl, ?_⟩
  refine (huge_spec w1).mono ?_
  rintro v w2 ⟨rfl, e2⟩
  have M2 := M1.grow e2
  have stop : ∀ {w' : World}, Ext w w' → CallsV C.P 16 #[] w' fun v w'' => v = .bool true ∧ Ext w w'' := fun e => (stands_spec _).mono fun v w'' hh => ⟨hh.1, e.trans hh.2⟩
  refine brE_mk (fun hh => ?_) (fun hh => ?_)
  · exact stop M2.ext
  refine ⟨[.int .i64 N, .slice A xs.length c], rfl, M2.rd 0 rfl, ?_⟩
  refine (Check_spec (h.ext M2.ext)).mono ?_
  rintro v w3 ⟨rfl, e3⟩
  have M3 := M2.grow e3
  refine brE_mk (fun hb => ?_) (fun hb => ?_)
  · exact stop M3.ext
  have hv : chk N xs = 0 := by simpa using hb
  have hok := valid_of_chk hv
  have hlo := hok.lo
  have hhi := hok.hi
  obtain ⟨n, rfl⟩ := Int.eq_ofNat_of_zero_le hlo
  have hn : n ≤ 24 := by omega
  have P := pre_reach hn hok.inside
  have hc0 : compsV n xs = compsL n (reach (toM xs)) := by rw [compsV, if_pos hv]; rfl
  have hl0 : levelsV n xs = natsN n (levelsL n (reach (toM xs))) := by rw [levelsV, if_pos hv]; rfl
  refine ⟨[.int .i64 n, .slice A xs.length c], rfl, M3.rd 0 rfl, ?_⟩
  refine (Components_spec (h.ext M3.ext)).mono ?_
  rintro v w4 ⟨hl4, e4⟩
  rw [hc0] at hl4
  obtain ⟨A4, c4, us4, rfl, hr4⟩ := hl4.read
  have M4 := M3.grow e4
  refine ⟨[.int .i64 n, .slice A xs.length c], rfl, M4.rd 0 rfl, ?_⟩
  refine (Levels_spec (h.ext M4.ext)).mono ?_
  rintro v w5 ⟨hl5, e5⟩
  rw [hl0] at hl5
  obtain ⟨A5, c5, rfl, hr5, _⟩ := hl5.slice
  have M5 := M4.grow e5
  have hr45 := hr4.ext e5
  have hlvlen := natsN_length n (levelsL n (reach (toM xs)))
  refine ⟨_, M5.cell 0 rfl rfl, ?_⟩
  refine brE_mk (fun hb => ?_) (fun _ => ?_)
  · exfalso
    have : ¬ ((natsN n (levelsL n (reach (toM xs)))).length : Int) = (n : Int) := by simpa using hb
    exact this (by rw [hlvlen])
  refine ⟨_, M5.cell 0 rfl rfl, ?_⟩
  refine ⟨n, n, rfl, rfl, Nat.le_refl _, by omega, by omega, rfl, rfl, rfl, rfl, ?_⟩
  intro go w6 h6
  have h6 : Alloc w5 go (.cells (ints (natsN n fun _ => 0)).toArray 3 (0, 0)) w6 := by rw [← zeros_natsN]; exact h6
  have hbox5 := M5.get 0 rfl
  have hpr := compsL_props (R := reach (toM xs)) hn
  have hfl := flat_le hpr.2.1
  have hfl24 : (compsL n (reach (toM xs))).length * 24 ≤ 24 * 24 := Nat.mul_le_mul_right _ hpr.1
  have hcount : ∀ a < n, (compsL n (reach (toM xs))).flatten.count ((a : Nat) : Int) = 1 := fun a ha => P.count_one ha
  have hix : ∀ a < n, ∀ i (hi : i < (compsL n (reach (toM xs))).length), (a : Int) ∈ (compsL n (reach (toM xs)))[i] → ix n (reach (toM xs)) a = i := fun a ha i hi hm => P.ix_eq ha hi hm
  have hE5 := M5.ext
  have harr : ∀ p q, toM xs p q = true → p < n ∧ q < n ∧ ix n (reach (toM xs)) p ≤ ix n (reach (toM xs)) q ∧ (ix n (reach (toM xs)) p = ix n (reach (toM xs)) q → levelsL n (reach (toM xs)) p = levelsL n (reach (toM xs)) q) ∧ (ix n (reach (toM xs)) p < ix n (reach (toM xs)) q → levelsL n (reach (toM xs)) p < levelsL n (reach (toM xs)) q) := fun p q hpq => by
    have hr : reach (toM xs) p q = true := reach_iff.2 (.one hpq)
    have h2 := P.inside _ _ hr
    have h3 := P.arrow hr
    exact ⟨h2.1, h2.2, h3.1, h3.2.1, h3.2.2⟩
  have hgood : ∀ i (hi : i < xs.length), ∃ p q : Nat, xs[i].fr = (p : Int) ∧ xs[i].to = (q : Int) ∧ toM xs p q = true := fun i hi => by
    have hg := goodA_spec (hok.good hi)
    obtain ⟨p, hp⟩ := Int.eq_ofNat_of_zero_le hg.1
    obtain ⟨q, hq⟩ := Int.eq_ofNat_of_zero_le hg.2.2.1
    refine ⟨p, q, hp, hq, ?_⟩
    unfold toM
    exact List.any_eq_true.2 ⟨xs[i], List.getElem_mem _, decide_eq_true ⟨hp, hq⟩⟩
  clear hl4 hl5 hc0 hl0
  generalize reach (toM xs) = R at *
  generalize levelsL n R = lv at *
  generalize compsL n R = L at *
  refine loopE C_ok (fun (a : Nat) => [(1, .pointer (some ⟨g1, 0, none⟩)), (3, .slice A4 L.length c4), (4, .slice A5 (natsN n lv).length c5), (5, .slice (some ⟨go, 0, none⟩) n n), (6, .int .i64 a)])
    (fun a w' => a ≤ n ∧ Mem w5 w' [(go, .cells (ints (natsN n (stA n R a 0))).toArray 3 (0, 0))]) (fun a => n - a) 0 ⟨rfl, rfl, rfl, rfl, rfl, trivial⟩
    ⟨Nat.zero_le _, by rw [stA_zero]; exact (Mem.start w5).alloc h6⟩ ?_
  rintro a w7 ⟨ha, M7⟩
  refine ⟨_, cell_of_block (M7.ext.heap hbox5) rfl, ?_⟩
  refine brE_dec (fun hlt => ?_) (fun hge => ?_)
  · have hlt : a < n := by omega
    refine loopE C_ok (fun (i : Nat) => [(1, .pointer (some ⟨g1, 0, none⟩)), (3, .slice A4 L.length c4), (4, .slice A5 (natsN n lv).length c5), (5, .slice (some ⟨go, 0, none⟩) n n), (6, .int .i64 a), (7, .int .i64 ((L.take i).flatten.count (a : Int) : Nat)), (8, .int .i64 i)])
      (fun i w' => i ≤ L.length ∧ Mem w5 w' [(go, .cells (ints (natsN n (stA n R a ((L.take i).flatten.count (a : Int))))).toArray 3 (0, 0))]) (fun i => L.length - i) 0 ⟨rfl, rfl, rfl, rfl, rfl, rfl, rfl, trivial⟩
      ⟨Nat.zero_le _, M7⟩ ?_
    rintro i w8 ⟨hi, M8⟩
    refine brE_dec (fun hlt2 => ?_) (fun hge2 => ?_)
    · have hlt2 : i < L.length := by omega
      have hlen24 := hpr.2.1 L[i] (List.getElem_mem _)
      have hcl : ∀ k, ((L.take i).flatten ++ L[i].take k).count (a : Int) ≤ 1000 := fun k => by
        have h1 := List.count_le_length (a := (a : Int)) (l := (L.take i).flatten ++ L[i].take k)
        have h2 := flat_take_le hpr.2.1 i
        rw [List.length_append, List.length_take] at h1
        omega
      obtain ⟨A', c', hu, hrow⟩ := hr45.row i hlt2
      rcases hr45.reads with h0 | ⟨b, o, hA, hrd⟩
      · rw [h0] at hu; simp at hu
      refine loopE C_ok (fun (k : Nat) => [(1, .pointer (some ⟨g1, 0, none⟩)), (3, .slice A4 L.length c4), (4, .slice A5 (natsN n lv).length c5), (5, .slice (some ⟨go, 0, none⟩) n n), (6, .int .i64 a), (7, .int .i64 (((L.take i).flatten ++ L[i].take k).count (a : Int) : Nat)), (8, .int .i64 i), (9, .int .i64 k)])
        (fun k w' => k ≤ L[i].length ∧ Mem w5 w' [(go, .cells (ints (natsN n (stA n R a (((L.take i).flatten ++ L[i].take k).count (a : Int))))).toArray 3 (0, 0))]) (fun k => L[i].length - k) 0 ⟨rfl, rfl, rfl, rfl, rfl, by rw [List.take_zero, List.append_nil]; rfl, rfl, rfl, trivial⟩
        ⟨Nat.zero_le _, by rw [List.take_zero, List.append_nil]; exact M8⟩ ?_
      rintro k w9 ⟨hk, M9⟩
      refine ⟨i, b, o, rfl, hlt2, hA, ?_⟩
      refine ⟨_, by have := (hrd.ext M9.ext) i _ hu; simpa using this, ?_⟩
      refine brE_dec (fun hlt3 => ?_) (fun hge3 => ?_)
      · have hlt3 : k < L[i].length := by omega
        obtain ⟨b1, o1, hA1, hc1⟩ := Reads.int (hrow.ext M9.ext) hlt3
        have next : IntKind.i64.wrap ((k : Int) + 1) = ((k + 1 : Nat) : Int) := fit ⟨by omega, by omega⟩
        refine ⟨i, b, o, rfl, hlt2, hA, ?_⟩
        refine ⟨_, by have := (hrd.ext M9.ext) i _ hu; simpa using this, ?_⟩
        refine ⟨k, b1, o1, rfl, hlt3, hA1, ?_⟩
        refine ⟨_, by simpa using hc1, ?_⟩
        have hck := hcl k
        have hsucc : ((L.take i).flatten ++ L[i].take (k + 1)).count (a : Int) = ((L.take i).flatten ++ L[i].take k).count (a : Int) + if L[i][k] = (a : Int) then 1 else 0 := by
          rw [List.take_succ_eq_append_getElem hlt3, ← List.append_assoc, List.count_append (l₂ := [L[i][k]]), List.count_singleton]
          by_cases e : L[i][k] = (a : Int) <;> simp [e]
        refine brE_dec (fun he => ?_) (fun he => ?_)
        · have he : L[i][k] = (a : Int) := he
          rw [if_pos he] at hsucc
          have hxa := hix a hlt i hlt2 (by rw [← he]; exact List.getElem_mem _)
          refine ⟨((((L.take i).flatten ++ L[i].take (k + 1)).count (a : Int) : Nat) : Int), by rw [hsucc, fit ⟨by omega, by omega⟩]; omega, ?_⟩
          refine ⟨a, go, 0, rfl, hlt, rfl, ?_⟩
          refine ⟨rfl, _, _, M9.get 0 rfl, by rw [ints_length, natsN_length]; show 0 + a * 1 + 1 ≤ n; omega, rfl, ?_⟩
          intro w10 h10
          have e10 : splice (ints (natsN n (stA n R a (((L.take i).flatten ++ L[i].take k).count (a : Int))))) (0 + a * 1) [.int .i64 i] = ints (natsN n (stA n R a (((L.take i).flatten ++ L[i].take (k + 1)).count (a : Int)))) := by
            rw [hsucc, ← stA_found hxa]
            have := natsN_set hlt (stA n R a (((L.take i).flatten ++ L[i].take k).count (a : Int))) i
            simpa using this
          have h10 : Put w9 go (.cells (ints (natsN n (stA n R a (((L.take i).flatten ++ L[i].take (k + 1)).count (a : Int))))).toArray 3 (0, 0)) w10 := by rw [← e10]; exact h10
          refine ⟨_, next, ?_⟩
          exact ⟨k + 1, ⟨rfl, rfl, rfl, rfl, rfl, rfl, rfl, rfl, trivial⟩, ⟨hlt3, M9.put 0 rfl h10⟩, by omega⟩
        · have he : ¬ L[i][k] = (a : Int) := he
          rw [if_neg he, Nat.add_zero] at hsucc
          refine ⟨_, next, ?_⟩
          exact ⟨k + 1, ⟨rfl, rfl, rfl, rfl, rfl, by rw [hsucc]; rfl, rfl, rfl, trivial⟩, ⟨hlt3, by rw [hsucc]; exact M9⟩, by omega⟩
      · have : k = L[i].length := by omega
        subst this
        have e : (L.take i).flatten ++ L[i].take L[i].length = (L.take (i + 1)).flatten := by rw [List.take_length, flat_take hlt2]
        rw [e] at M9
        refine ⟨((i + 1 : Nat) : Int), fit ⟨by omega, by omega⟩, ?_⟩
        exact ⟨i + 1, ⟨rfl, rfl, rfl, rfl, rfl, by rw [← e]; rfl, rfl, trivial⟩, ⟨hlt2, M9⟩, by omega⟩
    · have : i = L.length := by omega
      subst this
      have hone : (L.take L.length).flatten.count (a : Int) = 1 := by rw [List.take_length]; exact hcount a hlt
      rw [hone] at M8
      refine brE_mk (fun hb => ?_) (fun _ => ?_)
      · exfalso
        have : ¬ (((L.take L.length).flatten.count (a : Int) : Nat) : Int) = 1 := by simpa using hb
        exact this (by rw [hone]; rfl)
      rw [stA_next] at M8
      refine ⟨((a + 1 : Nat) : Int), fit ⟨by omega, by omega⟩, ?_⟩
      exact ⟨a + 1, ⟨rfl, rfl, rfl, rfl, rfl, trivial⟩, ⟨hlt, M8⟩, by omega⟩
  · have : a = n := by omega
    subst this
    have ei : natsN a (stA a R a 0) = natsN a (ix a R) := natsN_congr fun k hk => by unfold stA; rw [if_pos hk]
    rw [ei] at M7
    refine loopE C_ok (fun (i : Nat) => [(1, .pointer (some ⟨g1, 0, none⟩)), (4, .slice A5 (natsN a lv).length c5), (5, .slice (some ⟨go, 0, none⟩) a a), (10, .int .i64 i)])
      (fun i w' => i ≤ xs.length ∧ Mem w5 w' [(go, .cells (ints (natsN a (ix a R))).toArray 3 (0, 0))]) (fun i => xs.length - i) 0 ⟨rfl, rfl, rfl, rfl, trivial⟩ ⟨Nat.zero_le _, M7⟩ ?_
    rintro i w8 ⟨hi, M8⟩
    have hb8 := M8.ext.heap hbox5
    refine ⟨_, cell_of_block hb8 rfl, ?_⟩
    refine brE_dec (fun hlt => ?_) (fun hge => ?_)
    · have hlt : i < xs.length := by omega
      obtain ⟨p, q, hp, hq, hpq⟩ := hgood i hlt
      obtain ⟨hpn, hqn, hle, heq, hlt'⟩ := harr p q hpq
      obtain ⟨b, o, hA, hrd⟩ := Reads.arrow (h.reads.ext hE5) hlt
      refine ⟨_, cell_of_block hb8 rfl, ?_⟩
      refine ⟨i, b, o, rfl, hlt, hA, ?_⟩
      refine ⟨xs[i].cells, rfl, M8.oldRd hrd, ?_⟩
      intro g11 w9 h9
      have M9 := M8.alloc h9
      refine ⟨rfl, _, _, M9.get 0 rfl, Nat.le_of_ble_eq_true rfl, rfl, ?_⟩
      intro w10 h10
      have M10 : Mem w5 w10 [(g11, .cells xs[i].cells.toArray 43 (0, 0)), (go, .cells (ints (natsN a (ix a R))).toArray 3 (0, 0))] := M9.put 0 rfl h10
      have cf : w10.cell? ⟨g11, 0, none⟩ = some (.int .i64 (p : Int)) := by rw [← hp]; exact M10.cell 0 rfl rfl
      have ct : w10.cell? ⟨g11, 1, none⟩ = some (.int .i64 (q : Int)) := by rw [← hq]; exact M10.cell 0 rfl rfl
      have atp : w10.cell? ⟨go, 0 + p * 1, none⟩ = some (.int .i64 (ix a R p : Nat)) := by have := M10.rd 1 rfl p _ (natsN_get hpn (ix a R)); simpa using this
      have atq : w10.cell? ⟨go, 0 + q * 1, none⟩ = some (.int .i64 (ix a R q : Nat)) := by have := M10.rd 1 rfl q _ (natsN_get hqn (ix a R)); simpa using this
      obtain ⟨bp, op, hAp, hcp⟩ := Reads.int (hr5.ext M10.ext) (i := p) (by rw [natsN_length]; exact hpn)
      obtain ⟨bq, oq, hAq, hcq⟩ := Reads.int (hr5.ext M10.ext) (i := q) (by rw [natsN_length]; exact hqn)
      rw [natsN_at] at hcp hcq
      have hpl : p < (natsN a lv).length := by rw [natsN_length]; exact hpn
      have hql : q < (natsN a lv).length := by rw [natsN_length]; exact hqn
      have next : IntKind.i64.wrap ((i : Int) + 1) = ((i + 1 : Nat) : Int) := fit ⟨by omega, by omega⟩
      have go1 : i + 1 ≤ xs.length ∧ Mem w5 w10 [(go, .cells (ints (natsN a (ix a R))).toArray 3 (0, 0))] := ⟨hlt, M10.tail⟩
      refine ⟨_, cf, ?_⟩
      refine ⟨p, go, 0, rfl, hpn, rfl, ?_⟩
      refine ⟨_, atp, ?_⟩
      refine ⟨_, ct, ?_⟩
      refine ⟨q, go, 0, rfl, hqn, rfl, ?_⟩
      refine ⟨_, atq, ?_⟩
      refine brE_dec (fun hgt => ?_) (fun _ => ?_)
      · have : ((ix a R p : Nat) : Int) > (ix a R q : Nat) := hgt
        omega
      refine ⟨_, cf, ?_⟩
      refine ⟨p, go, 0, rfl, hpn, rfl, ?_⟩
      refine ⟨_, atp, ?_⟩
      refine ⟨_, ct, ?_⟩
      refine ⟨q, go, 0, rfl, hqn, rfl, ?_⟩
      refine ⟨_, atq, ?_⟩
      refine brE_dec (fun he => ?_) (fun he => ?_)
      · have he : ix a R p = ix a R q := by have : ((ix a R p : Nat) : Int) = (ix a R q : Nat) := he; omega
        have hl := heq he
        refine ⟨_, cf, ?_⟩
        refine ⟨p, bp, op, rfl, hpl, hAp, ?_⟩
        refine ⟨_, by simpa using hcp, ?_⟩
        refine ⟨_, ct, ?_⟩
        refine ⟨q, bq, oq, rfl, hql, hAq, ?_⟩
        refine ⟨_, by simpa using hcq, ?_⟩
        refine brE_mk (fun hb => ?_) (fun _ => ?_)
        · exfalso
          have : ¬ ((lv p : Nat) : Int) = (lv q : Nat) := by simpa using hb
          exact this (by rw [hl])
        refine ⟨_, cf, ?_⟩
        refine ⟨p, go, 0, rfl, hpn, rfl, ?_⟩
        refine ⟨_, atp, ?_⟩
        refine ⟨_, ct, ?_⟩
        refine ⟨q, go, 0, rfl, hqn, rfl, ?_⟩
        refine ⟨_, atq, ?_⟩
        refine brE_dec (fun hb => ?_) (fun _ => ?_)
        · have : ((ix a R p : Nat) : Int) < (ix a R q : Nat) := hb
          omega
        refine ⟨_, next, ?_⟩
        exact ⟨i + 1, ⟨rfl, rfl, rfl, rfl, trivial⟩, go1, by omega⟩
      · have he : ¬ ix a R p = ix a R q := by
          intro e
          have he : ¬ ((ix a R p : Nat) : Int) = (ix a R q : Nat) := he
          exact he (by rw [e])
        have hl := hlt' (by omega)
        refine ⟨_, cf, ?_⟩
        refine ⟨p, go, 0, rfl, hpn, rfl, ?_⟩
        refine ⟨_, atp, ?_⟩
        refine ⟨_, ct, ?_⟩
        refine ⟨q, go, 0, rfl, hqn, rfl, ?_⟩
        refine ⟨_, atq, ?_⟩
        refine brE_dec (fun _ => ?_) (fun hb => ?_)
        · refine ⟨_, cf, ?_⟩
          refine ⟨p, bp, op, rfl, hpl, hAp, ?_⟩
          refine ⟨_, by simpa using hcp, ?_⟩
          refine ⟨_, ct, ?_⟩
          refine ⟨q, bq, oq, rfl, hql, hAq, ?_⟩
          refine ⟨_, by simpa using hcq, ?_⟩
          refine brE_dec (fun hb => ?_) (fun _ => ?_)
          · have : ((lv p : Nat) : Int) ≥ (lv q : Nat) := hb
            omega
          refine ⟨_, next, ?_⟩
          exact ⟨i + 1, ⟨rfl, rfl, rfl, rfl, trivial⟩, go1, by omega⟩
        · have : ¬ ((ix a R p : Nat) : Int) < (ix a R q : Nat) := hb
          omega
    · exact stop (hE5.trans M8.ext)

end Go.Proofs.Ytdfhfehlmonjjaa
