/- a part of the proof: steps, walks and plain laws that the law below stands on; no condition. -/
import Derived.Test.YtcnbpfecgokhiaaGreatDoorDFc
import Derived.Test.YtcnbpfecgokhiaaGreatDoorDFa
set_option linter.unusedVariables false
set_option linter.unusedSimpArgs false
set_option linter.unnecessarySimpa false
set_option linter.unusedSectionVars false
namespace Go.Proofs.YtcnbpfecgokhiaaGreatDoor
open Go.Eng Go.RowKit

/-! ### plainly -/
theorem sortD_snoc (a : List Int) (x : Int) : sortD (a ++ [x]) = insD x (sortD a) := by
  unfold sortD
  rw [List.foldl_append]; rfl
theorem filterMap_step {p : Fact → Bool} {f : Fact → Int} {K : List Fact} {i : Nat} (hi : i < K.length) : ((K.take (i + 1)).filter p).map f = ((K.take i).filter p).map f ++ if p K[i] = true then [f K[i]] else [] := by
  rw [List.take_succ_eq_append_getElem hi, List.filter_append, List.map_append, List.filter_cons, List.filter_nil]
  by_cases h : p K[i] = true
  · rw [if_pos h, if_pos h]; rfl
  · rw [if_neg h, if_neg h]; rfl
theorem sortF_length {p : Fact → Bool} {f : Fact → Int} {K : List Fact} : (sortD ((K.filter p).map f)).length ≤ K.length := by
  have h1 := sortD_length ((K.filter p).map f)
  have h2 := List.length_filter_le p K
  rw [List.length_map] at h1
  omega
theorem living_length (X : List Fact) (k s cl : Int) : (livingL X k s cl).length ≤ X.length := sortF_length
theorem living_asc (X : List Fact) (k s cl : Int) : (livingL X k s cl).Pairwise (· < ·) := sortD_asc _

/-! ### the walks -/
set_option maxRecDepth 100000 in
theorem office_spec {w : World} {A : Option Addr} {l : List Fact} {c : Nat} (h : HF w A l c) (hl : l.length ≤ 2 ^ 20) (k day kk s0 cl : Int) :
    CallsV C.P 171 #[.slice A l.length c, .int .i64 k, .int .i64 day, .int .u8 kk, .int .i64 s0, .int .i64 cl] w fun v w' => NewInts w.heap.size w' v (livingL (atL k day l) kk s0 cl) ∧ Ext w w' := by
  refine callsV_of C_ok (args := [_, _, _, _, _, _]) (plans := []) Tryz.func171 rfl Tryz.ntmps171 (by kernel_rfl) (Nat.le_of_ble_eq_true rfl) ?_
  refine (refAt_spec h hl k day).mono ?_
  rintro v0 w1 ⟨ho, e1⟩
  have hK := atL_length k day l
  generalize atL k day l = K at *
  obtain ⟨AK, cK, rfl, hrK, _⟩ := ho.slice
  unfold livingL
  refine loopE C_ok (fun (s : Nat × Value) => [(3, .int .u8 kk), (4, .int .i64 s0), (5, .int .i64 cl), (13, .slice AK K.length cK), (14, s.2), (15, .int .i64 s.1)])
    (fun s w' => s.1 ≤ K.length ∧ Ext w1 w' ∧ NewInts w1.heap.size w' s.2 (sortD (((K.take s.1).filter (livesB K kk s0 cl)).map Fact.who))) (fun s => K.length - s.1) (0, .slice none 0 0) ⟨rfl, rfl, rfl, rfl, rfl, rfl, trivial⟩ ⟨Nat.zero_le _, Ext.refl _, newInts_nil _ _⟩ ?_
  rintro ⟨i, v⟩ w2 ⟨hi', e2', ho'⟩
  have hi : i ≤ K.length := hi'
  have e2 : Ext w1 w2 := e2'
  have ho2 : NewInts w1.heap.size w2 v (sortD (((K.take i).filter (livesB K kk s0 cl)).map Fact.who)) := ho'
  clear hi' ho' e2'
  refine brE_dec (fun hlt2 => ?_) (fun hge => ?_)
  · have hlt : i < K.length := by have : (i : Int) < (K.length : Nat) := hlt2; omega
    clear hlt2
    have next : IntKind.i64.wrap ((i : Int) + 1) = ((i + 1 : Nat) : Int) := fit ⟨by omega, by omega⟩
    obtain ⟨b, o, hA, hc⟩ := Reads.fact (hrK.ext e2) hlt
    have hst := filterMap_step (p := livesB K kk s0 cl) (f := Fact.who) hlt
    have hln := sortF_length (p := livesB K kk s0 cl) (f := Fact.who) (K := K.take i)
    have htl : (K.take i).length ≤ K.length := by rw [List.length_take]; omega
    have miss : livesB K kk s0 cl K[i] = false → i + 1 ≤ K.length ∧ Ext w1 w2 ∧ NewInts w1.heap.size w2 v (sortD (((K.take (i + 1)).filter (livesB K kk s0 cl)).map Fact.who)) := fun hf => by
      rw [hf, if_neg (by decide), List.append_nil] at hst
      exact ⟨hlt, e2, by rw [hst]; exact ho2⟩
    refine ⟨i, b, o, rfl, hlt, hA, ?_⟩
    refine ⟨.int .i64 K[i].who, hc 3 _ rfl, ?_⟩
    refine (refdead_spec (hrK.ext e2) (by omega) K[i].who).mono ?_
    rintro _ w3 ⟨rfl, rfl⟩
    refine ⟨i, b, o, rfl, hlt, hA, ?_⟩
    refine ⟨.int .u8 K[i].kind, hc 2 _ rfl, ?_⟩
    refine brE_dec (fun k0 => ?_) (fun k0 => ?_)
    · have k0 : K[i].kind = kk := k0
      refine ⟨i, b, o, rfl, hlt, hA, ?_⟩
      refine ⟨.int .i64 K[i].what, hc 4 _ rfl, ?_⟩
      refine brE_dec (fun k1 => ?_) (fun k1 => ?_)
      · have k1 : K[i].what = s0 := k1
        refine ⟨i, b, o, rfl, hlt, hA, ?_⟩
        refine ⟨.int .i64 K[i].other, hc 5 _ rfl, ?_⟩
        refine brE_dec (fun k2 => ?_) (fun k2 => ?_)
        · have k2 : K[i].other = cl := k2
          cases hd : deadB K K[i].who with
          | true =>
            refine ⟨_, next, ?_⟩
            exact ⟨(i + 1, v), ⟨rfl, rfl, rfl, rfl, rfl, rfl, trivial⟩, miss (by unfold livesB; rw [hd, Bool.and_comm]; rfl), by show K.length - (i + 1) < K.length - i; omega⟩
          | false =>
            have hp : livesB K kk s0 cl K[i] = true := by unfold livesB; rw [hd, decide_eq_true ⟨k0, k1, k2⟩]; rfl
            rw [if_pos hp] at hst
            refine ⟨i, b, o, rfl, hlt, hA, ?_⟩
            refine ⟨.int .i64 K[i].who, hc 3 _ rfl, ?_⟩
            obtain ⟨AV, cV, rfl, hrV, _⟩ := NewInts.slice ho2
            refine (with_spec hrV (by omega) (sortD_asc _) K[i].who).mono ?_
            rintro v4 w4 ⟨ho4, e4⟩
            refine ⟨_, next, ?_⟩
            exact ⟨(i + 1, v4), ⟨rfl, rfl, rfl, rfl, rfl, rfl, trivial⟩, ⟨hlt, e2.trans e4, by show NewInts w1.heap.size w4 v4 (sortD (((K.take (i + 1)).filter (livesB K kk s0 cl)).map Fact.who)); rw [hst, sortD_snoc]; exact ho4.base e2.size⟩, by show K.length - (i + 1) < K.length - i; omega⟩
        · have k2 : ¬ K[i].other = cl := k2
          refine ⟨_, next, ?_⟩
          exact ⟨(i + 1, v), ⟨rfl, rfl, rfl, rfl, rfl, rfl, trivial⟩, miss (by unfold livesB; rw [decide_eq_false fun hh => k2 hh.2.2]; rfl), by show K.length - (i + 1) < K.length - i; omega⟩
      · have k1 : ¬ K[i].what = s0 := k1
        refine ⟨_, next, ?_⟩
        exact ⟨(i + 1, v), ⟨rfl, rfl, rfl, rfl, rfl, rfl, trivial⟩, miss (by unfold livesB; rw [decide_eq_false fun hh => k1 hh.2.1]; rfl), by show K.length - (i + 1) < K.length - i; omega⟩
    · have k0 : ¬ K[i].kind = kk := k0
      refine ⟨_, next, ?_⟩
      exact ⟨(i + 1, v), ⟨rfl, rfl, rfl, rfl, rfl, rfl, trivial⟩, miss (by unfold livesB; rw [decide_eq_false fun hh => k0 hh.1]; rfl), by show K.length - (i + 1) < K.length - i; omega⟩
  · have : i = K.length := by have : ¬ (i : Int) < (K.length : Nat) := hge; omega
    rw [this, List.take_length] at ho2
    exact ⟨ho2.base e1.size, e1.trans e2⟩

theorem refHolders_spec {w : World} {A : Option Addr} {l : List Fact} {c : Nat} (h : HF w A l c) (hl : l.length ≤ 2 ^ 20) (k day s0 cl : Int) :
    CallsV C.P 137 #[.slice A l.length c, .int .i64 k, .int .i64 day, .int .i64 s0, .int .i64 cl] w fun v w' => NewInts w.heap.size w' v (livingL (atL k day l) 2 s0 cl) ∧ Ext w w' := by
  refine callsV_of C_ok (args := [_, _, _, _, _]) (plans := []) Tryz.func137 rfl Tryz.ntmps137 (by kernel_rfl) (Nat.le_of_ble_eq_true rfl) ?_
  refine (office_spec h hl k day 2 s0 cl).mono ?_
  rintro v w1 hh
  exact hh
theorem refActing_spec {w : World} {A : Option Addr} {l : List Fact} {c : Nat} (h : HF w A l c) (hl : l.length ≤ 2 ^ 20) (k day s0 cl : Int) :
    CallsV C.P 138 #[.slice A l.length c, .int .i64 k, .int .i64 day, .int .i64 s0, .int .i64 cl] w fun v w' => NewInts w.heap.size w' v (livingL (atL k day l) 3 s0 cl) ∧ Ext w w' := by
  refine callsV_of C_ok (args := [_, _, _, _, _]) (plans := []) Tryz.func138 rfl Tryz.ntmps138 (by kernel_rfl) (Nat.le_of_ble_eq_true rfl) ?_
  refine (office_spec h hl k day 3 s0 cl).mono ?_
  rintro v w1 hh
  exact hh
end Go.Proofs.YtcnbpfecgokhiaaGreatDoor

namespace Go.Proofs.YtcnbpfecgokhiaaGreatDoor
open Go.Eng Go.RowKit

/-- Whom the host has recognised so far: of the first 'i' holders all, of the next one if one of the first 'j' facts says so. -/
def Chosen (K : List Fact) (host s0 : Int) (H : List Int) (i j : Nat) (M : List Int) : Prop :=
  M.Pairwise (· < ·) ∧ ∀ x, x ∈ M ↔ (x ∈ H.take i ∧ K.any (recogB host s0 x) = true) ∨ (∃ hi : i < H.length, x = H[i] ∧ (K.take j).any (recogB host s0 x) = true)
theorem Chosen.next {K : List Fact} {host s0 : Int} {H M : List Int} {i : Nat} (hi : i < H.length) (h : Chosen K host s0 H i K.length M) : Chosen K host s0 H (i + 1) 0 M := by
  refine ⟨h.1, fun x => ?_⟩
  rw [h.2, List.take_succ_eq_append_getElem hi, List.take_length]
  constructor
  · rintro (⟨h1, h2⟩ | ⟨_, h1, h2⟩)
    · exact .inl ⟨List.mem_append_left _ h1, h2⟩
    · exact .inl ⟨List.mem_append_right _ (by rw [h1]; simp), h2⟩
  · rintro (⟨h1, h2⟩ | ⟨_, _, h2⟩)
    · rcases List.mem_append.1 h1 with h1 | h1
      · exact .inl ⟨h1, h2⟩
      · exact .inr ⟨hi, List.mem_singleton.1 h1, h2⟩
    · simp at h2
theorem Chosen.miss {K : List Fact} {host s0 : Int} {H M : List Int} {i j : Nat} (hi : i < H.length) (hj : j < K.length) (hm : recogB host s0 H[i] K[j] = false) (h : Chosen K host s0 H i j M) : Chosen K host s0 H i (j + 1) M := by
  refine ⟨h.1, fun x => ?_⟩
  rw [h.2]
  refine or_congr Iff.rfl ⟨fun ⟨a, b, d⟩ => ⟨a, b, ?_⟩, fun ⟨a, b, d⟩ => ⟨a, b, ?_⟩⟩
  · rw [any_step hj, d]; rfl
  · rw [any_step hj] at d
    rw [b, hm, Bool.or_false] at d
    rw [b]; exact d
theorem Chosen.hit {K : List Fact} {host s0 : Int} {H M : List Int} {i j : Nat} (hi : i < H.length) (hj : j < K.length) (hm : recogB host s0 H[i] K[j] = true) (h : Chosen K host s0 H i j M) : Chosen K host s0 H i (j + 1) (insD H[i] M) := by
  refine ⟨insD_asc h.1, fun x => ?_⟩
  rw [mem_insD, h.2]
  constructor
  · rintro (rfl | h1 | ⟨_, h1, h2⟩)
    · exact .inr ⟨hi, rfl, by rw [any_step hj, hm, Bool.or_true]⟩
    · exact .inl h1
    · exact .inr ⟨hi, h1, by rw [any_step hj, h2]; rfl⟩
  · rintro (h1 | ⟨_, h1, h2⟩)
    · exact .inr (.inl h1)
    · exact .inl h1
theorem Chosen.length {K : List Fact} {host s0 : Int} {H M : List Int} {i j : Nat} (h : Chosen K host s0 H i j M) : M.length ≤ H.length := by
  refine asc_length h.1 fun x hx => ?_
  rcases (h.2 x).1 hx with ⟨h1, _⟩ | ⟨hi, h1, _⟩
  · exact List.mem_of_mem_take h1
  · rw [h1]; exact List.getElem_mem hi
theorem Chosen.final {K : List Fact} {host s0 : Int} {M : List Int} (h : Chosen K host s0 (livingL K 2 s0 1) (livingL K 2 s0 1).length 0 M) : M = (livingL K 2 s0 1).filter fun p => K.any (recogB host s0 p) := by
  refine asc_eq h.1 ((living_asc K 2 s0 1).filter _) fun x => ?_
  rw [h.2, List.take_length, List.mem_filter]
  constructor
  · rintro (h | ⟨hi, _⟩)
    · exact h
    · exact absurd hi (Nat.lt_irrefl _)
  · exact .inl
def oneOf : List Int → Int × Bool
  | [p] => (p, true)
  | _ => (0, false)
theorem recog_ref {K : List Fact} {host s0 : Int} (h : ¬ (livingL K 2 s0 1).length = 1) {M : List Int} (hM : M = (livingL K 2 s0 1).filter fun p => K.any (recogB host s0 p)) : recogL K host s0 = oneOf M := by
  have hdef : recogL K host s0 = oneOf (chosenL K host s0) := rfl
  rw [hdef]
  unfold chosenL
  by_cases h1 : 1 < (livingL K 2 s0 1).length
  · rw [if_pos h1, hM]
  · have : livingL K 2 s0 1 = [] := List.length_eq_zero_iff.1 (by omega)
    rw [if_neg h1, hM, this]; rfl

theorem four_drop {i : Nat} (h1 : 1 ≤ i) (h5 : i < 5) : ([1, 2, 3, 4] : List Int).drop (i - 1) = (i : Int) :: ([1, 2, 3, 4] : List Int).drop i := by
  obtain rfl | rfl | rfl | rfl : i = 1 ∨ i = 2 ∨ i = 3 ∨ i = 4 := by omega
  all_goals rfl

set_option maxRecDepth 100000 in
theorem refHoldsClass_spec {w : World} {A : Option Addr} {l : List Fact} {c : Nat} (h : HF w A l c) (hl : l.length ≤ 2 ^ 20) (k day n s0 : Int) :
    CallsV C.P 96 #[.slice A l.length c, .int .i64 k, .int .i64 day, .int .i64 n, .int .i64 s0] w fun v w' => v = .int .i64 (leastL (atL k day l) n s0) ∧ Ext w w' := by
  refine callsV_of C_ok (args := [_, _, _, _, _]) (plans := []) Tryz.func96 rfl Tryz.ntmps96 (by kernel_rfl) (Nat.le_of_ble_eq_true rfl) ?_
  have hK := atL_length k day l
  refine loopE C_ok (fun (i : Nat) => [(0, .slice A l.length c), (1, .int .i64 k), (2, .int .i64 day), (3, .int .i64 n), (4, .int .i64 s0), (11, .int .i64 i)])
    (fun i w' => 1 ≤ i ∧ i ≤ 5 ∧ Ext w w' ∧ leastL (atL k day l) n s0 = leastAt (atL k day l) n s0 (([1, 2, 3, 4] : List Int).drop (i - 1))) (fun i => 5 - i) 1 ⟨rfl, rfl, rfl, rfl, rfl, rfl, trivial⟩ ⟨Nat.le_refl _, by omega, Ext.refl _, rfl⟩ ?_
  rintro i w1 ⟨h1, h5, e1, hs⟩
  refine brE_dec (fun hlt2 => ?_) (fun hge => ?_)
  · have hlt : i < 5 := by have : (i : Int) < 5 := hlt2; omega
    rw [four_drop h1 hlt, leastAt] at hs
    have next : IntKind.i64.wrap ((i : Int) + 1) = ((i + 1 : Nat) : Int) := fit ⟨by omega, by omega⟩
    refine (refHolders_spec (h.ext e1) hl k day s0 i).mono ?_
    rintro v2 w2 ⟨ho2, e2⟩
    refine (refActing_spec (h.ext (e1.trans e2)) hl k day s0 i).mono ?_
    rintro v3 w3 ⟨ho3, e3⟩
    have l2 := living_length (atL k day l) 2 s0 i
    have l3 := living_length (atL k day l) 3 s0 i
    obtain ⟨A2, c2, rfl, hr2, _⟩ := NewInts.slice ho2
    obtain ⟨A3, c3, rfl, hr3, _⟩ := NewInts.slice ho3
    refine (in1_spec (hr2.ext e3) (by omega) n).mono ?_
    rintro _ w4 ⟨rfl, rfl⟩
    refine (in1_spec hr3 (by omega) n).mono ?_
    rintro _ w5 ⟨rfl, rfl⟩
    have e5 := (e1.trans e2).trans e3
    refine brE_dec (fun m1 => ?_) (fun m1 => ?_)
    · rw [if_pos (by rw [decide_eq_true m1]; rfl)] at hs
      exact ⟨by rw [hs], e5⟩
    · refine brE_dec (fun m2 => ?_) (fun m2 => ?_)
      · rw [if_pos (by unfold actsB; rw [decide_eq_true m2, Bool.or_true])] at hs
        exact ⟨by rw [hs], e5⟩
      · rw [if_neg (by unfold actsB; rw [decide_eq_false m1, decide_eq_false m2]; decide)] at hs
        refine ⟨_, next, ?_⟩
        exact ⟨i + 1, ⟨rfl, rfl, rfl, rfl, rfl, rfl, trivial⟩, ⟨by omega, by omega, e5, hs⟩, by omega⟩
  · have : i = 5 := by have : ¬ (i : Int) < 5 := hge; omega
    subst this
    exact ⟨by rw [hs]; rfl, e1⟩

end Go.Proofs.YtcnbpfecgokhiaaGreatDoor
