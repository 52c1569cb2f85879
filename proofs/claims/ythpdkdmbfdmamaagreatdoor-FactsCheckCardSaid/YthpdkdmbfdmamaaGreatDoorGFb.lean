/- a part of the proof: steps, walks and plain laws that the law below stands on; no condition. -/
import Derived.Test.YthpdkdmbfdmamaaGreatDoorGFa
import Derived.Test.YthpdkdmbfdmamaaGreatDoorGAa
set_option linter.unusedVariables false
set_option linter.unusedSimpArgs false
set_option linter.unnecessarySimpa false
set_option linter.unusedSectionVars false
namespace Go.Proofs.YthpdkdmbfdmamaaGreatDoor
open Go.Eng Go.RowKit

/-! ### plainly -/
theorem sortD_snoc (a : List Int) (x : Int) : sortD (a ++ [x]) = insD x (sortD a) := by
  unfold sortD
  rw [List.foldl_append]; rfl
theorem filterMap_step {p : Fact → Bool} {f : Fact → Int} {K : List Fact} {i : Nat} (hi : i < K.length) : ((K.take (i + 1)).filter p).map f = ((K.take i).filter p).map f ++ if p K[i] = true then [f K[i]] else [] := by
  rw [List.take_succ_eq_append_getElem hi, List.filter_append, List.map_append, List.filter_cons, List.filter_nil]
  by_cases h : p K[i] = true
  · rw [if_pos h, if_pos h]; rfl
  · rw [if_neg h, if_neg h]; rfl
theorem sortF_length {p : Fact → Bool} {f : Fact → Int} {K : List Fact} : (sortD ((K.filter p).map f)).length ≤ K.length := by
  have h1 := sortD_length ((K.filter p).map f)
  have h2 := List.length_filter_le p K
  rw [List.length_map] at h1
  omega
theorem living_length (X : List Fact) (k s cl : Int) : (livingL X k s cl).length ≤ X.length := sortF_length
theorem living_asc (X : List Fact) (k s cl : Int) : (livingL X k s cl).Pairwise (· < ·) := sortD_asc _

/-! ### the walks -/
set_option maxRecDepth 100000 in
theorem refStates_spec {w : World} {A : Option Addr} {l : List Fact} {c : Nat} (h : HF w A l c) (hl : l.length ≤ 2 ^ 20) (k day : Int) :
    CallsV C.P 48 #[.slice A l.length c, .int .i64 k, .int .i64 day] w fun v w' => NewInts w.heap.size w' v (statesL (atL k day l)) ∧ Ext w w' := by
  refine callsV_of C_ok (args := [_, _, _]) (plans := []) Tryz.func48 rfl Tryz.ntmps48 (by kernel_rfl) (Nat.le_of_ble_eq_true rfl) ?_
  refine (refAt_spec h hl k day).mono ?_
  rintro v0 w1 ⟨ho, e1⟩
  have hK := atL_length k day l
  generalize atL k day l = K at *
  obtain ⟨AK, cK, rfl, hrK, _⟩ := ho.slice
  unfold statesL whos
  refine loopE C_ok (fun (s : Nat × Value) => [(7, .slice AK K.length cK), (8, s.2), (9, .int .i64 s.1)])
    (fun s w' => s.1 ≤ K.length ∧ Ext w1 w' ∧ NewInts w1.heap.size w' s.2 (sortD (((K.take s.1).filter fun y => decide (y.kind = 1)).map Fact.who))) (fun s => K.length - s.1) (0, .slice none 0 0) ⟨rfl, rfl, rfl, trivial⟩ ⟨Nat.zero_le _, Ext.refl _, newInts_nil _ _⟩ ?_
  rintro ⟨i, v⟩ w2 ⟨hi', e2', ho'⟩
  have hi : i ≤ K.length := hi'
  have e2 : Ext w1 w2 := e2'
  have ho2 : NewInts w1.heap.size w2 v (sortD (((K.take i).filter fun y => decide (y.kind = 1)).map Fact.who)) := ho'
  clear hi' ho' e2'
  refine brE_dec (fun hlt2 => ?_) (fun hge => ?_)
  · have hlt : i < K.length := by have : (i : Int) < (K.length : Nat) := hlt2; omega
    clear hlt2
    have next : IntKind.i64.wrap ((i : Int) + 1) = ((i + 1 : Nat) : Int) := fit ⟨by omega, by omega⟩
    obtain ⟨b, o, hA, hc⟩ := Reads.fact (hrK.ext e2) hlt
    have hst := filterMap_step (p := fun y => decide (y.kind = 1)) (f := Fact.who) hlt
    have hln := sortF_length (p := fun y => decide (y.kind = 1)) (f := Fact.who) (K := K.take i)
    have htl : (K.take i).length ≤ K.length := by rw [List.length_take]; omega
    refine ⟨i, b, o, rfl, hlt, hA, ?_⟩
    refine ⟨.int .u8 K[i].kind, hc 2 _ rfl, ?_⟩
    refine brE_dec (fun k0 => ?_) (fun k0 => ?_)
    · have k0 : K[i].kind = 1 := k0
      rw [if_pos (decide_eq_true k0)] at hst
      refine ⟨i, b, o, rfl, hlt, hA, ?_⟩
      refine ⟨.int .i64 K[i].who, hc 3 _ rfl, ?_⟩
      obtain ⟨AV, cV, rfl, hrV, _⟩ := NewInts.slice ho2
      refine (with_spec hrV (by omega) (sortD_asc _) K[i].who).mono ?_
      rintro v3 w3 ⟨ho3, e3⟩
      refine ⟨_, next, ?_⟩
      exact ⟨(i + 1, v3), ⟨rfl, rfl, rfl, trivial⟩, ⟨hlt, e2.trans e3, by show NewInts w1.heap.size w3 v3 (sortD (((K.take (i + 1)).filter fun y => decide (y.kind = 1)).map Fact.who)); rw [hst, sortD_snoc]; exact ho3.base e2.size⟩, by show K.length - (i + 1) < K.length - i; omega⟩
    · have k0 : ¬ K[i].kind = 1 := k0
      rw [if_neg (by simpa using k0), List.append_nil] at hst
      refine ⟨_, next, ?_⟩
      exact ⟨(i + 1, v), ⟨rfl, rfl, rfl, trivial⟩, ⟨hlt, e2, by show NewInts w1.heap.size w2 v (sortD (((K.take (i + 1)).filter fun y => decide (y.kind = 1)).map Fact.who)); rw [hst]; exact ho2⟩, by show K.length - (i + 1) < K.length - i; omega⟩
  · have : i = K.length := by have : ¬ (i : Int) < (K.length : Nat) := hge; omega
    rw [this, List.take_length] at ho2
    exact ⟨ho2.base e1.size, e1.trans e2⟩

set_option maxRecDepth 100000 in
theorem office_spec {w : World} {A : Option Addr} {l : List Fact} {c : Nat} (h : HF w A l c) (hl : l.length ≤ 2 ^ 20) (k day kk s0 cl : Int) :
    CallsV C.P 124 #[.slice A l.length c, .int .i64 k, .int .i64 day, .int .u8 kk, .int .i64 s0, .int .i64 cl] w fun v w' => NewInts w.heap.size w' v (livingL (atL k day l) kk s0 cl) ∧ Ext w w' := by
  refine callsV_of C_ok (args := [_, _, _, _, _, _]) (plans := []) Tryz.func124 rfl Tryz.ntmps124 (by kernel_rfl) (Nat.le_of_ble_eq_true rfl) ?_
  refine (refAt_spec h hl k day).mono ?_
  rintro v0 w1 ⟨ho, e1⟩
  have hK := atL_length k day l
  generalize atL k day l = K at *
  obtain ⟨AK, cK, rfl, hrK, _⟩ := ho.slice
  unfold livingL
  refine loopE C_ok (fun (s : Nat × Value) => [(3, .int .u8 kk), (4, .int .i64 s0), (5, .int .i64 cl), (13, .slice AK K.length cK), (14, s.2), (15, .int .i64 s.1)])
    (fun s w' => s.1 ≤ K.length ∧ Ext w1 w' ∧ NewInts w1.heap.size w' s.2 (sortD (((K.take s.1).filter (livesB K kk s0 cl)).map Fact.who))) (fun s => K.length - s.1) (0, .slice none 0 0) ⟨rfl, rfl, rfl, rfl, rfl, rfl, trivial⟩ ⟨Nat.zero_le _, Ext.refl _, newInts_nil _ _⟩ ?_
  rintro ⟨i, v⟩ w2 ⟨hi', e2', ho'⟩
  have hi : i ≤ K.length := hi'
  have e2 : Ext w1 w2 := e2'
  have ho2 : NewInts w1.heap.size w2 v (sortD (((K.take i).filter (livesB K kk s0 cl)).map Fact.who)) := ho'
  clear hi' ho' e2'
  refine brE_dec (fun hlt2 => ?_) (fun hge => ?_)
  · have hlt : i < K.length := by have : (i : Int) < (K.length : Nat) := hlt2; omega
    clear hlt2
    have next : IntKind.i64.wrap ((i : Int) + 1) = ((i + 1 : Nat) : Int) := fit ⟨by omega, by omega⟩
    obtain ⟨b, o, hA, hc⟩ := Reads.fact (hrK.ext e2) hlt
    have hst := filterMap_step (p := livesB K kk s0 cl) (f := Fact.who) hlt
    have hln := sortF_length (p := livesB K kk s0 cl) (f := Fact.who) (K := K.take i)
    have htl : (K.take i).length ≤ K.length := by rw [List.length_take]; omega
    have miss : livesB K kk s0 cl K[i] = false → i + 1 ≤ K.length ∧ Ext w1 w2 ∧ NewInts w1.heap.size w2 v (sortD (((K.take (i + 1)).filter (livesB K kk s0 cl)).map Fact.who)) := fun hf => by
      rw [hf, if_neg (by decide), List.append_nil] at hst
      exact ⟨hlt, e2, by rw [hst]; exact ho2⟩
    refine ⟨i, b, o, rfl, hlt, hA, ?_⟩
    refine ⟨.int .i64 K[i].who, hc 3 _ rfl, ?_⟩
    refine (refdead_spec (hrK.ext e2) (by omega) K[i].who).mono ?_
    rintro _ w3 ⟨rfl, rfl⟩
    refine ⟨i, b, o, rfl, hlt, hA, ?_⟩
    refine ⟨.int .u8 K[i].kind, hc 2 _ rfl, ?_⟩
    refine brE_dec (fun k0 => ?_) (fun k0 => ?_)
    · have k0 : K[i].kind = kk := k0
      refine ⟨i, b, o, rfl, hlt, hA, ?_⟩
      refine ⟨.int .i64 K[i].what, hc 4 _ rfl, ?_⟩
      refine brE_dec (fun k1 => ?_) (fun k1 => ?_)
      · have k1 : K[i].what = s0 := k1
        refine ⟨i, b, o, rfl, hlt, hA, ?_⟩
        refine ⟨.int .i64 K[i].other, hc 5 _ rfl, ?_⟩
        refine brE_dec (fun k2 => ?_) (fun k2 => ?_)
        · have k2 : K[i].other = cl := k2
          cases hd : deadB K K[i].who with
          | true =>
            refine ⟨_, next, ?_⟩
            exact ⟨(i + 1, v), ⟨rfl, rfl, rfl, rfl, rfl, rfl, trivial⟩, miss (by unfold livesB; rw [hd, Bool.and_comm]; rfl), by show K.length - (i + 1) < K.length - i; omega⟩
          | false =>
            have hp : livesB K kk s0 cl K[i] = true := by unfold livesB; rw [hd, decide_eq_true ⟨k0, k1, k2⟩]; rfl
            rw [if_pos hp] at hst
            refine ⟨i, b, o, rfl, hlt, hA, ?_⟩
            refine ⟨.int .i64 K[i].who, hc 3 _ rfl, ?_⟩
            obtain ⟨AV, cV, rfl, hrV, _⟩ := NewInts.slice ho2
            refine (with_spec hrV (by omega) (sortD_asc _) K[i].who).mono ?_
            rintro v4 w4 ⟨ho4, e4⟩
            refine ⟨_, next, ?_⟩
            exact ⟨(i + 1, v4), ⟨rfl, rfl, rfl, rfl, rfl, rfl, trivial⟩, ⟨hlt, e2.trans e4, by show NewInts w1.heap.size w4 v4 (sortD (((K.take (i + 1)).filter (livesB K kk s0 cl)).map Fact.who)); rw [hst, sortD_snoc]; exact ho4.base e2.size⟩, by show K.length - (i + 1) < K.length - i; omega⟩
        · have k2 : ¬ K[i].other = cl := k2
          refine ⟨_, next, ?_⟩
          exact ⟨(i + 1, v), ⟨rfl, rfl, rfl, rfl, rfl, rfl, trivial⟩, miss (by unfold livesB; rw [decide_eq_false fun hh => k2 hh.2.2]; rfl), by show K.length - (i + 1) < K.length - i; omega⟩
      · have k1 : ¬ K[i].what = s0 := k1
        refine ⟨_, next, ?_⟩
        exact ⟨(i + 1, v), ⟨rfl, rfl, rfl, rfl, rfl, rfl, trivial⟩, miss (by unfold livesB; rw [decide_eq_false fun hh => k1 hh.2.1]; rfl), by show K.length - (i + 1) < K.length - i; omega⟩
    · have k0 : ¬ K[i].kind = kk := k0
      refine ⟨_, next, ?_⟩
      exact ⟨(i + 1, v), ⟨rfl, rfl, rfl, rfl, rfl, rfl, trivial⟩, miss (by unfold livesB; rw [decide_eq_false fun hh => k0 hh.1]; rfl), by show K.length - (i + 1) < K.length - i; omega⟩
  · have : i = K.length := by have : ¬ (i : Int) < (K.length : Nat) := hge; omega
    rw [this, List.take_length] at ho2
    exact ⟨ho2.base e1.size, e1.trans e2⟩

theorem refHolders_spec {w : World} {A : Option Addr} {l : List Fact} {c : Nat} (h : HF w A l c) (hl : l.length ≤ 2 ^ 20) (k day s0 cl : Int) :
    CallsV C.P 64 #[.slice A l.length c, .int .i64 k, .int .i64 day, .int .i64 s0, .int .i64 cl] w fun v w' => NewInts w.heap.size w' v (livingL (atL k day l) 2 s0 cl) ∧ Ext w w' := by
  refine callsV_of C_ok (args := [_, _, _, _, _]) (plans := []) Tryz.func64 rfl Tryz.ntmps64 (by kernel_rfl) (Nat.le_of_ble_eq_true rfl) ?_
  refine (office_spec h hl k day 2 s0 cl).mono ?_
  rintro v w1 hh
  exact hh
theorem refActing_spec {w : World} {A : Option Addr} {l : List Fact} {c : Nat} (h : HF w A l c) (hl : l.length ≤ 2 ^ 20) (k day s0 cl : Int) :
    CallsV C.P 66 #[.slice A l.length c, .int .i64 k, .int .i64 day, .int .i64 s0, .int .i64 cl] w fun v w' => NewInts w.heap.size w' v (livingL (atL k day l) 3 s0 cl) ∧ Ext w w' := by
  refine callsV_of C_ok (args := [_, _, _, _, _]) (plans := []) Tryz.func66 rfl Tryz.ntmps66 (by kernel_rfl) (Nat.le_of_ble_eq_true rfl) ?_
  refine (office_spec h hl k day 3 s0 cl).mono ?_
  rintro v w1 hh
  exact hh
theorem refDead_spec {w : World} {A : Option Addr} {l : List Fact} {c : Nat} (h : HF w A l c) (hl : l.length ≤ 2 ^ 20) (k day n : Int) :
    CallsV C.P 69 #[.slice A l.length c, .int .i64 k, .int .i64 day, .int .i64 n] w fun v w' => v = .bool (deadB (atL k day l) n) ∧ Ext w w' := by
  refine callsV_of C_ok (args := [_, _, _, _]) (plans := []) Tryz.func69 rfl Tryz.ntmps69 (by kernel_rfl) (Nat.le_of_ble_eq_true rfl) ?_
  refine (refAt_spec h hl k day).mono ?_
  rintro v0 w1 ⟨ho, e1⟩
  have hK := atL_length k day l
  obtain ⟨AK, cK, rfl, hrK, _⟩ := ho.slice
  refine (refdead_spec hrK (by omega) n).mono ?_
  rintro _ w2 ⟨rfl, rfl⟩
  exact ⟨rfl, e1⟩

set_option maxRecDepth 100000 in
theorem refContested_spec {w : World} {A : Option Addr} {l : List Fact} {c : Nat} (h : HF w A l c) (hl : l.length ≤ 2 ^ 20) (k day : Int) :
    CallsV C.P 68 #[.slice A l.length c, .int .i64 k, .int .i64 day] w fun v w' => NewInts w.heap.size w' v (contestedL (atL k day l)) ∧ Ext w w' := by
  refine callsV_of C_ok (args := [_, _, _]) (plans := []) Tryz.func68 rfl Tryz.ntmps68 (by kernel_rfl) (Nat.le_of_ble_eq_true rfl) ?_
  refine (refAt_spec h hl k day).mono ?_
  rintro v0 w1 ⟨ho, e1⟩
  have hK := atL_length k day l
  have hold : ∀ {w' : World} (s0 : Int), Ext w1 w' → CallsV C.P 64 #[.slice A l.length c, .int .i64 k, .int .i64 day, .int .i64 s0, .int .i64 1] w' fun v w'' => NewInts w'.heap.size w'' v (livingL (atL k day l) 2 s0 1) ∧ Ext w' w'' := fun s0 e => refHolders_spec (h.ext (e1.trans e)) hl k day s0 1
  generalize atL k day l = K at *
  obtain ⟨AK, cK, rfl, hrK, _⟩ := ho.slice
  unfold contestedL
  refine loopE C_ok (fun (s : Nat × Value) => [(0, .slice A l.length c), (1, .int .i64 k), (2, .int .i64 day), (7, .slice AK K.length cK), (8, s.2), (9, .int .i64 s.1)])
    (fun s w' => s.1 ≤ K.length ∧ Ext w1 w' ∧ NewInts w1.heap.size w' s.2 (sortD (((K.take s.1).filter fun x => decide (x.kind = 2 ∧ x.other = 1) && decide (1 < (livingL K 2 x.what 1).length)).map Fact.what))) (fun s => K.length - s.1) (0, .slice none 0 0) ⟨rfl, rfl, rfl, rfl, rfl, rfl, trivial⟩ ⟨Nat.zero_le _, Ext.refl _, newInts_nil _ _⟩ ?_
  rintro ⟨i, v⟩ w2 ⟨hi', e2', ho'⟩
  have hi : i ≤ K.length := hi'
  have e2 : Ext w1 w2 := e2'
  have ho2 : NewInts w1.heap.size w2 v (sortD (((K.take i).filter fun x => decide (x.kind = 2 ∧ x.other = 1) && decide (1 < (livingL K 2 x.what 1).length)).map Fact.what)) := ho'
  clear hi' ho' e2'
  refine brE_dec (fun hlt2 => ?_) (fun hge => ?_)
  · have hlt : i < K.length := by have : (i : Int) < (K.length : Nat) := hlt2; omega
    clear hlt2
    have next : IntKind.i64.wrap ((i : Int) + 1) = ((i + 1 : Nat) : Int) := fit ⟨by omega, by omega⟩
    obtain ⟨b, o, hA, hc⟩ := Reads.fact (hrK.ext e2) hlt
    have hst := filterMap_step (p := fun x => decide (x.kind = 2 ∧ x.other = 1) && decide (1 < (livingL K 2 x.what 1).length)) (f := Fact.what) hlt
    have hln := sortF_length (p := fun x => decide (x.kind = 2 ∧ x.other = 1) && decide (1 < (livingL K 2 x.what 1).length)) (f := Fact.what) (K := K.take i)
    have htl : (K.take i).length ≤ K.length := by rw [List.length_take]; omega
    have miss : ∀ {w' : World}, Ext w2 w' → (decide (K[i].kind = 2 ∧ K[i].other = 1) && decide (1 < (livingL K 2 K[i].what 1).length)) = false → i + 1 ≤ K.length ∧ Ext w1 w' ∧ NewInts w1.heap.size w' v (sortD (((K.take (i + 1)).filter fun x => decide (x.kind = 2 ∧ x.other = 1) && decide (1 < (livingL K 2 x.what 1).length)).map Fact.what)) := fun e hf => by
      rw [hf, if_neg (by decide), List.append_nil] at hst
      exact ⟨hlt, e2.trans e, by rw [hst]; exact ho2.ext e⟩
    refine ⟨i, b, o, rfl, hlt, hA, ?_⟩
    refine ⟨.int .u8 K[i].kind, hc 2 _ rfl, ?_⟩
    refine brE_ndec (fun k0 => ?_) (fun k0 => ?_)
    · have k0 : ¬ K[i].kind = 2 := k0
      refine ⟨_, next, ?_⟩
      exact ⟨(i + 1, v), ⟨rfl, rfl, rfl, rfl, rfl, rfl, trivial⟩, miss (Ext.refl _) (by rw [decide_eq_false fun hh => k0 hh.1]; rfl), by show K.length - (i + 1) < K.length - i; omega⟩
    · have k0 : K[i].kind = 2 := k0
      refine ⟨i, b, o, rfl, hlt, hA, ?_⟩
      refine ⟨.int .i64 K[i].other, hc 5 _ rfl, ?_⟩
      refine brE_ndec (fun k1 => ?_) (fun k1 => ?_)
      · have k1 : ¬ K[i].other = 1 := k1
        refine ⟨_, next, ?_⟩
        exact ⟨(i + 1, v), ⟨rfl, rfl, rfl, rfl, rfl, rfl, trivial⟩, miss (Ext.refl _) (by rw [decide_eq_false fun hh => k1 hh.2]; rfl), by show K.length - (i + 1) < K.length - i; omega⟩
      · have k1 : K[i].other = 1 := k1
        refine ⟨i, b, o, rfl, hlt, hA, ?_⟩
        refine ⟨.int .i64 K[i].what, hc 4 _ rfl, ?_⟩
        refine (hold K[i].what e2).mono ?_
        rintro v3 w3 ⟨ho3, e3⟩
        obtain ⟨A3, c3, rfl, _, _⟩ := NewInts.slice ho3
        have hll := living_length K 2 K[i].what 1
        refine brE_dec (fun k2 => ?_) (fun k2 => ?_)
        · have k2 : ((livingL K 2 K[i].what 1).length : Int) > 1 := k2
          rw [if_pos (by rw [decide_eq_true ⟨k0, k1⟩, decide_eq_true (by omega)]; rfl)] at hst
          obtain ⟨b, o, hA, hc⟩ := Reads.fact (hrK.ext (e2.trans e3)) hlt
          refine ⟨i, b, o, rfl, hlt, hA, ?_⟩
          refine ⟨.int .i64 K[i].what, hc 4 _ rfl, ?_⟩
          obtain ⟨AV, cV, rfl, hrV, _⟩ := NewInts.slice ho2
          refine (with_spec (hrV.ext e3) (by omega) (sortD_asc _) K[i].what).mono ?_
          rintro v4 w4 ⟨ho4, e4⟩
          refine ⟨_, next, ?_⟩
          exact ⟨(i + 1, v4), ⟨rfl, rfl, rfl, rfl, rfl, rfl, trivial⟩, ⟨hlt, (e2.trans e3).trans e4, by
            show NewInts w1.heap.size w4 v4 (sortD (((K.take (i + 1)).filter fun x => decide (x.kind = 2 ∧ x.other = 1) && decide (1 < (livingL K 2 x.what 1).length)).map Fact.what))
            rw [hst, sortD_snoc]; exact ho4.base (e2.trans e3).size⟩, by show K.length - (i + 1) < K.length - i; omega⟩
        · have k2 : ¬ ((livingL K 2 K[i].what 1).length : Int) > 1 := k2
          refine ⟨_, next, ?_⟩
          exact ⟨(i + 1, v), ⟨rfl, rfl, rfl, rfl, rfl, rfl, trivial⟩, miss e3 (by rw [decide_eq_false (show ¬ 1 < (livingL K 2 K[i].what 1).length by omega), Bool.and_comm]; rfl), by show K.length - (i + 1) < K.length - i; omega⟩
  · have : i = K.length := by have : ¬ (i : Int) < (K.length : Nat) := hge; omega
    rw [this, List.take_length] at ho2
    exact ⟨ho2.base e1.size, e1.trans e2⟩

end Go.Proofs.YthpdkdmbfdmamaaGreatDoor

namespace Go.Proofs.YthpdkdmbfdmamaaGreatDoor
open Go.Eng Go.RowKit

/-- Whom the host has recognised so far: of the first 'i' holders all, of the next one if one of the first 'j' facts says so. -/
def Chosen (K : List Fact) (host s0 : Int) (H : List Int) (i j : Nat) (M : List Int) : Prop :=
  M.Pairwise (· < ·) ∧ ∀ x, x ∈ M ↔ (x ∈ H.take i ∧ K.any (recogB host s0 x) = true) ∨ (∃ hi : i < H.length, x = H[i] ∧ (K.take j).any (recogB host s0 x) = true)
theorem Chosen.next {K : List Fact} {host s0 : Int} {H M : List Int} {i : Nat} (hi : i < H.length) (h : Chosen K host s0 H i K.length M) : Chosen K host s0 H (i + 1) 0 M := by
  refine ⟨h.1, fun x => ?_⟩
  rw [h.2, List.take_succ_eq_append_getElem hi, List.take_length]
  constructor
  · rintro (⟨h1, h2⟩ | ⟨_, h1, h2⟩)
    · exact .inl ⟨List.mem_append_left _ h1, h2⟩
    · exact .inl ⟨List.mem_append_right _ (by rw [h1]; simp), h2⟩
  · rintro (⟨h1, h2⟩ | ⟨_, _, h2⟩)
    · rcases List.mem_append.1 h1 with h1 | h1
      · exact .inl ⟨h1, h2⟩
      · exact .inr ⟨hi, List.mem_singleton.1 h1, h2⟩
    · simp at h2
theorem Chosen.miss {K : List Fact} {host s0 : Int} {H M : List Int} {i j : Nat} (hi : i < H.length) (hj : j < K.length) (hm : recogB host s0 H[i] K[j] = false) (h : Chosen K host s0 H i j M) : Chosen K host s0 H i (j + 1) M := by
  refine ⟨h.1, fun x => ?_⟩
  rw [h.2]
  refine or_congr Iff.rfl ⟨fun ⟨a, b, d⟩ => ⟨a, b, ?_⟩, fun ⟨a, b, d⟩ => ⟨a, b, ?_⟩⟩
  · rw [any_step hj, d]; rfl
  · rw [any_step hj] at d
    rw [b, hm, Bool.or_false] at d
    rw [b]; exact d
theorem Chosen.hit {K : List Fact} {host s0 : Int} {H M : List Int} {i j : Nat} (hi : i < H.length) (hj : j < K.length) (hm : recogB host s0 H[i] K[j] = true) (h : Chosen K host s0 H i j M) : Chosen K host s0 H i (j + 1) (insD H[i] M) := by
  refine ⟨insD_asc h.1, fun x => ?_⟩
  rw [mem_insD, h.2]
  constructor
  · rintro (rfl | h1 | ⟨_, h1, h2⟩)
    · exact .inr ⟨hi, rfl, by rw [any_step hj, hm, Bool.or_true]⟩
    · exact .inl h1
    · exact .inr ⟨hi, h1, by rw [any_step hj, h2]; rfl⟩
  · rintro (h1 | ⟨_, h1, h2⟩)
    · exact .inr (.inl h1)
    · exact .inl h1
theorem Chosen.length {K : List Fact} {host s0 : Int} {H M : List Int} {i j : Nat} (h : Chosen K host s0 H i j M) : M.length ≤ H.length := by
  refine asc_length h.1 fun x hx => ?_
  rcases (h.2 x).1 hx with ⟨h1, _⟩ | ⟨hi, h1, _⟩
  · exact List.mem_of_mem_take h1
  · rw [h1]; exact List.getElem_mem hi
theorem Chosen.final {K : List Fact} {host s0 : Int} {M : List Int} (h : Chosen K host s0 (livingL K 2 s0 1) (livingL K 2 s0 1).length 0 M) : M = (livingL K 2 s0 1).filter fun p => K.any (recogB host s0 p) := by
  refine asc_eq h.1 ((living_asc K 2 s0 1).filter _) fun x => ?_
  rw [h.2, List.take_length, List.mem_filter]
  constructor
  · rintro (h | ⟨hi, _⟩)
    · exact h
    · exact absurd hi (Nat.lt_irrefl _)
  · exact .inl
def oneOf : List Int → Int × Bool
  | [p] => (p, true)
  | _ => (0, false)
theorem recog_ref {K : List Fact} {host s0 : Int} (h : ¬ (livingL K 2 s0 1).length = 1) {M : List Int} (hM : M = (livingL K 2 s0 1).filter fun p => K.any (recogB host s0 p)) : recogL K host s0 = oneOf M := by
  have hdef : recogL K host s0 = oneOf (chosenL K host s0) := rfl
  rw [hdef]
  unfold chosenL
  by_cases h1 : 1 < (livingL K 2 s0 1).length
  · rw [if_pos h1, hM]
  · have : livingL K 2 s0 1 = [] := List.length_eq_zero_iff.1 (by omega)
    rw [if_neg h1, hM, this]; rfl

set_option maxRecDepth 100000 in
theorem refRecognised_spec {w : World} {A : Option Addr} {l : List Fact} {c : Nat} (h : HF w A l c) (hl : l.length ≤ 2 ^ 20) (k day host s0 : Int) :
    CallsV C.P 60 #[.slice A l.length c, .int .i64 k, .int .i64 day, .int .i64 host, .int .i64 s0] w fun v w' => v = .tuple #[.int .i64 (recogL (atL k day l) host s0).1, .bool (recogL (atL k day l) host s0).2] ∧ Ext w w' := by
  refine callsV_of C_ok (args := [_, _, _, _, _]) (plans := plans60) Tryz.func60 rfl Tryz.ntmps60 (by kernel_rfl) (Nat.le_of_ble_eq_true rfl) ?_
  refine (refHolders_spec h hl k day s0 1).mono ?_
  rintro v1 w1 ⟨ho1, e1⟩
  have hK := atL_length k day l
  have hH := living_length (atL k day l) 2 s0 1
  have hchosen : ∀ M : List Int, M = (livingL (atL k day l) 2 s0 1).filter (fun p => (atL k day l).any (recogB host s0 p)) → ¬ (livingL (atL k day l) 2 s0 1).length = 1 → recogL (atL k day l) host s0 = oneOf M := fun M hM h1 => recog_ref h1 hM
  obtain ⟨AH, cH, rfl, hrH, _⟩ := NewInts.slice ho1
  refine brE_dec (fun h1 => ?_) (fun h1 => ?_)
  · have h1 : ((livingL (atL k day l) 2 s0 1).length : Int) = 1 := h1
    obtain ⟨p, hp⟩ := List.length_eq_one_iff.1 (show (livingL (atL k day l) 2 s0 1).length = 1 by omega)
    have hlt : 0 < (livingL (atL k day l) 2 s0 1).length := by omega
    obtain ⟨b, o, hA, hc⟩ := Reads.int hrH hlt
    refine ⟨0, b, o, rfl, hlt, hA, ?_⟩
    refine ⟨_, by simpa using hc, ?_⟩
    refine ⟨?_, e1⟩
    have hr : recogL (atL k day l) host s0 = (p, true) := by
      unfold recogL chosenL
      rw [if_neg (by omega), hp]
    rw [hr]
    simp only [hp, List.getElem_cons_zero]
  have h1 : ¬ ((livingL (atL k day l) 2 s0 1).length : Int) = 1 := h1
  refine (refAt_spec (h.ext e1) hl k day).mono ?_
  rintro v2 w2 ⟨ho2, e2⟩
  have hfin : ∀ {M : List Int}, Chosen (atL k day l) host s0 (livingL (atL k day l) 2 s0 1) (livingL (atL k day l) 2 s0 1).length 0 M → recogL (atL k day l) host s0 = oneOf M := fun hM => hchosen _ hM.final (by omega)
  have hrH2 := hrH.ext e2
  have e02 := e1.trans e2
  clear hchosen ho1 hrH e1 e2
  generalize livingL (atL k day l) 2 s0 1 = H at *
  generalize atL k day l = K at *
  obtain ⟨AK, cK, rfl, hrK, _⟩ := ho2.slice
  refine loopE C_ok (fun (s : Nat × Value × List Int) => [(3, .int .i64 host), (4, .int .i64 s0), (12, .slice AH H.length cH), (13, .slice AK K.length cK), (14, s.2.1), (15, .int .i64 s.1)])
    (fun s w' => s.1 ≤ H.length ∧ Ext w2 w' ∧ NewInts w2.heap.size w' s.2.1 s.2.2 ∧ Chosen K host s0 H s.1 0 s.2.2) (fun s => H.length - s.1) (0, .slice none 0 0, [])
    ⟨rfl, rfl, rfl, rfl, rfl, rfl, trivial⟩ ⟨Nat.zero_le _, Ext.refl _, newInts_nil _ _, List.Pairwise.nil, fun x => by simp⟩ ?_
  rintro ⟨i, v, M⟩ w3 ⟨hi', e3', ho3', hM'⟩
  have hi : i ≤ H.length := hi'
  have e3 : Ext w2 w3 := e3'
  have ho3 : NewInts w2.heap.size w3 v M := ho3'
  have hM : Chosen K host s0 H i 0 M := hM'
  clear hi' e3' ho3' hM'
  refine brE_dec (fun hlt2 => ?_) (fun hge => ?_)
  · have hlt : i < H.length := by have : (i : Int) < (H.length : Nat) := hlt2; omega
    clear hlt2
    have next : IntKind.i64.wrap ((i : Int) + 1) = ((i + 1 : Nat) : Int) := fit ⟨by omega, by omega⟩
    refine loopE C_ok (fun (s : Nat × Value × List Int) => [(3, .int .i64 host), (4, .int .i64 s0), (12, .slice AH H.length cH), (13, .slice AK K.length cK), (14, s.2.1), (15, .int .i64 i), (16, .int .i64 s.1)])
      (fun s w' => s.1 ≤ K.length ∧ Ext w2 w' ∧ NewInts w2.heap.size w' s.2.1 s.2.2 ∧ Chosen K host s0 H i s.1 s.2.2) (fun s => K.length - s.1) (0, v, M)
      ⟨rfl, rfl, rfl, rfl, rfl, rfl, rfl, trivial⟩ ⟨Nat.zero_le _, e3, ho3, hM⟩ ?_
    rintro ⟨j, v, M⟩ w4 ⟨hj', e4', ho4', hM'⟩
    have hj : j ≤ K.length := hj'
    have e4 : Ext w2 w4 := e4'
    have ho4 : NewInts w2.heap.size w4 v M := ho4'
    have hM : Chosen K host s0 H i j M := hM'
    clear hj' e4' ho4' hM'
    refine brE_dec (fun hjl2 => ?_) (fun hjl => ?_)
    · have hjl : j < K.length := by have : (j : Int) < (K.length : Nat) := hjl2; omega
      clear hjl2
      have next2 : IntKind.i64.wrap ((j : Int) + 1) = ((j + 1 : Nat) : Int) := fit ⟨by omega, by omega⟩
      obtain ⟨b, o, hA, hc⟩ := Reads.fact (hrK.ext e4) hjl
      have miss : recogB host s0 H[i] K[j] = false → j + 1 ≤ K.length ∧ Ext w2 w4 ∧ NewInts w2.heap.size w4 v M ∧ Chosen K host s0 H i (j + 1) M := fun hf => ⟨hjl, e4, ho4, hM.miss hlt hjl hf⟩
      refine ⟨j, b, o, rfl, hjl, hA, ?_⟩
      refine ⟨.int .u8 K[j].kind, hc 2 _ rfl, ?_⟩
      refine brE_dec (fun k0 => ?_) (fun k0 => ?_)
      · have k0 : K[j].kind = 4 := k0
        refine ⟨j, b, o, rfl, hjl, hA, ?_⟩
        refine ⟨.int .i64 K[j].who, hc 3 _ rfl, ?_⟩
        refine brE_dec (fun k1 => ?_) (fun k1 => ?_)
        · have k1 : K[j].who = host := k1
          refine ⟨j, b, o, rfl, hjl, hA, ?_⟩
          refine ⟨.int .i64 K[j].what, hc 4 _ rfl, ?_⟩
          refine brE_dec (fun k2 => ?_) (fun k2 => ?_)
          · have k2 : K[j].what = s0 := k2
            obtain ⟨bH, oH, hAH, hcH⟩ := Reads.int (hrH2.ext e4) hlt
            refine ⟨j, b, o, rfl, hjl, hA, ?_⟩
            refine ⟨.int .i64 K[j].other, hc 5 _ rfl, ?_⟩
            refine ⟨i, bH, oH, rfl, hlt, hAH, ?_⟩
            refine ⟨_, by simpa using hcH, ?_⟩
            refine brE_dec (fun k3 => ?_) (fun k3 => ?_)
            · have k3 : K[j].other = H[i] := k3
              have hhit := hM.hit hlt hjl (decide_eq_true ⟨k0, k1, k2, k3⟩)
              have hml := hM.length
              obtain ⟨AV, cV, rfl, hrV, _⟩ := NewInts.slice ho4
              refine ⟨i, bH, oH, rfl, hlt, hAH, ?_⟩
              refine ⟨_, by simpa using hcH, ?_⟩
              refine (with_spec hrV (by omega) hM.1 H[i]).mono ?_
              rintro v5 w5 ⟨ho5, e5⟩
              refine ⟨_, next2, ?_⟩
              exact ⟨(j + 1, v5, insD H[i] M), ⟨rfl, rfl, rfl, rfl, rfl, rfl, rfl, trivial⟩, ⟨hjl, e4.trans e5, ho5.base e4.size, hhit⟩, by show K.length - (j + 1) < K.length - j; omega⟩
            · have k3 : ¬ K[j].other = H[i] := k3
              refine ⟨_, next2, ?_⟩
              exact ⟨(j + 1, v, M), ⟨rfl, rfl, rfl, rfl, rfl, rfl, rfl, trivial⟩, miss (decide_eq_false fun hh => k3 hh.2.2.2), by show K.length - (j + 1) < K.length - j; omega⟩
          · have k2 : ¬ K[j].what = s0 := k2
            refine ⟨_, next2, ?_⟩
            exact ⟨(j + 1, v, M), ⟨rfl, rfl, rfl, rfl, rfl, rfl, rfl, trivial⟩, miss (decide_eq_false fun hh => k2 hh.2.2.1), by show K.length - (j + 1) < K.length - j; omega⟩
        · have k1 : ¬ K[j].who = host := k1
          refine ⟨_, next2, ?_⟩
          exact ⟨(j + 1, v, M), ⟨rfl, rfl, rfl, rfl, rfl, rfl, rfl, trivial⟩, miss (decide_eq_false fun hh => k1 hh.2.1), by show K.length - (j + 1) < K.length - j; omega⟩
      · have k0 : ¬ K[j].kind = 4 := k0
        refine ⟨_, next2, ?_⟩
        exact ⟨(j + 1, v, M), ⟨rfl, rfl, rfl, rfl, rfl, rfl, rfl, trivial⟩, miss (decide_eq_false fun hh => k0 hh.1), by show K.length - (j + 1) < K.length - j; omega⟩
    · have : j = K.length := by have : ¬ (j : Int) < (K.length : Nat) := hjl; omega
      rw [this] at hM
      refine ⟨_, next, ?_⟩
      exact ⟨(i + 1, v, M), ⟨rfl, rfl, rfl, rfl, rfl, rfl, trivial⟩, ⟨hlt, e4, ho4, hM.next hlt⟩, by show H.length - (i + 1) < H.length - i; omega⟩
  · have : i = H.length := by have : ¬ (i : Int) < (H.length : Nat) := hge; omega
    rw [this] at hM
    have hr := hfin hM
    obtain ⟨AM, cM, rfl, hrM, _⟩ := NewInts.slice ho3
    refine brE_dec (fun hm => ?_) (fun hm => ?_)
    · have hm : (M.length : Int) = 1 := hm
      obtain ⟨p, rfl⟩ := List.length_eq_one_iff.1 (show M.length = 1 by omega)
      obtain ⟨b, o, hA, hc⟩ := Reads.int hrM (show 0 < ([p] : List Int).length by simp)
      refine ⟨0, b, o, rfl, by simp, hA, ?_⟩
      refine ⟨_, by simpa using hc, ?_⟩
      exact ⟨by rw [hr]; rfl, e02.trans e3⟩
    · have hm : ¬ (M.length : Int) = 1 := hm
      refine ⟨?_, e02.trans e3⟩
      rw [hr]
      match M, hm with
      | [], _ => rfl
      | [p], hm => exact absurd rfl hm
      | p :: q :: r, _ => rfl

theorem four_drop {i : Nat} (h1 : 1 ≤ i) (h5 : i < 5) : ([1, 2, 3, 4] : List Int).drop (i - 1) = (i : Int) :: ([1, 2, 3, 4] : List Int).drop i := by
  obtain rfl | rfl | rfl | rfl : i = 1 ∨ i = 2 ∨ i = 3 ∨ i = 4 := by omega
  all_goals rfl

set_option maxRecDepth 100000 in
theorem refHoldsClass_spec {w : World} {A : Option Addr} {l : List Fact} {c : Nat} (h : HF w A l c) (hl : l.length ≤ 2 ^ 20) (k day n s0 : Int) :
    CallsV C.P 71 #[.slice A l.length c, .int .i64 k, .int .i64 day, .int .i64 n, .int .i64 s0] w fun v w' => v = .int .i64 (leastL (atL k day l) n s0) ∧ Ext w w' := by
  refine callsV_of C_ok (args := [_, _, _, _, _]) (plans := []) Tryz.func71 rfl Tryz.ntmps71 (by kernel_rfl) (Nat.le_of_ble_eq_true rfl) ?_
  have hK := atL_length k day l
  refine loopE C_ok (fun (i : Nat) => [(0, .slice A l.length c), (1, .int .i64 k), (2, .int .i64 day), (3, .int .i64 n), (4, .int .i64 s0), (11, .int .i64 i)])
    (fun i w' => 1 ≤ i ∧ i ≤ 5 ∧ Ext w w' ∧ leastL (atL k day l) n s0 = leastAt (atL k day l) n s0 (([1, 2, 3, 4] : List Int).drop (i - 1))) (fun i => 5 - i) 1 ⟨rfl, rfl, rfl, rfl, rfl, rfl, trivial⟩ ⟨Nat.le_refl _, by omega, Ext.refl _, rfl⟩ ?_
  rintro i w1 ⟨h1, h5, e1, hs⟩
  refine brE_dec (fun hlt2 => ?_) (fun hge => ?_)
  · have hlt : i < 5 := by have : (i : Int) < 5 := hlt2; omega
    rw [four_drop h1 hlt, leastAt] at hs
    have next : IntKind.i64.wrap ((i : Int) + 1) = ((i + 1 : Nat) : Int) := fit ⟨by omega, by omega⟩
    refine (refHolders_spec (h.ext e1) hl k day s0 i).mono ?_
    rintro v2 w2 ⟨ho2, e2⟩
    refine (refActing_spec (h.ext (e1.trans e2)) hl k day s0 i).mono ?_
    rintro v3 w3 ⟨ho3, e3⟩
    have l2 := living_length (atL k day l) 2 s0 i
    have l3 := living_length (atL k day l) 3 s0 i
    obtain ⟨A2, c2, rfl, hr2, _⟩ := NewInts.slice ho2
    obtain ⟨A3, c3, rfl, hr3, _⟩ := NewInts.slice ho3
    refine (in_spec (hr2.ext e3) (by omega) n).mono ?_
    rintro _ w4 ⟨rfl, rfl⟩
    refine (in_spec hr3 (by omega) n).mono ?_
    rintro _ w5 ⟨rfl, rfl⟩
    have e5 := (e1.trans e2).trans e3
    refine brE_dec (fun m1 => ?_) (fun m1 => ?_)
    · rw [if_pos (by rw [decide_eq_true m1]; rfl)] at hs
      exact ⟨by rw [hs], e5⟩
    · refine brE_dec (fun m2 => ?_) (fun m2 => ?_)
      · rw [if_pos (by unfold actsB; rw [decide_eq_true m2, Bool.or_true])] at hs
        exact ⟨by rw [hs], e5⟩
      · rw [if_neg (by unfold actsB; rw [decide_eq_false m1, decide_eq_false m2]; decide)] at hs
        refine ⟨_, next, ?_⟩
        exact ⟨i + 1, ⟨rfl, rfl, rfl, rfl, rfl, rfl, trivial⟩, ⟨by omega, by omega, e5, hs⟩, by omega⟩
  · have : i = 5 := by have : ¬ (i : Int) < 5 := hge; omega
    subst this
    exact ⟨by rw [hs]; rfl, e1⟩

set_option maxRecDepth 100000 in
theorem refClass_spec {w : World} {A : Option Addr} {l : List Fact} {c : Nat} (h : HF w A l c) (hl : l.length ≤ 2 ^ 20) (k day host n s0 : Int) :
    CallsV C.P 62 #[.slice A l.length c, .int .i64 k, .int .i64 day, .int .i64 host, .int .i64 n, .int .i64 s0] w fun v w' => v = .tuple #[.int .i64 (classL (atL k day l) host n s0).1, .bool (classL (atL k day l) host n s0).2] ∧ Ext w w' := by
  refine callsV_of C_ok (args := [_, _, _, _, _, _]) (plans := []) Tryz.func62 rfl Tryz.ntmps62 (by kernel_rfl) (Nat.le_of_ble_eq_true rfl) ?_
  have hK := atL_length k day l
  refine loopE C_ok (fun (i : Nat) => [(0, .slice A l.length c), (1, .int .i64 k), (2, .int .i64 day), (3, .int .i64 host), (4, .int .i64 n), (5, .int .i64 s0), (14, .int .i64 i)])
    (fun i w' => 1 ≤ i ∧ i ≤ 5 ∧ Ext w w' ∧ classL (atL k day l) host n s0 = classAt (atL k day l) host n s0 (([1, 2, 3, 4] : List Int).drop (i - 1))) (fun i => 5 - i) 1 ⟨rfl, rfl, rfl, rfl, rfl, rfl, rfl, trivial⟩ ⟨Nat.le_refl _, by omega, Ext.refl _, rfl⟩ ?_
  rintro i w1 ⟨h1, h5, e1, hs⟩
  refine brE_dec (fun hlt2 => ?_) (fun hge => ?_)
  · have hlt : i < 5 := by have : (i : Int) < 5 := hlt2; omega
    rw [four_drop h1 hlt, classAt] at hs
    have next : IntKind.i64.wrap ((i : Int) + 1) = ((i + 1 : Nat) : Int) := fit ⟨by omega, by omega⟩
    refine (refHolders_spec (h.ext e1) hl k day s0 i).mono ?_
    rintro v2 w2 ⟨ho2, e2⟩
    refine (refActing_spec (h.ext (e1.trans e2)) hl k day s0 i).mono ?_
    rintro v3 w3 ⟨ho3, e3⟩
    have l2 := living_length (atL k day l) 2 s0 i
    have l3 := living_length (atL k day l) 3 s0 i
    obtain ⟨A2, c2, rfl, hr2, _⟩ := NewInts.slice ho2
    obtain ⟨A3, c3, rfl, hr3, _⟩ := NewInts.slice ho3
    refine (in_spec (hr2.ext e3) (by omega) n).mono ?_
    rintro _ w4 ⟨rfl, rfl⟩
    refine (in_spec hr3 (by omega) n).mono ?_
    rintro _ w5 ⟨rfl, rfl⟩
    have e5 := (e1.trans e2).trans e3
    have hacts : decide (n ∈ livingL (atL k day l) 3 s0 (i : Int)) = actsB (atL k day l) n s0 i := rfl
    rw [hacts]
    have hnot : ∀ {w' : World}, Ext w w' → heldB (atL k day l) host n s0 i = false → actsB (atL k day l) n s0 i = false → 1 ≤ i + 1 ∧ i + 1 ≤ 5 ∧ Ext w w' ∧ classL (atL k day l) host n s0 = classAt (atL k day l) host n s0 (([1, 2, 3, 4] : List Int).drop (i + 1 - 1)) := fun e a b => by
      rw [a, b, if_neg (by decide)] at hs
      exact ⟨by omega, by omega, e, hs⟩
    have hyes : ∀ b : Bool, heldB (atL k day l) host n s0 i = b → (b || actsB (atL k day l) n s0 i) = true → classL (atL k day l) host n s0 = ((i : Int), !b) := fun b hb ha => by
      rw [hb, if_pos ha] at hs; exact hs
    refine brE_dec (fun hone => ?_) (fun hone => ?_)
    · have hone : (i : Int) = 1 := hone
      have hheld : heldB (atL k day l) host n s0 i = decide (recogL (atL k day l) host s0 = (n, true)) := by rw [hone]; rfl
      refine (refRecognised_spec (h.ext e5) hl k day host s0).mono ?_
      rintro _ w6 ⟨rfl, e6⟩
      have e06 := e5.trans e6
      cases hr : recogL (atL k day l) host s0 with
      | mk p ok =>
      rw [hr] at hheld
      cases ok with
      | true =>
        have hh : decide (p = n) = heldB (atL k day l) host n s0 i := by
          rw [hheld]; simp
        refine brE_dec (fun hpn => ?_) (fun hpn => ?_)
        · have hpn : p = n := hpn
          rw [decide_eq_true hpn] at hh
          exact ⟨by rw [hyes true hh.symm rfl, decide_eq_true hpn] <;> rfl, e06⟩
        · have hpn : ¬ p = n := hpn
          rw [decide_eq_false hpn] at hh
          cases ha : actsB (atL k day l) n s0 i with
          | true => exact ⟨by rw [hyes false hh.symm ha, decide_eq_false hpn] <;> rfl, e06⟩
          | false =>
            refine ⟨_, next, ?_⟩
            exact ⟨i + 1, ⟨rfl, rfl, rfl, rfl, rfl, rfl, rfl, trivial⟩, hnot e06 hh.symm ha, by omega⟩
      | false =>
        have hb : heldB (atL k day l) host n s0 i = false := by rw [hheld]; simp
        cases ha : actsB (atL k day l) n s0 i with
        | true => exact ⟨by rw [hyes false hb ha] <;> rfl, e06⟩
        | false =>
          refine ⟨_, next, ?_⟩
          exact ⟨i + 1, ⟨rfl, rfl, rfl, rfl, rfl, rfl, rfl, trivial⟩, hnot e06 hb ha, by omega⟩
    · have hone : ¬ (i : Int) = 1 := hone
      rw [← held_more (host := host) hone]
      cases hb : heldB (atL k day l) host n s0 i with
      | true => exact ⟨by rw [hyes true hb rfl] <;> rfl, e5⟩
      | false =>
        cases ha : actsB (atL k day l) n s0 i with
        | true => exact ⟨by rw [hyes false hb ha] <;> rfl, e5⟩
        | false =>
          refine ⟨_, next, ?_⟩
          exact ⟨i + 1, ⟨rfl, rfl, rfl, rfl, rfl, rfl, rfl, trivial⟩, hnot e5 hb ha, by omega⟩
  · have : i = 5 := by have : ¬ (i : Int) < 5 := hge; omega
    subst this
    exact ⟨by rw [hs]; rfl, e1⟩

end Go.Proofs.YthpdkdmbfdmamaaGreatDoor
