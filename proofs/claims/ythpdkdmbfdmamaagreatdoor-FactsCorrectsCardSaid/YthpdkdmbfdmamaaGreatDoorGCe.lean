/- Turns, and what is learned: the program. -/
import Derived.Test.YthpdkdmbfdmamaaGreatDoorGCc
import Derived.Test.YthpdkdmbfdmamaaGreatDoorGBb
set_option linter.unusedVariables false
set_option linter.unusedSimpArgs false
set_option linter.unnecessarySimpa false
set_option linter.unusedSectionVars false
namespace Go.Proofs.YthpdkdmbfdmamaaGreatDoor
open Go.Eng Go.RowKit

theorem endsL_length : ∀ (l : List Fact), (endsL l).length = 2 * l.length
  | [] => rfl
  | x :: r => by
    have := endsL_length r
    unfold endsL at *
    rw [List.flatMap_cons, List.length_append, this]
    simp; omega
abbrev knownsL (l : List Fact) : List Int := l.map Fact.known
theorem knownsL_length (l : List Fact) : (knownsL l).length = l.length := List.length_map ..

set_option maxRecDepth 100000 in
theorem Turns_spec {w : World} {A : Option Addr} {l : List Fact} {c : Nat} (h : HF w A l c) (hl : l.length ≤ 2 ^ 20) (k : Int) :
    CallsV C.P 39 #[.slice A l.length c, .int .i64 k] w fun v w' => NewInts w.heap.size w' v (turnsL k l) ∧ Ext w w' := by
  refine callsV_of C_ok (args := [_, _]) (plans := []) Tryz.func39 rfl Tryz.ntmps39 (by kernel_rfl) (Nat.le_of_ble_eq_true rfl) ?_
  have hnum : ∀ d ∈ endsL l, In64 d := fun d hd => by
    obtain ⟨x, hx, he⟩ := List.mem_flatMap.1 hd
    have := h.nums x hx
    rcases List.mem_cons.1 he with rfl | he
    · exact this.since
    · rw [List.mem_singleton.1 he]; exact this.til
  refine loopE C_ok (fun (t : Nat × Value) => [(0, .slice A l.length c), (1, .int .i64 k), (5, t.2), (11, .slice A l.length c), (12, .int .i64 l.length), (13, .int .i64 t.1)])
    (fun t w' => t.1 ≤ l.length ∧ Ext w w' ∧ NewInts w.heap.size w' t.2 (endsL (l.take t.1))) (fun t => l.length - t.1) (0, .slice none 0 0)
    ⟨rfl, rfl, rfl, rfl, rfl, rfl, trivial⟩ ⟨Nat.zero_le _, Ext.refl _, newInts_nil _ _⟩ ?_
  rintro ⟨i, v⟩ w2 ⟨hi', e2, ho'⟩
  have hi : i ≤ l.length := hi'
  have ho : NewInts w.heap.size w2 v (endsL (l.take i)) := ho'
  clear hi' ho'
  refine brE_dec (fun hlt => ?_) (fun hge => ?_)
  · have hlt : i < l.length := by have : (i : Int) < (l.length : Nat) := hlt; omega
    have next : IntKind.i64.wrap ((i : Int) + 1) = ((i + 1 : Nat) : Int) := fit ⟨by omega, by omega⟩
    have hlen : (endsL (l.take i)).length ≤ 2 * l.length := by rw [endsL_length, List.length_take]; omega
    have step : endsL (l.take (i + 1)) = endsL (l.take i) ++ [l[i].since, l[i].til] := by
      unfold endsL; rw [List.take_succ_eq_append_getElem hlt, List.flatMap_append]; rfl
    obtain ⟨b, o, hA, hc⟩ := Reads.fact (h.reads.ext e2) hlt
    refine ⟨i, b, o, rfl, hlt, hA, ?_⟩
    refine ⟨l[i].cells, rfl, hc, ?_⟩
    intro g w3 h3
    refine ⟨rfl, _, _, h3.here, Nat.le_of_ble_eq_true rfl, rfl, ?_⟩
    intro w4 h4
    have h4 : Put w3 g (.cells l[i].cells.toArray 29 (0, 0)) w4 := h4
    have e24 : Ext w2 w4 := h4.ext_of h3.ext (by rw [h3.new]; exact Nat.le_refl _)
    refine ⟨_, cell_of_block h4.here rfl, ?_⟩
    refine ⟨_, cell_of_block h4.here rfl, ?_⟩
    intro g6 w6 h6
    have ho6 : w6.ownsRow w.heap.size 3 1 v _ _ := ownsRow_ext ho (e24.trans h6.ext)
    have e6 := (e2.trans e24).trans h6.ext
    refine ⟨rfl, rfl, rfl, w.heap.size, _, _, ints [l[i].since, l[i].til], ho6, e6.size, Nat.le_of_ble_eq_true rfl, rfl, rfl, .inr ⟨g6, 0, rfl, Rd.of_block h6.here⟩, rfl, rfl, by omega, by simp only [maxLen]; omega, ?_⟩
    intro v7 w7 ho7 hg7 _
    refine ⟨_, next, ?_⟩
    refine ⟨(i + 1, v7), ⟨rfl, rfl, rfl, rfl, rfl, rfl, trivial⟩, ⟨hlt, app_ext e6 ho6 hg7, ?_⟩, by show l.length - (i + 1) < l.length - i; omega⟩
    show NewInts w.heap.size w7 v7 (endsL (l.take (i + 1)))
    rw [step]
    unfold NewInts
    rw [ints_append, List.length_append]
    exact ho7
  · have : i = l.length := by have : ¬ (i : Int) < (l.length : Nat) := hge; omega
    subst this
    rw [List.take_length] at ho
    have hlen : (endsL l).length ≤ 2 * l.length := by rw [endsL_length]; omega
    refine (sorted_spec ho e2.size (by omega)).mono ?_
    rintro v3 w3 ⟨ho3, b3⟩
    have hsl := sortD_length (endsL l)
    have hmem : ∀ d ∈ sortD (endsL l), In64 d := fun d hd => hnum d (mem_sortD.1 hd)
    unfold turnsL
    generalize sortD (endsL l) = S at *
    have e3 : Ext w w3 := Below.trans e2 b3
    obtain ⟨AS, cS, rfl, hrS, _⟩ := ho3.slice
    refine loopE C_ok (fun (t : Nat × Value) => [(0, .slice A l.length c), (1, .int .i64 k), (8, t.2), (26, .slice AS S.length cS), (27, .int .i64 S.length), (28, .int .i64 t.1)])
      (fun t w' => t.1 ≤ S.length ∧ Ext w3 w' ∧ NewInts w3.heap.size w' t.2 ((S.take t.1).filter (turnB k l))) (fun t => S.length - t.1) (0, .slice none 0 0)
      ⟨rfl, rfl, rfl, rfl, rfl, rfl, trivial⟩ ⟨Nat.zero_le _, Ext.refl _, newInts_nil _ _⟩ ?_
    rintro ⟨i, v⟩ w4 ⟨hi', e4, ho'⟩
    have hi : i ≤ S.length := hi'
    have ho4 : NewInts w3.heap.size w4 v ((S.take i).filter (turnB k l)) := ho'
    clear hi' ho'
    refine brE_dec (fun hlt => ?_) (fun hge => ?_)
    · have hlt : i < S.length := by have : (i : Int) < (S.length : Nat) := hlt; omega
      have next : IntKind.i64.wrap ((i : Int) + 1) = ((i + 1 : Nat) : Int) := fit ⟨by omega, by omega⟩
      have hlen4 : ((S.take i).filter (turnB k l)).length ≤ S.length := Nat.le_trans (List.length_filter_le _ _) (by rw [List.length_take]; omega)
      have step : (S.take (i + 1)).filter (turnB k l) = (S.take i).filter (turnB k l) ++ if turnB k l S[i] = true then [S[i]] else [] := by
        rw [List.take_succ_eq_append_getElem hlt, List.filter_append, List.filter_cons, List.filter_nil]
      have hd64 := hmem _ (List.getElem_mem hlt)
      obtain ⟨b, o, hA, hc⟩ := Reads.int (hrS.ext e4) hlt
      have skip : ∀ {w' : World}, Ext w4 w' → turnB k l S[i] = false → i + 1 ≤ S.length ∧ Ext w3 w' ∧ NewInts w3.heap.size w' v ((S.take (i + 1)).filter (turnB k l)) := fun e h => by
        rw [step, h, if_neg (by decide), List.append_nil]
        exact ⟨hlt, e4.trans e, ho4.ext e⟩
      refine ⟨i, b, o, rfl, hlt, hA, ?_⟩
      refine ⟨_, by simpa using hc, ?_⟩
      refine brE_dec (fun a1 => ?_) (fun a1 => ?_)
      case' refine_2 =>
        have a1 : ¬ S[i] ≥ 0 := a1
        refine ⟨_, next, ?_⟩
        exact ⟨(i + 1, v), ⟨rfl, rfl, rfl, rfl, rfl, rfl, trivial⟩, skip (Ext.refl _) (by unfold turnB; rw [show dayB S[i] = false from decide_eq_false fun h => a1 h.1]; rfl), by show S.length - (i + 1) < S.length - i; omega⟩
      have a1 : S[i] ≥ 0 := a1
      refine brE_dec (fun a2 => ?_) (fun a2 => ?_)
      case' refine_2 =>
        have a2 : ¬ S[i] ≤ 100000 := a2
        refine ⟨_, next, ?_⟩
        exact ⟨(i + 1, v), ⟨rfl, rfl, rfl, rfl, rfl, rfl, trivial⟩, skip (Ext.refl _) (by unfold turnB; rw [show dayB S[i] = false from decide_eq_false fun h => a2 h.2]; rfl), by show S.length - (i + 1) < S.length - i; omega⟩
      have a2 : S[i] ≤ 100000 := a2
      refine (At_spec (h.ext (e3.trans e4)) hl k S[i]).mono ?_
      rintro v5 w5 ⟨ho5, e5⟩
      refine ⟨S[i] - 1, fit ⟨by omega, by omega⟩, ?_⟩
      refine (At_spec (h.ext ((e3.trans e4).trans e5)) hl k (S[i] - 1)).mono ?_
      rintro v6 w6 ⟨ho6, e6⟩
      have hl5 := atL_length k S[i] l
      have hl6 := atL_length k (S[i] - 1) l
      obtain ⟨A5, c5, rfl, hr5, _⟩ := ho5.slice
      obtain ⟨A6, c6, rfl, hr6, _⟩ := ho6.slice
      refine (EqualF_spec (hr5.ext e6) hr6 (by omega)).mono ?_
      rintro v7 w7 ⟨rfl, rfl⟩
      have e47 := e5.trans e6
      have hb : turnB k l S[i] = !decide (atL k S[i] l = atL k (S[i] - 1) l) := by unfold turnB; rw [show dayB S[i] = true from decide_eq_true ⟨a1, a2⟩, Bool.true_and]
      refine brE_mk (fun a3 => ?_) (fun a3 => ?_)
      · have a3 : (!decide (atL k S[i] l = atL k (S[i] - 1) l)) = true := a3
        rw [hb, a3, if_pos rfl] at step
        intro g8 w8 h8
        have ho8 : w8.ownsRow w3.heap.size 3 1 v _ _ := ownsRow_ext ho4 (e47.trans h8.ext)
        have e8 := (e4.trans e47).trans h8.ext
        refine ⟨rfl, rfl, rfl, w3.heap.size, _, _, [.int .i64 S[i]], ho8, e8.size, Nat.le_of_ble_eq_true rfl, rfl, rfl, .inr ⟨g8, 0, rfl, Rd.of_block h8.here⟩, rfl, rfl, by omega, by simp only [maxLen]; omega, ?_⟩
        intro v9 w9 ho9 hg9 _
        refine ⟨_, next, ?_⟩
        refine ⟨(i + 1, v9), ⟨rfl, rfl, rfl, rfl, rfl, rfl, trivial⟩, ⟨hlt, app_ext e8 ho8 hg9, ?_⟩, by show S.length - (i + 1) < S.length - i; omega⟩
        show NewInts w3.heap.size w9 v9 ((S.take (i + 1)).filter (turnB k l))
        rw [step]
        unfold NewInts
        rw [ints_append, List.length_append]
        exact ho9
      · have a3 : (!decide (atL k S[i] l = atL k (S[i] - 1) l)) = false := a3
        refine ⟨_, next, ?_⟩
        exact ⟨(i + 1, v), ⟨rfl, rfl, rfl, rfl, rfl, rfl, trivial⟩, skip e47 (by rw [hb]; exact a3), by show S.length - (i + 1) < S.length - i; omega⟩
    · have : i = S.length := by have : ¬ (i : Int) < (S.length : Nat) := hge; omega
      subst this
      rw [List.take_length] at ho4
      exact ⟨NewInts.base ho4 e3.size, e3.trans e4⟩

set_option maxRecDepth 100000 in
theorem Learned_spec {w : World} {A : Option Addr} {l : List Fact} {c : Nat} (h : HF w A l c) (hl : l.length ≤ 2 ^ 20) (k : Int) :
    CallsV C.P 41 #[.slice A l.length c, .int .i64 k] w fun v w' => NewInts w.heap.size w' v (learnedL k l) ∧ Ext w w' := by
  refine callsV_of C_ok (args := [_, _]) (plans := []) Tryz.func41 rfl Tryz.ntmps41 (by kernel_rfl) (Nat.le_of_ble_eq_true rfl) ?_
  have hnum : ∀ d ∈ knownsL l, In64 d := fun d hd => by
    obtain ⟨x, hx, rfl⟩ := List.mem_map.1 hd
    exact (h.nums x hx).known
  refine loopE C_ok (fun (t : Nat × Value) => [(0, .slice A l.length c), (1, .int .i64 k), (5, t.2), (11, .slice A l.length c), (12, .int .i64 l.length), (13, .int .i64 t.1)])
    (fun t w' => t.1 ≤ l.length ∧ Ext w w' ∧ NewInts w.heap.size w' t.2 (knownsL (l.take t.1))) (fun t => l.length - t.1) (0, .slice none 0 0)
    ⟨rfl, rfl, rfl, rfl, rfl, rfl, trivial⟩ ⟨Nat.zero_le _, Ext.refl _, newInts_nil _ _⟩ ?_
  rintro ⟨i, v⟩ w2 ⟨hi', e2, ho'⟩
  have hi : i ≤ l.length := hi'
  have ho : NewInts w.heap.size w2 v (knownsL (l.take i)) := ho'
  clear hi' ho'
  refine brE_dec (fun hlt => ?_) (fun hge => ?_)
  · have hlt : i < l.length := by have : (i : Int) < (l.length : Nat) := hlt; omega
    have next : IntKind.i64.wrap ((i : Int) + 1) = ((i + 1 : Nat) : Int) := fit ⟨by omega, by omega⟩
    have hlen : (knownsL (l.take i)).length ≤ 2 * l.length := by rw [knownsL_length, List.length_take]; omega
    have step : knownsL (l.take (i + 1)) = knownsL (l.take i) ++ [l[i].known] := by
      unfold knownsL; rw [List.take_succ_eq_append_getElem hlt, List.map_append]; rfl
    obtain ⟨b, o, hA, hc⟩ := Reads.fact (h.reads.ext e2) hlt
    refine ⟨i, b, o, rfl, hlt, hA, ?_⟩
    refine ⟨l[i].cells, rfl, hc, ?_⟩
    intro g w3 h3
    refine ⟨rfl, _, _, h3.here, Nat.le_of_ble_eq_true rfl, rfl, ?_⟩
    intro w4 h4
    have h4 : Put w3 g (.cells l[i].cells.toArray 29 (0, 0)) w4 := h4
    have e24 : Ext w2 w4 := h4.ext_of h3.ext (by rw [h3.new]; exact Nat.le_refl _)
    refine ⟨_, cell_of_block h4.here rfl, ?_⟩
    intro g6 w6 h6
    have ho6 : w6.ownsRow w.heap.size 3 1 v _ _ := ownsRow_ext ho (e24.trans h6.ext)
    have e6 := (e2.trans e24).trans h6.ext
    refine ⟨rfl, rfl, rfl, w.heap.size, _, _, ints [l[i].known], ho6, e6.size, Nat.le_of_ble_eq_true rfl, rfl, rfl, .inr ⟨g6, 0, rfl, Rd.of_block h6.here⟩, rfl, rfl, by omega, by simp only [maxLen]; omega, ?_⟩
    intro v7 w7 ho7 hg7 _
    refine ⟨_, next, ?_⟩
    refine ⟨(i + 1, v7), ⟨rfl, rfl, rfl, rfl, rfl, rfl, trivial⟩, ⟨hlt, app_ext e6 ho6 hg7, ?_⟩, by show l.length - (i + 1) < l.length - i; omega⟩
    show NewInts w.heap.size w7 v7 (knownsL (l.take (i + 1)))
    rw [step]
    unfold NewInts
    rw [ints_append, List.length_append]
    exact ho7
  · have : i = l.length := by have : ¬ (i : Int) < (l.length : Nat) := hge; omega
    subst this
    rw [List.take_length] at ho
    have hlen : (knownsL l).length ≤ 2 * l.length := by rw [knownsL_length]; omega
    refine (sorted_spec ho e2.size (by omega)).mono ?_
    rintro v3 w3 ⟨ho3, b3⟩
    have hsl := sortD_length (knownsL l)
    have hmem : ∀ d ∈ sortD (knownsL l), In64 d := fun d hd => hnum d (mem_sortD.1 hd)
    unfold learnedL
    generalize sortD (knownsL l) = S at *
    have e3 : Ext w w3 := Below.trans e2 b3
    obtain ⟨AS, cS, rfl, hrS, _⟩ := ho3.slice
    refine loopE C_ok (fun (t : Nat × Value) => [(0, .slice A l.length c), (1, .int .i64 k), (8, t.2), (24, .slice AS S.length cS), (25, .int .i64 S.length), (26, .int .i64 t.1)])
      (fun t w' => t.1 ≤ S.length ∧ Ext w3 w' ∧ NewInts w3.heap.size w' t.2 ((S.take t.1).filter (learnB k l))) (fun t => S.length - t.1) (0, .slice none 0 0)
      ⟨rfl, rfl, rfl, rfl, rfl, rfl, trivial⟩ ⟨Nat.zero_le _, Ext.refl _, newInts_nil _ _⟩ ?_
    rintro ⟨i, v⟩ w4 ⟨hi', e4, ho'⟩
    have hi : i ≤ S.length := hi'
    have ho4 : NewInts w3.heap.size w4 v ((S.take i).filter (learnB k l)) := ho'
    clear hi' ho'
    refine brE_dec (fun hlt => ?_) (fun hge => ?_)
    · have hlt : i < S.length := by have : (i : Int) < (S.length : Nat) := hlt; omega
      have next : IntKind.i64.wrap ((i : Int) + 1) = ((i + 1 : Nat) : Int) := fit ⟨by omega, by omega⟩
      have hlen4 : ((S.take i).filter (learnB k l)).length ≤ S.length := Nat.le_trans (List.length_filter_le _ _) (by rw [List.length_take]; omega)
      have step : (S.take (i + 1)).filter (learnB k l) = (S.take i).filter (learnB k l) ++ if learnB k l S[i] = true then [S[i]] else [] := by
        rw [List.take_succ_eq_append_getElem hlt, List.filter_append, List.filter_cons, List.filter_nil]
      have hd64 := hmem _ (List.getElem_mem hlt)
      obtain ⟨b, o, hA, hc⟩ := Reads.int (hrS.ext e4) hlt
      have skip : ∀ {w' : World}, Ext w4 w' → learnB k l S[i] = false → i + 1 ≤ S.length ∧ Ext w3 w' ∧ NewInts w3.heap.size w' v ((S.take (i + 1)).filter (learnB k l)) := fun e h => by
        rw [step, h, if_neg (by decide), List.append_nil]
        exact ⟨hlt, e4.trans e, ho4.ext e⟩
      refine ⟨i, b, o, rfl, hlt, hA, ?_⟩
      refine ⟨_, by simpa using hc, ?_⟩
      refine brE_dec (fun a1 => ?_) (fun a1 => ?_)
      case' refine_2 =>
        have a1 : ¬ S[i] ≥ 0 := a1
        refine ⟨_, next, ?_⟩
        exact ⟨(i + 1, v), ⟨rfl, rfl, rfl, rfl, rfl, rfl, trivial⟩, skip (Ext.refl _) (by unfold learnB; rw [show dayB S[i] = false from decide_eq_false fun h => a1 h.1]; rfl), by show S.length - (i + 1) < S.length - i; omega⟩
      have a1 : S[i] ≥ 0 := a1
      refine brE_dec (fun a2 => ?_) (fun a2 => ?_)
      case' refine_2 =>
        have a2 : ¬ S[i] ≤ 100000 := a2
        refine ⟨_, next, ?_⟩
        exact ⟨(i + 1, v), ⟨rfl, rfl, rfl, rfl, rfl, rfl, trivial⟩, skip (Ext.refl _) (by unfold learnB; rw [show dayB S[i] = false from decide_eq_false fun h => a2 h.2]; rfl), by show S.length - (i + 1) < S.length - i; omega⟩
      have a2 : S[i] ≤ 100000 := a2
      refine (At_spec (h.ext (e3.trans e4)) hl S[i] k).mono ?_
      rintro v5 w5 ⟨ho5, e5⟩
      refine ⟨S[i] - 1, fit ⟨by omega, by omega⟩, ?_⟩
      refine (At_spec (h.ext ((e3.trans e4).trans e5)) hl (S[i] - 1) k).mono ?_
      rintro v6 w6 ⟨ho6, e6⟩
      have hl5 := atL_length S[i] k l
      have hl6 := atL_length (S[i] - 1) k l
      obtain ⟨A5, c5, rfl, hr5, _⟩ := ho5.slice
      obtain ⟨A6, c6, rfl, hr6, _⟩ := ho6.slice
      refine (EqualF_spec (hr5.ext e6) hr6 (by omega)).mono ?_
      rintro v7 w7 ⟨rfl, rfl⟩
      have e47 := e5.trans e6
      have hb : learnB k l S[i] = !decide (atL S[i] k l = atL (S[i] - 1) k l) := by unfold learnB; rw [show dayB S[i] = true from decide_eq_true ⟨a1, a2⟩, Bool.true_and]
      refine brE_mk (fun a3 => ?_) (fun a3 => ?_)
      · have a3 : (!decide (atL S[i] k l = atL (S[i] - 1) k l)) = true := a3
        rw [hb, a3, if_pos rfl] at step
        intro g8 w8 h8
        have ho8 : w8.ownsRow w3.heap.size 3 1 v _ _ := ownsRow_ext ho4 (e47.trans h8.ext)
        have e8 := (e4.trans e47).trans h8.ext
        refine ⟨rfl, rfl, rfl, w3.heap.size, _, _, [.int .i64 S[i]], ho8, e8.size, Nat.le_of_ble_eq_true rfl, rfl, rfl, .inr ⟨g8, 0, rfl, Rd.of_block h8.here⟩, rfl, rfl, by omega, by simp only [maxLen]; omega, ?_⟩
        intro v9 w9 ho9 hg9 _
        refine ⟨_, next, ?_⟩
        refine ⟨(i + 1, v9), ⟨rfl, rfl, rfl, rfl, rfl, rfl, trivial⟩, ⟨hlt, app_ext e8 ho8 hg9, ?_⟩, by show S.length - (i + 1) < S.length - i; omega⟩
        show NewInts w3.heap.size w9 v9 ((S.take (i + 1)).filter (learnB k l))
        rw [step]
        unfold NewInts
        rw [ints_append, List.length_append]
        exact ho9
      · have a3 : (!decide (atL S[i] k l = atL (S[i] - 1) k l)) = false := a3
        refine ⟨_, next, ?_⟩
        exact ⟨(i + 1, v), ⟨rfl, rfl, rfl, rfl, rfl, rfl, trivial⟩, skip e47 (by rw [hb]; exact a3), by show S.length - (i + 1) < S.length - i; omega⟩
    · have : i = S.length := by have : ¬ (i : Int) < (S.length : Nat) := hge; omega
      subst this
      rw [List.take_length] at ho4
      exact ⟨NewInts.base ho4 e3.size, e3.trans e4⟩

end Go.Proofs.YthpdkdmbfdmamaaGreatDoor
