/- The living holders of a class; the states; holders, acting persons, names, mourning, death: the program. -/
import Derived.Test.YthpdkdmbfdmamaaGreatDoorGCb
import Derived.Test.YthpdkdmbfdmamaaGreatDoorGCc
set_option linter.unusedVariables false
set_option linter.unusedSimpArgs false
set_option linter.unnecessarySimpa false
set_option linter.unusedSectionVars false
namespace Go.Proofs.YthpdkdmbfdmamaaGreatDoor
open Go.Eng Go.RowKit

theorem fm_take {p : Fact → Bool} {f : Fact → Int} {l : List Fact} {i : Nat} (hi : i < l.length) : ((l.take (i + 1)).filter p).map f = ((l.take i).filter p).map f ++ if p l[i] = true then [f l[i]] else [] := by
  rw [List.take_succ_eq_append_getElem hi, List.filter_append, List.map_append, List.filter_cons, List.filter_nil]
  congr 1
  split <;> rfl
theorem fm_length (p : Fact → Bool) (f : Fact → Int) (l : List Fact) : ((l.filter p).map f).length ≤ l.length := by
  rw [List.length_map]; exact List.length_filter_le _ _
theorem fm_take_length (p : Fact → Bool) (f : Fact → Int) (l : List Fact) (i : Nat) : (((l.take i).filter p).map f).length ≤ l.length := Nat.le_trans (fm_length p f _) (by rw [List.length_take]; omega)

set_option maxRecDepth 100000 in
theorem living_spec {w : World} {A : Option Addr} {l : List Fact} {c : Nat} (hr : Reads w A (fcells l)) (hl : l.length ≤ 2 ^ 20) (k s cl : Int) :
    CallsV C.P 122 #[.slice A l.length c, .int .u8 k, .int .i64 s, .int .i64 cl] w fun v w' => NewInts w.heap.size w' v (livingL l k s cl) ∧ Ext w w' := by
  refine callsV_of C_ok (args := [_, _, _, _]) (plans := []) Tryz.func122 rfl Tryz.ntmps122 (by kernel_rfl) (Nat.le_of_ble_eq_true rfl) ?_
  refine loopE C_ok (fun (t : Nat × Value) => [(0, .slice A l.length c), (1, .int .u8 k), (2, .int .i64 s), (3, .int .i64 cl), (9, t.2), (12, .slice A l.length c), (13, .int .i64 l.length), (14, .int .i64 t.1)])
    (fun t w' => t.1 ≤ l.length ∧ Ext w w' ∧ NewInts w.heap.size w' t.2 (((l.take t.1).filter (livesB l k s cl)).map Fact.who)) (fun t => l.length - t.1) (0, .slice none 0 0)
    ⟨rfl, rfl, rfl, rfl, rfl, rfl, rfl, rfl, trivial⟩ ⟨Nat.zero_le _, Ext.refl _, newInts_nil _ _⟩ ?_
  rintro ⟨i, v⟩ w2 ⟨hi', e2, ho'⟩
  have hi : i ≤ l.length := hi'
  have ho : NewInts w.heap.size w2 v (((l.take i).filter (livesB l k s cl)).map Fact.who) := ho'
  clear hi' ho'
  refine brE_dec (fun hlt => ?_) (fun hge => ?_)
  · have hlt : i < l.length := by have : (i : Int) < (l.length : Nat) := hlt; omega
    have next : IntKind.i64.wrap ((i : Int) + 1) = ((i + 1 : Nat) : Int) := fit ⟨by omega, by omega⟩
    have hlen := fm_take_length (livesB l k s cl) Fact.who l i
    have step := fm_take (p := livesB l k s cl) (f := Fact.who) hlt
    obtain ⟨b, o, hA, hc⟩ := Reads.fact (hr.ext e2) hlt
    refine ⟨i, b, o, rfl, hlt, hA, ?_⟩
    refine ⟨l[i].cells, rfl, hc, ?_⟩
    intro g w3 h3
    refine ⟨rfl, _, _, h3.here, Nat.le_of_ble_eq_true rfl, rfl, ?_⟩
    intro w4 h4
    have h4 : Put w3 g (.cells l[i].cells.toArray 29 (0, 0)) w4 := h4
    have e24 : Ext w2 w4 := h4.ext_of h3.ext (by rw [h3.new]; exact Nat.le_refl _)
    have skip : ∀ {w' : World}, Ext w2 w' → livesB l k s cl l[i] = false → i + 1 ≤ l.length ∧ Ext w w' ∧ NewInts w.heap.size w' v (((l.take (i + 1)).filter (livesB l k s cl)).map Fact.who) := fun e h => by
      rw [step, h, if_neg (by decide), List.append_nil]
      exact ⟨hlt, e2.trans e, ho.ext e⟩
    refine ⟨_, cell_of_block h4.here rfl, ?_⟩
    refine brE_dec (fun a1 => ?_) (fun a1 => ?_)
    case' refine_2 =>
      have a1 : ¬ l[i].kind = k := a1
      refine ⟨_, next, ?_⟩
      exact ⟨(i + 1, v), ⟨rfl, rfl, rfl, rfl, rfl, rfl, rfl, rfl, trivial⟩, skip e24 (by unfold livesB; rw [decide_eq_false fun h => a1 h.1]; rfl), by show l.length - (i + 1) < l.length - i; omega⟩
    have a1 : l[i].kind = k := a1
    refine ⟨_, cell_of_block h4.here rfl, ?_⟩
    refine brE_dec (fun a2 => ?_) (fun a2 => ?_)
    case' refine_2 =>
      have a2 : ¬ l[i].what = s := a2
      refine ⟨_, next, ?_⟩
      exact ⟨(i + 1, v), ⟨rfl, rfl, rfl, rfl, rfl, rfl, rfl, rfl, trivial⟩, skip e24 (by unfold livesB; rw [decide_eq_false fun h => a2 h.2.1]; rfl), by show l.length - (i + 1) < l.length - i; omega⟩
    have a2 : l[i].what = s := a2
    refine ⟨_, cell_of_block h4.here rfl, ?_⟩
    refine brE_dec (fun a3 => ?_) (fun a3 => ?_)
    case' refine_2 =>
      have a3 : ¬ l[i].other = cl := a3
      refine ⟨_, next, ?_⟩
      exact ⟨(i + 1, v), ⟨rfl, rfl, rfl, rfl, rfl, rfl, rfl, rfl, trivial⟩, skip e24 (by unfold livesB; rw [decide_eq_false fun h => a3 h.2.2]; rfl), by show l.length - (i + 1) < l.length - i; omega⟩
    have a3 : l[i].other = cl := a3
    refine ⟨_, cell_of_block h4.here rfl, ?_⟩
    refine (vdead_spec (hr.ext (e2.trans e24)) hl l[i].who).mono ?_
    rintro v5 w5 ⟨rfl, e5⟩
    have e25 := e24.trans e5
    refine brE_mk (fun a4 => ?_) (fun a4 => ?_)
    · have hb : livesB l k s cl l[i] = true := by unfold livesB; rw [decide_eq_true ⟨a1, a2, a3⟩]; exact a4
      rw [hb, if_pos rfl] at step
      refine ⟨_, cell_of_block (e5.heap h4.here) rfl, ?_⟩
      intro g6 w6 h6
      have ho6 : w6.ownsRow w.heap.size 3 1 v _ _ := ownsRow_ext ho (e25.trans h6.ext)
      have e6 := (e2.trans e25).trans h6.ext
      refine ⟨rfl, rfl, rfl, w.heap.size, _, _, [.int .i64 l[i].who], ho6, e6.size, Nat.le_of_ble_eq_true rfl, rfl, rfl, .inr ⟨g6, 0, rfl, Rd.of_block h6.here⟩, rfl, rfl, by omega, by simp only [maxLen]; omega, ?_⟩
      intro v7 w7 ho7 hg7 _
      refine ⟨_, next, ?_⟩
      refine ⟨(i + 1, v7), ⟨rfl, rfl, rfl, rfl, rfl, rfl, rfl, rfl, trivial⟩, ⟨hlt, app_ext e6 ho6 hg7, ?_⟩, by show l.length - (i + 1) < l.length - i; omega⟩
      show NewInts w.heap.size w7 v7 (((l.take (i + 1)).filter (livesB l k s cl)).map Fact.who)
      rw [step]
      unfold NewInts
      rw [ints_append, List.length_append]
      exact ho7
    · refine ⟨_, next, ?_⟩
      exact ⟨(i + 1, v), ⟨rfl, rfl, rfl, rfl, rfl, rfl, rfl, rfl, trivial⟩, skip e25 (by unfold livesB; rw [a4, Bool.and_false]), by show l.length - (i + 1) < l.length - i; omega⟩
  · have : i = l.length := by have : ¬ (i : Int) < (l.length : Nat) := hge; omega
    subst this
    rw [List.take_length] at ho
    have hlen := fm_length (livesB l k s cl) Fact.who l
    refine (sorted_spec ho e2.size (by omega)).mono ?_
    rintro v3 w3 ⟨ho3, b3⟩
    exact ⟨ho3, Below.trans e2 b3⟩

set_option maxRecDepth 100000 in
theorem States_spec {w : World} {A : Option Addr} {l : List Fact} {c : Nat} (h : HF w A l c) (hl : l.length ≤ 2 ^ 20) (k day : Int) :
    CallsV C.P 47 #[.slice A l.length c, .int .i64 k, .int .i64 day] w fun v w' => NewInts w.heap.size w' v (statesL (atL k day l)) ∧ Ext w w' := by
  refine callsV_of C_ok (args := [_, _, _]) (plans := []) Tryz.func47 rfl Tryz.ntmps47 (by kernel_rfl) (Nat.le_of_ble_eq_true rfl) ?_
  refine (look_spec h hl k day).mono ?_
  rintro v w1 ⟨hK, e1⟩
  have hkl := atL_length k day l
  generalize atL k day l = K at *
  obtain ⟨AK, cK, rfl, hrK, _⟩ := hK.slice
  have hKl : K.length ≤ 2 ^ 20 := by omega
  refine loopE C_ok (fun (t : Nat × Value) => [(7, t.2), (13, .slice AK K.length cK), (14, .int .i64 K.length), (15, .int .i64 t.1)])
    (fun t w' => t.1 ≤ K.length ∧ Ext w1 w' ∧ NewInts w1.heap.size w' t.2 (((K.take t.1).filter fun y => decide (y.kind = 1)).map Fact.who)) (fun t => K.length - t.1) (0, .slice none 0 0)
    ⟨rfl, rfl, rfl, rfl, trivial⟩ ⟨Nat.zero_le _, Ext.refl _, newInts_nil _ _⟩ ?_
  rintro ⟨i, v⟩ w2 ⟨hi', e2, ho'⟩
  have hi : i ≤ K.length := hi'
  have ho : NewInts w1.heap.size w2 v (((K.take i).filter fun y => decide (y.kind = 1)).map Fact.who) := ho'
  clear hi' ho'
  refine brE_dec (fun hlt => ?_) (fun hge => ?_)
  · have hlt : i < K.length := by have : (i : Int) < (K.length : Nat) := hlt; omega
    have next : IntKind.i64.wrap ((i : Int) + 1) = ((i + 1 : Nat) : Int) := fit ⟨by omega, by omega⟩
    have hlen := fm_take_length (fun y => decide (y.kind = 1)) Fact.who K i
    have step := fm_take (p := fun y => decide (y.kind = 1)) (f := Fact.who) hlt
    obtain ⟨b, o, hA, hc⟩ := Reads.fact (hrK.ext e2) hlt
    refine ⟨i, b, o, rfl, hlt, hA, ?_⟩
    refine ⟨K[i].cells, rfl, hc, ?_⟩
    intro g w3 h3
    refine ⟨rfl, _, _, h3.here, Nat.le_of_ble_eq_true rfl, rfl, ?_⟩
    intro w4 h4
    have h4 : Put w3 g (.cells K[i].cells.toArray 29 (0, 0)) w4 := h4
    have e24 : Ext w2 w4 := h4.ext_of h3.ext (by rw [h3.new]; exact Nat.le_refl _)
    refine ⟨_, cell_of_block h4.here rfl, ?_⟩
    refine brE_dec (fun a1 => ?_) (fun a1 => ?_)
    · have a1 : K[i].kind = 1 := a1
      rw [if_pos (decide_eq_true a1)] at step
      refine ⟨_, cell_of_block h4.here rfl, ?_⟩
      intro g6 w6 h6
      have ho6 : w6.ownsRow w1.heap.size 3 1 v _ _ := ownsRow_ext ho (e24.trans h6.ext)
      have e6 := (e2.trans e24).trans h6.ext
      refine ⟨rfl, rfl, rfl, w1.heap.size, _, _, [.int .i64 K[i].who], ho6, e6.size, Nat.le_of_ble_eq_true rfl, rfl, rfl, .inr ⟨g6, 0, rfl, Rd.of_block h6.here⟩, rfl, rfl, by omega, by simp only [maxLen]; omega, ?_⟩
      intro v7 w7 ho7 hg7 _
      refine ⟨_, next, ?_⟩
      refine ⟨(i + 1, v7), ⟨rfl, rfl, rfl, rfl, trivial⟩, ⟨hlt, app_ext e6 ho6 hg7, ?_⟩, by show K.length - (i + 1) < K.length - i; omega⟩
      show NewInts w1.heap.size w7 v7 (((K.take (i + 1)).filter fun y => decide (y.kind = 1)).map Fact.who)
      rw [step]
      unfold NewInts
      rw [ints_append, List.length_append]
      exact ho7
    · have a1 : ¬ K[i].kind = 1 := a1
      refine ⟨_, next, ?_⟩
      refine ⟨(i + 1, v), ⟨rfl, rfl, rfl, rfl, trivial⟩, ⟨hlt, e2.trans e24, ?_⟩, by show K.length - (i + 1) < K.length - i; omega⟩
      show NewInts w1.heap.size w4 v (((K.take (i + 1)).filter fun y => decide (y.kind = 1)).map Fact.who)
      rw [step, if_neg (by simpa using a1), List.append_nil]
      exact ho.ext e24
  · have : i = K.length := by have : ¬ (i : Int) < (K.length : Nat) := hge; omega
    subst this
    rw [List.take_length] at ho
    have hlen := fm_length (fun y => decide (y.kind = 1)) Fact.who K
    refine (sorted_spec ho e2.size (by omega)).mono ?_
    rintro v3 w3 ⟨ho3, b3⟩
    exact ⟨NewInts.base ho3 e1.size, e1.trans (Below.trans e2 b3)⟩

theorem Holders_spec {w : World} {A : Option Addr} {l : List Fact} {c : Nat} (h : HF w A l c) (hl : l.length ≤ 2 ^ 20) (k day s cl : Int) :
    CallsV C.P 63 #[.slice A l.length c, .int .i64 k, .int .i64 day, .int .i64 s, .int .i64 cl] w fun v w' => NewInts w.heap.size w' v (livingL (atL k day l) 2 s cl) ∧ Ext w w' := by
  refine callsV_of C_ok (args := [_, _, _, _, _]) (plans := []) Tryz.func63 rfl Tryz.ntmps63 (by kernel_rfl) (Nat.le_of_ble_eq_true rfl) ?_
  refine (look_spec h hl k day).mono ?_
  rintro v w1 ⟨hK, e1⟩
  have hkl := atL_length k day l
  obtain ⟨AK, cK, rfl, hrK, _⟩ := hK.slice
  refine (living_spec hrK (by omega) 2 s cl).mono ?_
  rintro v w2 ⟨ho, e2⟩
  exact ⟨ho.base e1.size, e1.trans e2⟩
theorem Acting_spec {w : World} {A : Option Addr} {l : List Fact} {c : Nat} (h : HF w A l c) (hl : l.length ≤ 2 ^ 20) (k day s cl : Int) :
    CallsV C.P 65 #[.slice A l.length c, .int .i64 k, .int .i64 day, .int .i64 s, .int .i64 cl] w fun v w' => NewInts w.heap.size w' v (livingL (atL k day l) 3 s cl) ∧ Ext w w' := by
  refine callsV_of C_ok (args := [_, _, _, _, _]) (plans := []) Tryz.func65 rfl Tryz.ntmps65 (by kernel_rfl) (Nat.le_of_ble_eq_true rfl) ?_
  refine (look_spec h hl k day).mono ?_
  rintro v w1 ⟨hK, e1⟩
  have hkl := atL_length k day l
  obtain ⟨AK, cK, rfl, hrK, _⟩ := hK.slice
  refine (living_spec hrK (by omega) 3 s cl).mono ?_
  rintro v w2 ⟨ho, e2⟩
  exact ⟨ho.base e1.size, e1.trans e2⟩
theorem Dead_spec {w : World} {A : Option Addr} {l : List Fact} {c : Nat} (h : HF w A l c) (hl : l.length ≤ 2 ^ 20) (k day n : Int) :
    CallsV C.P 56 #[.slice A l.length c, .int .i64 k, .int .i64 day, .int .i64 n] w fun v w' => v = .bool (deadB (atL k day l) n) ∧ Ext w w' := by
  refine callsV_of C_ok (args := [_, _, _, _]) (plans := []) Tryz.func56 rfl Tryz.ntmps56 (by kernel_rfl) (Nat.le_of_ble_eq_true rfl) ?_
  refine (look_spec h hl k day).mono ?_
  rintro v w1 ⟨hK, e1⟩
  have hkl := atL_length k day l
  obtain ⟨AK, cK, rfl, hrK, _⟩ := hK.slice
  refine (vdead_spec hrK (by omega) n).mono ?_
  rintro v w2 ⟨rfl, e2⟩
  exact ⟨rfl, e1.trans e2⟩
theorem Mourns_spec {w : World} {A : Option Addr} {l : List Fact} {c : Nat} (h : HF w A l c) (hl : l.length ≤ 2 ^ 20) (k day n : Int) :
    CallsV C.P 53 #[.slice A l.length c, .int .i64 k, .int .i64 day, .int .i64 n] w fun v w' => v = .bool ((atL k day l).any (mournB n)) ∧ Ext w w' := by
  refine callsV_of C_ok (args := [_, _, _, _]) (plans := []) Tryz.func53 rfl Tryz.ntmps53 (by kernel_rfl) (Nat.le_of_ble_eq_true rfl) ?_
  intro g w0 h0
  refine (look_spec (h.ext h0.ext) hl k day).mono ?_
  rintro v w1 ⟨hK, e1⟩
  have hkl := atL_length k day l
  obtain ⟨AK, cK, rfl, hrK, _⟩ := hK.slice
  refine ⟨[], [.pointer (some ⟨g, 0, none⟩)], rfl, rfl, ?_⟩
  refine (some_spec (p := mournB n) hrK (by omega) rfl fun x w' e => Mourns1_spec x w' (e.heap (e1.heap h0.here))).mono ?_
  rintro v w2 ⟨rfl, e2⟩
  exact ⟨rfl, (h0.ext.trans e1).trans e2⟩
theorem Name_spec {w : World} {A : Option Addr} {l : List Fact} {c : Nat} (h : HF w A l c) (hl : l.length ≤ 2 ^ 20) (k day s lang : Int) :
    CallsV C.P 51 #[.slice A l.length c, .int .i64 k, .int .i64 day, .int .i64 s, .int .i64 lang] w fun v w' => v = .string (nameL (atL k day l) s lang) ∧ Ext w w' := by
  refine callsV_of C_ok (args := [_, _, _, _, _]) (plans := []) Tryz.func51 rfl Tryz.ntmps51 (by kernel_rfl) (Nat.le_of_ble_eq_true rfl) ?_
  refine (look_spec h hl k day).mono ?_
  rintro v w1 ⟨hK, e1⟩
  have hkl := atL_length k day l
  obtain ⟨AK, cK, rfl, hrK, _⟩ := hK.slice
  refine (named_spec hrK (by omega) s lang).mono ?_
  rintro v w2 ⟨rfl, e2⟩
  unfold nameL
  generalize (lastP (isNm s lang) (atL k day l)).getD factZ = y
  intro g w3 h3
  refine ⟨rfl, _, _, h3.here, Nat.le_of_ble_eq_true rfl, rfl, ?_⟩
  intro w4 h4
  have h4 : Put w3 g (.cells y.cells.toArray 29 (0, 0)) w4 := h4
  have e24 : Ext w2 w4 := h4.ext_of h3.ext (by rw [h3.new]; exact Nat.le_refl _)
  refine ⟨_, cell_of_block h4.here rfl, ?_⟩
  exact ⟨rfl, (e1.trans e2).trans e24⟩

end Go.Proofs.YthpdkdmbfdmamaaGreatDoor
