/- Views: tests of facts, the last fact that passes, whether some fact passes. -/
import Derived.Test.YthpdkdmbfdmamaaGreatDoorGBc
import Derived.Test.YthpdkdmbfdmamaaGreatDoorGBb
set_option linter.unusedVariables false
set_option linter.unusedSimpArgs false
set_option linter.unnecessarySimpa false
set_option linter.unusedSectionVars false
namespace Go.Proofs.YthpdkdmbfdmamaaGreatDoor
open Go.Eng Go.RowKit

/-- A number in a box. -/
abbrev BoxI (w : World) (p : Nat) (n : Int) : Prop := w.heap[p]? = some (.cells #[.int .i64 n] 3 (0, 0))
theorem BoxI.ext {w w' : World} {p : Nat} {n : Int} (h : BoxI w p n) (e : Ext w w') : BoxI w' p n := e.heap h

theorem named1_spec (x : Fact) {s lang : Int} {p0 p1 : Nat} (w : World) (hp0 : BoxI w p0 s) (hp1 : BoxI w p1 lang) :
    CallsV C.P 149 (#[] ++ [x.val].toArray ++ #[.pointer (some ⟨p0, 0, none⟩), .pointer (some ⟨p1, 0, none⟩)]) w fun v w' => v = .bool (isNm s lang x) ∧ Ext w w' := by
  refine callsV_of C_ok (args := [_, _, _]) (plans := []) Tryz.func149 rfl Tryz.ntmps149 (by kernel_rfl) (Nat.le_of_ble_eq_true rfl) ?_
  intro g w1 h1
  have M1 := (Mem.start w).alloc h1
  unfold isNm
  refine ⟨_, M1.cell 0 rfl rfl, ?_⟩
  refine brE_dec (fun a0 => ?_) (fun a0 => ?_)
  case' refine_2 =>
    have a0 : ¬ x.kind = 1 := a0
    exact ⟨congrArg Value.bool (decide_eq_false fun h => a0 h.1).symm, M1.ext⟩
  have a0 : x.kind = 1 := a0
  refine ⟨_, M1.cell 0 rfl rfl, ?_⟩
  refine ⟨_, cell_of_block (h1.ext.heap hp0) rfl, ?_⟩
  refine brE_dec (fun a1 => ?_) (fun a1 => ?_)
  case' refine_2 =>
    have a1 : ¬ x.who = s := a1
    exact ⟨congrArg Value.bool (decide_eq_false fun h => a1 h.2.1).symm, M1.ext⟩
  have a1 : x.who = s := a1
  refine ⟨_, M1.cell 0 rfl rfl, ?_⟩
  refine ⟨_, cell_of_block (h1.ext.heap hp1) rfl, ?_⟩
  refine ⟨congrArg Value.bool ?_, M1.ext⟩
  show decide (x.other = lang) = _
  rw [Bool.eq_iff_iff, decide_eq_true_eq, decide_eq_true_eq]
  exact ⟨fun h => ⟨a0, a1, h⟩, fun h => h.2.2⟩

theorem dead1_spec (x : Fact) {n : Int} {p0 : Nat} (w : World) (hp0 : BoxI w p0 n) :
    CallsV C.P 155 (#[] ++ [x.val].toArray ++ #[.pointer (some ⟨p0, 0, none⟩)]) w fun v w' => v = .bool (deathB n x) ∧ Ext w w' := by
  refine callsV_of C_ok (args := [_, _]) (plans := []) Tryz.func155 rfl Tryz.ntmps155 (by kernel_rfl) (Nat.le_of_ble_eq_true rfl) ?_
  intro g w1 h1
  have M1 := (Mem.start w).alloc h1
  unfold deathB
  refine ⟨_, M1.cell 0 rfl rfl, ?_⟩
  refine brE_dec (fun a0 => ?_) (fun a0 => ?_)
  case' refine_2 =>
    have a0 : ¬ x.kind = 10 := a0
    exact ⟨congrArg Value.bool (decide_eq_false fun h => a0 h.1).symm, M1.ext⟩
  have a0 : x.kind = 10 := a0
  refine ⟨_, M1.cell 0 rfl rfl, ?_⟩
  refine ⟨_, cell_of_block (h1.ext.heap hp0) rfl, ?_⟩
  refine ⟨congrArg Value.bool ?_, M1.ext⟩
  show decide (x.who = n) = _
  rw [Bool.eq_iff_iff, decide_eq_true_eq, decide_eq_true_eq]
  exact ⟨fun h => ⟨a0, h⟩, fun h => h.2⟩

theorem Mourns1_spec (x : Fact) {s : Int} {p0 : Nat} (w : World) (hp0 : BoxI w p0 s) :
    CallsV C.P 115 (#[] ++ [x.val].toArray ++ #[.pointer (some ⟨p0, 0, none⟩)]) w fun v w' => v = .bool (mournB s x) ∧ Ext w w' := by
  refine callsV_of C_ok (args := [_, _]) (plans := []) Tryz.func115 rfl Tryz.ntmps115 (by kernel_rfl) (Nat.le_of_ble_eq_true rfl) ?_
  intro g w1 h1
  have M1 := (Mem.start w).alloc h1
  unfold mournB
  refine ⟨_, M1.cell 0 rfl rfl, ?_⟩
  refine brE_dec (fun a0 => ?_) (fun a0 => ?_)
  case' refine_2 =>
    have a0 : ¬ x.kind = 7 := a0
    exact ⟨congrArg Value.bool (decide_eq_false fun h => a0 h.1).symm, M1.ext⟩
  have a0 : x.kind = 7 := a0
  refine ⟨_, M1.cell 0 rfl rfl, ?_⟩
  refine ⟨_, cell_of_block (h1.ext.heap hp0) rfl, ?_⟩
  refine ⟨congrArg Value.bool ?_, M1.ext⟩
  show decide (x.who = s) = _
  rw [Bool.eq_iff_iff, decide_eq_true_eq, decide_eq_true_eq]
  exact ⟨fun h => ⟨a0, h⟩, fun h => h.2⟩

theorem Principal1_spec (x : Fact) {n : Int} {p0 : Nat} (w : World) (hp0 : BoxI w p0 n) :
    CallsV C.P 119 (#[] ++ [x.val].toArray ++ #[.pointer (some ⟨p0, 0, none⟩)]) w fun v w' => v = .bool (deputyB n x) ∧ Ext w w' := by
  refine callsV_of C_ok (args := [_, _]) (plans := []) Tryz.func119 rfl Tryz.ntmps119 (by kernel_rfl) (Nat.le_of_ble_eq_true rfl) ?_
  intro g w1 h1
  have M1 := (Mem.start w).alloc h1
  unfold deputyB
  refine ⟨_, M1.cell 0 rfl rfl, ?_⟩
  refine brE_dec (fun a0 => ?_) (fun a0 => ?_)
  case' refine_2 =>
    have a0 : ¬ x.kind = 9 := a0
    exact ⟨congrArg Value.bool (decide_eq_false fun h => a0 h.1).symm, M1.ext⟩
  have a0 : x.kind = 9 := a0
  refine ⟨_, M1.cell 0 rfl rfl, ?_⟩
  refine ⟨_, cell_of_block (h1.ext.heap hp0) rfl, ?_⟩
  refine ⟨congrArg Value.bool ?_, M1.ext⟩
  show decide (x.who = n) = _
  rw [Bool.eq_iff_iff, decide_eq_true_eq, decide_eq_true_eq]
  exact ⟨fun h => ⟨a0, h⟩, fun h => h.2⟩

theorem Credentials1_spec (x : Fact) {n s : Int} {p0 p1 : Nat} (w : World) (hp0 : BoxI w p0 n) (hp1 : BoxI w p1 s) :
    CallsV C.P 127 (#[] ++ [x.val].toArray ++ #[.pointer (some ⟨p0, 0, none⟩), .pointer (some ⟨p1, 0, none⟩)]) w fun v w' => v = .bool (credB n s x) ∧ Ext w w' := by
  refine callsV_of C_ok (args := [_, _, _]) (plans := []) Tryz.func127 rfl Tryz.ntmps127 (by kernel_rfl) (Nat.le_of_ble_eq_true rfl) ?_
  intro g w1 h1
  have M1 := (Mem.start w).alloc h1
  unfold credB
  refine ⟨_, M1.cell 0 rfl rfl, ?_⟩
  refine brE_dec (fun a0 => ?_) (fun a0 => ?_)
  case' refine_2 =>
    have a0 : ¬ x.kind = 5 := a0
    exact ⟨congrArg Value.bool (decide_eq_false fun h => a0 h.1).symm, M1.ext⟩
  have a0 : x.kind = 5 := a0
  refine ⟨_, M1.cell 0 rfl rfl, ?_⟩
  refine ⟨_, cell_of_block (h1.ext.heap hp0) rfl, ?_⟩
  refine brE_dec (fun a1 => ?_) (fun a1 => ?_)
  case' refine_2 =>
    have a1 : ¬ x.who = n := a1
    exact ⟨congrArg Value.bool (decide_eq_false fun h => a1 h.2.1).symm, M1.ext⟩
  have a1 : x.who = n := a1
  refine ⟨_, M1.cell 0 rfl rfl, ?_⟩
  refine ⟨_, cell_of_block (h1.ext.heap hp1) rfl, ?_⟩
  refine ⟨congrArg Value.bool ?_, M1.ext⟩
  show decide (x.what = s) = _
  rw [Bool.eq_iff_iff, decide_eq_true_eq, decide_eq_true_eq]
  exact ⟨fun h => ⟨a0, a1, h⟩, fun h => h.2.2⟩

theorem recognised11_spec (x : Fact) {host s n : Int} {p0 p1 p2 : Nat} (w : World) (hp0 : BoxI w p0 host) (hp1 : BoxI w p1 s) (hp2 : BoxI w p2 n) :
    CallsV C.P 158 (#[] ++ [x.val].toArray ++ #[.pointer (some ⟨p0, 0, none⟩), .pointer (some ⟨p1, 0, none⟩), .pointer (some ⟨p2, 0, none⟩)]) w fun v w' => v = .bool (recogB host s n x) ∧ Ext w w' := by
  refine callsV_of C_ok (args := [_, _, _, _]) (plans := []) Tryz.func158 rfl Tryz.ntmps158 (by kernel_rfl) (Nat.le_of_ble_eq_true rfl) ?_
  intro g w1 h1
  have M1 := (Mem.start w).alloc h1
  unfold recogB
  refine ⟨_, M1.cell 0 rfl rfl, ?_⟩
  refine brE_dec (fun a0 => ?_) (fun a0 => ?_)
  case' refine_2 =>
    have a0 : ¬ x.kind = 4 := a0
    exact ⟨congrArg Value.bool (decide_eq_false fun h => a0 h.1).symm, M1.ext⟩
  have a0 : x.kind = 4 := a0
  refine ⟨_, M1.cell 0 rfl rfl, ?_⟩
  refine ⟨_, cell_of_block (h1.ext.heap hp0) rfl, ?_⟩
  refine brE_dec (fun a1 => ?_) (fun a1 => ?_)
  case' refine_2 =>
    have a1 : ¬ x.who = host := a1
    exact ⟨congrArg Value.bool (decide_eq_false fun h => a1 h.2.1).symm, M1.ext⟩
  have a1 : x.who = host := a1
  refine ⟨_, M1.cell 0 rfl rfl, ?_⟩
  refine ⟨_, cell_of_block (h1.ext.heap hp1) rfl, ?_⟩
  refine brE_dec (fun a2 => ?_) (fun a2 => ?_)
  case' refine_2 =>
    have a2 : ¬ x.what = s := a2
    exact ⟨congrArg Value.bool (decide_eq_false fun h => a2 h.2.2.1).symm, M1.ext⟩
  have a2 : x.what = s := a2
  refine ⟨_, M1.cell 0 rfl rfl, ?_⟩
  refine ⟨_, cell_of_block (h1.ext.heap hp2) rfl, ?_⟩
  refine ⟨congrArg Value.bool ?_, M1.ext⟩
  show decide (x.other = n) = _
  rw [Bool.eq_iff_iff, decide_eq_true_eq, decide_eq_true_eq]
  exact ⟨fun h => ⟨a0, a1, a2, h⟩, fun h => h.2.2.2⟩

theorem Spouse1_spec (x : Fact) {n : Int} {p0 : Nat} (w : World) (hp0 : BoxI w p0 n) :
    CallsV C.P 117 (#[] ++ [x.val].toArray ++ #[.pointer (some ⟨p0, 0, none⟩)]) w fun v w' => v = .bool (marriedB n x) ∧ Ext w w' := by
  refine callsV_of C_ok (args := [_, _]) (plans := []) Tryz.func117 rfl Tryz.ntmps117 (by kernel_rfl) (Nat.le_of_ble_eq_true rfl) ?_
  intro g w1 h1
  have M1 := (Mem.start w).alloc h1
  unfold marriedB
  refine ⟨_, M1.cell 0 rfl rfl, ?_⟩
  refine brE_dec (fun a0 => ?_) (fun a0 => ?_)
  case' refine_2 =>
    have a0 : ¬ x.kind = 6 := a0
    exact ⟨congrArg Value.bool (decide_eq_false fun h => a0 h.1).symm, M1.ext⟩
  have a0 : x.kind = 6 := a0
  refine ⟨_, M1.cell 0 rfl rfl, ?_⟩
  refine ⟨_, cell_of_block (h1.ext.heap hp0) rfl, ?_⟩
  refine brE_dec (fun a1 => ?_) (fun a1 => ?_)
  · have a1 : x.who = n := a1
    exact ⟨congrArg Value.bool (decide_eq_true ⟨a0, .inl a1⟩).symm, M1.ext⟩
  have a1 : ¬ x.who = n := a1
  refine ⟨_, M1.cell 0 rfl rfl, ?_⟩
  refine ⟨_, cell_of_block (h1.ext.heap hp0) rfl, ?_⟩
  refine ⟨congrArg Value.bool ?_, M1.ext⟩
  show decide (x.other = n) = _
  rw [Bool.eq_iff_iff, decide_eq_true_eq, decide_eq_true_eq]
  exact ⟨fun h => ⟨a0, .inr h⟩, fun h => h.2.resolve_left a1⟩

abbrev TestV (w : World) (gd : Nat) (cb : Array Value) (p : Fact → Bool) : Prop := ∀ (x : Fact) (w' : World), Ext w w' → CallsV C.P gd (#[] ++ [x.val].toArray ++ cb) w' fun v w'' => v = .bool (p x) ∧ Ext w' w''

set_option maxRecDepth 100000 in
theorem last_spec {w : World} {A : Option Addr} {l : List Fact} {c gd : Nat} {cb : Array Value} {p : Fact → Bool} (hr : Reads w A (fcells l)) (hl : l.length ≤ 2 ^ 20) (hgd : C.can gd = true) (hp : TestV w gd cb p) :
    CallsV C.P 116 #[.slice A l.length c, .func (.func gd) #[] cb] w fun v w' => v = .tuple #[((lastP p l).getD factZ).val, .bool (lastP p l).isSome] ∧ Ext w w' := by
  refine callsV_of C_ok (args := [_, _]) (plans := []) Tryz.func116 rfl Tryz.ntmps116 (by kernel_rfl) (Nat.le_of_ble_eq_true rfl) ?_
  intro g4 w1 h1
  have M1 : Mem w w1 [(g4, .cells factZ.cells.toArray 29 (0, 0))] := (Mem.start w).alloc h1
  refine ⟨(l.length : Int) - 1, fit ⟨by omega, by omega⟩, ?_⟩
  refine loopE C_ok (fun (n : Nat) => [(0, .slice A l.length c), (1, .func (.func gd) #[] cb), (4, .pointer (some ⟨g4, 0, none⟩)), (6, .int .i64 ((n : Int) - 1))])
    (fun n w' => n ≤ l.length ∧ Mem w w' [(g4, .cells factZ.cells.toArray 29 (0, 0))] ∧ lastP p l = lastP p (l.take n)) (fun n => n) l.length
    ⟨rfl, rfl, rfl, rfl, trivial⟩ ⟨Nat.le_refl _, M1, by rw [List.take_length]⟩ ?_
  rintro n w2 ⟨hn, M2, hlast⟩
  refine brE_dec (fun hge => ?_) (fun hlt => ?_)
  · have hge : (n : Int) - 1 ≥ 0 := hge
    obtain ⟨m, rfl⟩ : ∃ m, n = m + 1 := ⟨n - 1, by omega⟩
    have hm : m < l.length := by omega
    rw [lastP_take hm] at hlast
    obtain ⟨b, o, hA, hc⟩ := Reads.fact (hr.ext M2.ext) hm
    refine ⟨m, b, o, by omega, hm, hA, ?_⟩
    refine ⟨l[m].cells, rfl, hc, ?_⟩
    refine brE_true hgd ?_
    refine (hp l[m] w2 M2.ext).mono ?_
    rintro v w3 ⟨rfl, e3⟩
    have M3 := M2.grow e3
    refine brE_mk (fun hb => ?_) (fun hb => ?_)
    · rw [if_pos hb] at hlast
      obtain ⟨b2, o2, hA2, hc2⟩ := Reads.fact (hr.ext M3.ext) hm
      refine ⟨m, b2, o2, by omega, hm, hA2, ?_⟩
      refine ⟨l[m].cells, rfl, hc2, ?_⟩
      refine ⟨rfl, _, _, M3.get 0 rfl, Nat.le_of_ble_eq_true rfl, rfl, ?_⟩
      intro w4 h4
      have h4 : Put w3 g4 (.cells l[m].cells.toArray 29 (0, 0)) w4 := h4
      refine ⟨l[m].cells, rfl, Rd.of_block h4.here, ?_⟩
      refine ⟨?_, (M3.put 0 rfl h4).ext⟩
      rw [hlast]; rfl
    · rw [if_neg (by rw [hb]; decide)] at hlast
      refine ⟨((m : Nat) : Int) - 1, by rw [fit ⟨by omega, by omega⟩]; omega, ?_⟩
      exact ⟨m, ⟨rfl, rfl, rfl, rfl, trivial⟩, ⟨by omega, M3, hlast⟩, by omega⟩
  · have : n = 0 := by have : ¬ (n : Int) - 1 ≥ 0 := hlt; omega
    subst this
    have hlast : lastP p l = none := hlast
    refine ⟨rfl, _, _, M2.get 0 rfl, Nat.le_of_ble_eq_true rfl, rfl, ?_⟩
    intro w4 h4
    have h4 : Put w2 g4 (.cells factZ.cells.toArray 29 (0, 0)) w4 := h4
    refine ⟨factZ.cells, rfl, Rd.of_block h4.here, ?_⟩
    refine ⟨?_, (M2.put 0 rfl h4).ext⟩
    rw [hlast]; rfl

theorem IndexFuncV_spec {w : World} {A : Option Addr} {l : List Fact} {c gd : Nat} {cb : Array Value} {p : Fact → Bool} (hr : Reads w A (fcells l)) (hl : l.length ≤ 2 ^ 20) (hgd : C.can gd = true) (hp : TestV w gd cb p) :
    CallsV C.P 197 #[.slice A l.length c, .func (.func gd) #[] cb] w fun v w' => (∃ i : Int, v = .int .i64 i ∧ decide (i ≥ 0) = l.any p) ∧ Ext w w' := by
  refine callsV_of C_ok (args := [_, _]) (plans := []) Tryz.func197 rfl Tryz.ntmps197 (by kernel_rfl) (Nat.le_of_ble_eq_true rfl) ?_
  refine loopE C_ok (fun (i : Nat) => [(0, .slice A l.length c), (1, .func (.func gd) #[] cb), (7, .int .i64 l.length), (8, .int .i64 i)])
    (fun i w' => Ext w w' ∧ i ≤ l.length ∧ (l.take i).any p = false) (fun i => l.length - i) 0 ⟨rfl, rfl, rfl, rfl, trivial⟩
    ⟨Ext.refl _, Nat.zero_le _, rfl⟩ ?_
  rintro i w1 ⟨e1, hi, hall⟩
  refine brE_dec (fun hlt => ?_) (fun hge => ?_)
  · have hlt : i < l.length := by have : (i : Int) < (l.length : Nat) := hlt; omega
    obtain ⟨b, o, hA, hc⟩ := Reads.fact (hr.ext e1) hlt
    refine ⟨i, b, o, rfl, hlt, hA, ?_⟩
    refine ⟨l[i].cells, rfl, hc, ?_⟩
    refine brE_true hgd ?_
    refine (hp l[i] w1 e1).mono ?_
    rintro v w2 ⟨rfl, e2⟩
    refine brE_mk (fun h2 => ?_) (fun h2 => ?_)
    · refine ⟨⟨i, rfl, ?_⟩, e1.trans e2⟩
      rw [decide_eq_true (by omega), eq_comm, List.any_eq_true]
      exact ⟨_, List.getElem_mem hlt, h2⟩
    · refine ⟨((i + 1 : Nat) : Int), fit ⟨by omega, by omega⟩, ?_⟩
      refine ⟨i + 1, ⟨rfl, rfl, rfl, rfl, trivial⟩, ⟨e1.trans e2, hlt, ?_⟩, by omega⟩
      rw [List.take_succ_eq_append_getElem hlt, List.any_append, hall]
      simp [h2]
  · have : i = l.length := by have : ¬ (i : Int) < (l.length : Nat) := hge; omega
    subst this
    rw [List.take_length] at hall
    exact ⟨⟨-1, rfl, by rw [hall]; rfl⟩, e1⟩

theorem some_spec {w : World} {A : Option Addr} {l : List Fact} {c gd : Nat} {cb : Array Value} {p : Fact → Bool} (hr : Reads w A (fcells l)) (hl : l.length ≤ 2 ^ 20) (hgd : C.can gd = true) (hp : TestV w gd cb p) :
    CallsV C.P 114 #[.slice A l.length c, .func (.func gd) #[] cb] w fun v w' => v = .bool (l.any p) ∧ Ext w w' := by
  have inner : CallsV C.P 154 #[.slice A l.length c, .func (.func gd) #[] cb] w fun v w' => v = .bool (l.any p) ∧ Ext w w' := by
    refine callsV_of C_ok (args := [_, _]) (plans := []) Tryz.func154 rfl Tryz.ntmps154 (by kernel_rfl) (Nat.le_of_ble_eq_true rfl) ?_
    refine (IndexFuncV_spec hr hl hgd hp).mono ?_
    rintro v w1 ⟨⟨i, rfl, hi⟩, e1⟩
    exact ⟨congrArg Value.bool hi, e1⟩
  refine callsV_of C_ok (args := [_, _]) (plans := []) Tryz.func114 rfl Tryz.ntmps114 (by kernel_rfl) (Nat.le_of_ble_eq_true rfl) ?_
  refine inner.mono ?_
  rintro v w1 ⟨rfl, e1⟩
  exact ⟨rfl, e1⟩

theorem vdead_spec {w : World} {A : Option Addr} {l : List Fact} {c : Nat} (hr : Reads w A (fcells l)) (hl : l.length ≤ 2 ^ 20) (n : Int) :
    CallsV C.P 118 #[.slice A l.length c, .int .i64 n] w fun v w' => v = .bool (deadB l n) ∧ Ext w w' := by
  refine callsV_of C_ok (args := [_, _]) (plans := []) Tryz.func118 rfl Tryz.ntmps118 (by kernel_rfl) (Nat.le_of_ble_eq_true rfl) ?_
  intro g w1 h1
  refine ⟨[], [.pointer (some ⟨g, 0, none⟩)], rfl, rfl, ?_⟩
  refine (some_spec (p := deathB n) (hr.ext h1.ext) hl rfl fun x w' e => dead1_spec x w' (e.heap h1.here)).mono ?_
  rintro v w2 ⟨rfl, e2⟩
  exact ⟨rfl, h1.ext.trans e2⟩

theorem named_spec {w : World} {A : Option Addr} {l : List Fact} {c : Nat} (hr : Reads w A (fcells l)) (hl : l.length ≤ 2 ^ 20) (s lang : Int) :
    CallsV C.P 107 #[.slice A l.length c, .int .i64 s, .int .i64 lang] w fun v w' => v = .tuple #[((lastP (isNm s lang) l).getD factZ).val, .bool (lastP (isNm s lang) l).isSome] ∧ Ext w w' := by
  refine callsV_of C_ok (args := [_, _, _]) (plans := []) Tryz.func107 rfl Tryz.ntmps107 (by kernel_rfl) (Nat.le_of_ble_eq_true rfl) ?_
  intro g4 w1 h1
  have M1 := (Mem.start w).alloc h1
  intro g5 w2 h2
  have M2 := M1.alloc h2
  intro g6 w3 h3
  have M3 := M2.alloc h3
  refine ⟨[], [.pointer (some ⟨g4, 0, none⟩), .pointer (some ⟨g5, 0, none⟩)], rfl, rfl, ?_⟩
  refine (last_spec (p := isNm s lang) (hr.ext M3.ext) hl rfl fun x w' e => named1_spec x w' (e.heap (M3.get 2 rfl)) (e.heap (M3.get 1 rfl))).mono ?_
  rintro v w4 ⟨rfl, e4⟩
  have M4 := M3.grow e4
  generalize hx : (lastP (isNm s lang) l).getD factZ = y
  refine ⟨rfl, _, _, M4.get 0 rfl, Nat.le_of_ble_eq_true rfl, rfl, ?_⟩
  intro w5 h5
  have h5 : Put w4 g6 (.cells y.cells.toArray 29 (0, 0)) w5 := h5
  refine ⟨y.cells, rfl, Rd.of_block h5.here, ?_⟩
  exact ⟨rfl, (M4.put 0 rfl h5).ext⟩

theorem look_spec {w : World} {A : Option Addr} {l : List Fact} {c : Nat} (h : HF w A l c) (hl : l.length ≤ 2 ^ 20) (k day : Int) :
    CallsV C.P 106 #[.slice A l.length c, .int .i64 k, .int .i64 day] w fun v w' => NewF w.heap.size w' v (atL k day l) ∧ Ext w w' := by
  refine callsV_of C_ok (args := [_, _, _]) (plans := []) Tryz.func106 rfl Tryz.ntmps106 (by kernel_rfl) (Nat.le_of_ble_eq_true rfl) ?_
  refine (At_spec h hl k day).mono ?_
  rintro v w1 h1
  exact h1

end Go.Proofs.YthpdkdmbfdmamaaGreatDoor
