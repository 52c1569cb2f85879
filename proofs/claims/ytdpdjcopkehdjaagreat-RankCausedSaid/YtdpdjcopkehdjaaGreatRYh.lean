/- a part of the proof: steps, walks and plain laws that the law below stands on; no condition. -/
import Derived.Test.YtdpdjcopkehdjaaGreatRYa
import Derived.Test.YtdpdjcopkehdjaaGreatRYb
import Derived.Test.YtdpdjcopkehdjaaGreatRYc
import Derived.Test.YtdpdjcopkehdjaaGreatRYd
import Derived.Test.YtdpdjcopkehdjaaGreatRYe
import Derived.Test.YtdpdjcopkehdjaaGreatRYf
import Derived.Test.YtdpdjcopkehdjaaGreatRYg
import Derived.Maps.RangeRun
import Derived.Laws.RangeString
import Derived.Lib.OthersKept
import Derived.Lib.TrimU
set_option linter.unusedVariables false
set_option linter.unusedSimpArgs false
set_option linter.unnecessarySimpa false
set_option linter.unusedSectionVars false
namespace Go.Proofs.YtdpdjcopkehdjaaGreat.Rk
open Go.Eng Go.RowKit
inductive Tst where
  | mk (op attr side n : Int) (A : Option Addr) (c : Nat) (of : List Tst)
def Tst.op : Tst → Int | .mk x _ _ _ _ _ _ => x
def Tst.attr : Tst → Int | .mk _ x _ _ _ _ _ => x
def Tst.side : Tst → Int | .mk _ _ x _ _ _ _ => x
def Tst.n : Tst → Int | .mk _ _ _ x _ _ _ => x
def Tst.A : Tst → Option Addr | .mk _ _ _ _ x _ _ => x
def Tst.c : Tst → Nat | .mk _ _ _ _ _ x _ => x
def Tst.of : Tst → List Tst | .mk _ _ _ _ _ _ x => x
def Tst.cells (t : Tst) : List Value := [.int .u8 t.op, .int .u8 t.attr, .int .u8 t.side, .int .i64 t.n, .slice t.A t.of.length t.c]
def Tst.val (t : Tst) : Value := .agg t.cells.toArray
instance : Inhabited Tst := ⟨.mk 0 0 0 0 none 0 []⟩
theorem Tst.len (t : Tst) : t.cells.length = 5 := rfl
structure Tst.Nums (t : Tst) : Prop where
  op : 0 ≤ t.op ∧ t.op ≤ 255
  attr : 0 ≤ t.attr ∧ t.attr ≤ 255
  side : 0 ≤ t.side ∧ t.side ≤ 255
  n : In64 t.n
inductive TestIs (w : World) : Tst → Prop
  | mk {t : Tst} : t.Nums → Reads w t.A (t.of.flatMap Tst.cells) → t.of.length ≤ t.c → t.of.length ≤ 9223372036854775807 → (∀ x ∈ t.of, TestIs w x) → TestIs w t
theorem TestIs.ext {w w' : World} {t : Tst} (h : TestIs w t) (e : Ext w w') : TestIs w' t := by
  induction h with
  | mk h1 h2 h3 h4 _ ih => exact .mk h1 (h2.ext e) h3 h4 ih
def kindZ (a : Int) : Int := if a = 1 ∨ a = 2 then 1 else if a = 3 ∨ a = 4 ∨ a = 5 then 2 else if a = 6 ∨ a = 7 then 3 else 0
def rangeB (a n : Int) : Bool := if a = 1 then decide (n ≥ 1 ∧ n ≤ 5) else if a = 2 then decide (n ≥ 0 ∧ n ≤ 2) else decide (kindZ a = 2 ∧ n = 1)
def boolZ (b : Bool) : Int := if b = true then 1 else 0
def attrZ (a : Int) (p : Prof) : Int := if a = 1 then p.cls else if a = 2 then p.visit else if a = 3 then boolZ p.host else if a = 4 then boolZ p.dep else if a = 5 then boolZ p.mourn else if a = 6 then p.cred else if a = 7 then p.letter else 0
theorem kindOf_spec (a : Int) (w : World) : CallsV C.P 200 #[.int .u8 a] w fun v w' => v = .int .i64 (kindZ a) ∧ w' = w := by
  refine callsV_of C_ok (args := [_]) (plans := []) Tryz.func200 rfl Tryz.ntmps200 (by kernel_rfl) (Nat.le_of_ble_eq_true rfl) ?_

  refine brE_dec (fun h1 => ?_) (fun h1 => ?_)
  · have h1 : a = 1 := h1
    refine brE_true (decide_eq_true h1) ?_
    exact ⟨congrArg (Value.int .i64) (by unfold kindZ; (repeat' split) <;> omega), rfl⟩
  have h1 : ¬ a = 1 := h1
  refine brE_dec (fun h2 => ?_) (fun h2 => ?_)
  · have h2 : a = 2 := h2
    exact ⟨congrArg (Value.int .i64) (by unfold kindZ; (repeat' split) <;> omega), rfl⟩
  have h2 : ¬ a = 2 := h2
  refine brE_dec (fun h3 => ?_) (fun h3 => ?_)
  · have h3 : a = 3 := h3
    refine brE_true (decide_eq_true h3) ?_
    exact ⟨congrArg (Value.int .i64) (by unfold kindZ; (repeat' split) <;> omega), rfl⟩
  have h3 : ¬ a = 3 := h3
  refine brE_dec (fun h4 => ?_) (fun h4 => ?_)
  · have h4 : a = 4 := h4
    refine brE_true (decide_eq_true h4) ?_
    exact ⟨congrArg (Value.int .i64) (by unfold kindZ; (repeat' split) <;> omega), rfl⟩
  have h4 : ¬ a = 4 := h4
  refine brE_dec (fun h5 => ?_) (fun h5 => ?_)
  · have h5 : a = 5 := h5
    exact ⟨congrArg (Value.int .i64) (by unfold kindZ; (repeat' split) <;> omega), rfl⟩
  have h5 : ¬ a = 5 := h5
  refine brE_dec (fun h6 => ?_) (fun h6 => ?_)
  · have h6 : a = 6 := h6
    refine brE_true (decide_eq_true h6) ?_
    exact ⟨congrArg (Value.int .i64) (by unfold kindZ; (repeat' split) <;> omega), rfl⟩
  have h6 : ¬ a = 6 := h6
  refine brE_dec (fun h7 => ?_) (fun h7 => ?_)
  · have h7 : a = 7 := h7
    exact ⟨congrArg (Value.int .i64) (by unfold kindZ; (repeat' split) <;> omega), rfl⟩
  have h7 : ¬ a = 7 := h7
  exact ⟨congrArg (Value.int .i64) (by unfold kindZ; (repeat' split) <;> omega), rfl⟩
theorem inRange_spec (a n : Int) (w : World) : CallsV C.P 201 #[.int .u8 a, .int .i64 n] w fun v w' => v = .bool (rangeB a n) ∧ w' = w := by
  refine callsV_of C_ok (args := [_, _]) (plans := []) Tryz.func201 rfl Tryz.ntmps201 (by kernel_rfl) (Nat.le_of_ble_eq_true rfl) ?_
  refine brE_dec (fun h1 => ?_) (fun h1 => ?_)
  · have h1 : a = 1 := h1
    refine brE_dec (fun h2 => ?_) (fun h2 => ?_)
    · have h2 : n ≥ 1 := h2
      exact ⟨congrArg Value.bool (by unfold rangeB; rw [if_pos h1]; exact decide_eq_decide.2 ⟨fun h => ⟨h2, h⟩, fun h => h.2⟩), rfl⟩
    · have h2 : ¬ n ≥ 1 := h2
      exact ⟨congrArg Value.bool (by unfold rangeB; rw [if_pos h1]; exact (decide_eq_false fun h => h2 h.1).symm), rfl⟩
  have h1 : ¬ a = 1 := h1
  refine brE_dec (fun h3 => ?_) (fun h3 => ?_)
  · have h3 : a = 2 := h3
    refine brE_dec (fun h2 => ?_) (fun h2 => ?_)
    · have h2 : n ≥ 0 := h2
      exact ⟨congrArg Value.bool (by unfold rangeB; rw [if_neg h1, if_pos h3]; exact decide_eq_decide.2 ⟨fun h => ⟨h2, h⟩, fun h => h.2⟩), rfl⟩
    · have h2 : ¬ n ≥ 0 := h2
      exact ⟨congrArg Value.bool (by unfold rangeB; rw [if_neg h1, if_pos h3]; exact (decide_eq_false fun h => h2 h.1).symm), rfl⟩
  have h3 : ¬ a = 2 := h3
  refine (kindOf_spec a w).mono ?_
  rintro v w' ⟨rfl, rfl⟩
  refine brE_dec (fun h2 => ?_) (fun h2 => ?_)
  · have h2 : kindZ a = 2 := h2
    exact ⟨congrArg Value.bool (by unfold rangeB; rw [if_neg h1, if_neg h3]; exact decide_eq_decide.2 ⟨fun h => ⟨h2, h⟩, fun h => h.2⟩), rfl⟩
  · have h2 : ¬ kindZ a = 2 := h2
    exact ⟨congrArg Value.bool (by unfold rangeB; rw [if_neg h1, if_neg h3]; exact (decide_eq_false fun h => h2 h.1).symm), rfl⟩
theorem mark_spec (b : Bool) (w : World) : CallsV C.P 252 #[.bool b] w fun v w' => v = .int .i64 (boolZ b) ∧ w' = w := by
  refine callsV_of C_ok (args := [_]) (plans := []) Tryz.func252 rfl Tryz.ntmps252 (by kernel_rfl) (Nat.le_of_ble_eq_true rfl) ?_
  refine brE_mk (fun h => ?_) (fun h => ?_)
  · have h : b = true := h
    exact ⟨congrArg (Value.int .i64) (by rw [h]; rfl), rfl⟩
  · have h : b = false := h
    exact ⟨congrArg (Value.int .i64) (by rw [h]; rfl), rfl⟩
theorem view0_spec (p : Prof) (w : World) : CallsV C.P 187 #[p.val] w fun v w' => v = .int .i64 (attrZ 0 p) ∧ Ext w w' := by
  refine callsV_of C_ok (args := [_]) (plans := []) Tryz.func187 rfl Tryz.ntmps187 (by kernel_rfl) (Nat.le_of_ble_eq_true rfl) ?_
  intro g w1 h1
  exact ⟨rfl, h1.ext⟩
theorem view1_spec (p : Prof) (w : World) : CallsV C.P 188 #[p.val] w fun v w' => v = .int .i64 (attrZ 1 p) ∧ Ext w w' := by
  refine callsV_of C_ok (args := [_]) (plans := []) Tryz.func188 rfl Tryz.ntmps188 (by kernel_rfl) (Nat.le_of_ble_eq_true rfl) ?_
  intro g w1 h1
  refine ⟨_, cell_of_block (i := 0) h1.here rfl, ?_⟩
  exact ⟨rfl, h1.ext⟩
theorem view2_spec (p : Prof) (w : World) : CallsV C.P 189 #[p.val] w fun v w' => v = .int .i64 (attrZ 2 p) ∧ Ext w w' := by
  refine callsV_of C_ok (args := [_]) (plans := []) Tryz.func189 rfl Tryz.ntmps189 (by kernel_rfl) (Nat.le_of_ble_eq_true rfl) ?_
  intro g w1 h1
  refine ⟨_, cell_of_block (i := 1) h1.here rfl, ?_⟩
  exact ⟨rfl, h1.ext⟩
theorem view3_spec (p : Prof) (w : World) : CallsV C.P 190 #[p.val] w fun v w' => v = .int .i64 (attrZ 3 p) ∧ Ext w w' := by
  refine callsV_of C_ok (args := [_]) (plans := []) Tryz.func190 rfl Tryz.ntmps190 (by kernel_rfl) (Nat.le_of_ble_eq_true rfl) ?_
  intro g w1 h1
  refine ⟨_, cell_of_block (i := 2) h1.here rfl, ?_⟩
  refine (mark_spec _ w1).mono ?_
  rintro v w' ⟨rfl, rfl⟩
  exact ⟨rfl, h1.ext⟩
theorem view4_spec (p : Prof) (w : World) : CallsV C.P 191 #[p.val] w fun v w' => v = .int .i64 (attrZ 4 p) ∧ Ext w w' := by
  refine callsV_of C_ok (args := [_]) (plans := []) Tryz.func191 rfl Tryz.ntmps191 (by kernel_rfl) (Nat.le_of_ble_eq_true rfl) ?_
  intro g w1 h1
  refine ⟨_, cell_of_block (i := 3) h1.here rfl, ?_⟩
  refine (mark_spec _ w1).mono ?_
  rintro v w' ⟨rfl, rfl⟩
  exact ⟨rfl, h1.ext⟩
theorem view5_spec (p : Prof) (w : World) : CallsV C.P 192 #[p.val] w fun v w' => v = .int .i64 (attrZ 5 p) ∧ Ext w w' := by
  refine callsV_of C_ok (args := [_]) (plans := []) Tryz.func192 rfl Tryz.ntmps192 (by kernel_rfl) (Nat.le_of_ble_eq_true rfl) ?_
  intro g w1 h1
  refine ⟨_, cell_of_block (i := 4) h1.here rfl, ?_⟩
  refine (mark_spec _ w1).mono ?_
  rintro v w' ⟨rfl, rfl⟩
  exact ⟨rfl, h1.ext⟩
theorem view6_spec (p : Prof) (w : World) : CallsV C.P 193 #[p.val] w fun v w' => v = .int .i64 (attrZ 6 p) ∧ Ext w w' := by
  refine callsV_of C_ok (args := [_]) (plans := []) Tryz.func193 rfl Tryz.ntmps193 (by kernel_rfl) (Nat.le_of_ble_eq_true rfl) ?_
  intro g w1 h1
  refine ⟨_, cell_of_block (i := 5) h1.here rfl, ?_⟩
  exact ⟨rfl, h1.ext⟩
theorem view7_spec (p : Prof) (w : World) : CallsV C.P 194 #[p.val] w fun v w' => v = .int .i64 (attrZ 7 p) ∧ Ext w w' := by
  refine callsV_of C_ok (args := [_]) (plans := []) Tryz.func194 rfl Tryz.ntmps194 (by kernel_rfl) (Nat.le_of_ble_eq_true rfl) ?_
  intro g w1 h1
  refine ⟨_, cell_of_block (i := 6) h1.here rfl, ?_⟩
  exact ⟨rfl, h1.ext⟩
set_option maxRecDepth 100000 in
set_option maxHeartbeats 4000000 in
theorem value_spec (a : Int) (ha : 0 ≤ a ∧ a ≤ 7) (p : Prof) (w : World) : CallsV C.P 124 #[.int .u8 a, p.val] w fun v w' => v = .int .i64 (attrZ a p) ∧ Ext w w' := by
  have hc : a = 0 ∨ a = 1 ∨ a = 2 ∨ a = 3 ∨ a = 4 ∨ a = 5 ∨ a = 6 ∨ a = 7 := by omega
  rcases hc with rfl | rfl | rfl | rfl | rfl | rfl | rfl | rfl
  · refine callsV_of C_ok (args := [_, _]) (plans := plans124) Tryz.func124 rfl Tryz.ntmps124 (by kernel_rfl) (Nat.le_of_ble_eq_true rfl) ?_
    intro g3 w1 h1
    have M1 : Mem w w1 [(g3, .cells p.cells.toArray 38 (0, 0))] := (Mem.start w).alloc h1
    intro g5 w2 h2
    have M2 := M1.alloc h2
    refine ⟨rfl, _, _, M2.get 0 rfl, Nat.le_of_ble_eq_true rfl, rfl, ?_⟩
    intro w3 h3
    have M3 := M2.put 0 rfl h3
    refine ⟨0, rfl, by omega, ?_⟩
    refine ⟨_, M3.cell 0 (i := 0) rfl rfl, ?_⟩
    refine ⟨p.cells, rfl, M3.rd 1 rfl, ?_⟩
    refine (view0_spec p w3).mono ?_
    rintro v w4 ⟨rfl, e4⟩
    exact ⟨rfl, M3.ext.trans e4⟩
  · refine callsV_of C_ok (args := [_, _]) (plans := plans124) Tryz.func124 rfl Tryz.ntmps124 (by kernel_rfl) (Nat.le_of_ble_eq_true rfl) ?_
    intro g3 w1 h1
    have M1 : Mem w w1 [(g3, .cells p.cells.toArray 38 (0, 0))] := (Mem.start w).alloc h1
    intro g5 w2 h2
    have M2 := M1.alloc h2
    refine ⟨rfl, _, _, M2.get 0 rfl, Nat.le_of_ble_eq_true rfl, rfl, ?_⟩
    intro w3 h3
    have M3 := M2.put 0 rfl h3
    refine ⟨1, rfl, by omega, ?_⟩
    refine ⟨_, M3.cell 0 (i := 1) rfl rfl, ?_⟩
    refine ⟨p.cells, rfl, M3.rd 1 rfl, ?_⟩
    refine (view1_spec p w3).mono ?_
    rintro v w4 ⟨rfl, e4⟩
    exact ⟨rfl, M3.ext.trans e4⟩
  · refine callsV_of C_ok (args := [_, _]) (plans := plans124) Tryz.func124 rfl Tryz.ntmps124 (by kernel_rfl) (Nat.le_of_ble_eq_true rfl) ?_
    intro g3 w1 h1
    have M1 : Mem w w1 [(g3, .cells p.cells.toArray 38 (0, 0))] := (Mem.start w).alloc h1
    intro g5 w2 h2
    have M2 := M1.alloc h2
    refine ⟨rfl, _, _, M2.get 0 rfl, Nat.le_of_ble_eq_true rfl, rfl, ?_⟩
    intro w3 h3
    have M3 := M2.put 0 rfl h3
    refine ⟨2, rfl, by omega, ?_⟩
    refine ⟨_, M3.cell 0 (i := 2) rfl rfl, ?_⟩
    refine ⟨p.cells, rfl, M3.rd 1 rfl, ?_⟩
    refine (view2_spec p w3).mono ?_
    rintro v w4 ⟨rfl, e4⟩
    exact ⟨rfl, M3.ext.trans e4⟩
  · refine callsV_of C_ok (args := [_, _]) (plans := plans124) Tryz.func124 rfl Tryz.ntmps124 (by kernel_rfl) (Nat.le_of_ble_eq_true rfl) ?_
    intro g3 w1 h1
    have M1 : Mem w w1 [(g3, .cells p.cells.toArray 38 (0, 0))] := (Mem.start w).alloc h1
    intro g5 w2 h2
    have M2 := M1.alloc h2
    refine ⟨rfl, _, _, M2.get 0 rfl, Nat.le_of_ble_eq_true rfl, rfl, ?_⟩
    intro w3 h3
    have M3 := M2.put 0 rfl h3
    refine ⟨3, rfl, by omega, ?_⟩
    refine ⟨_, M3.cell 0 (i := 3) rfl rfl, ?_⟩
    refine ⟨p.cells, rfl, M3.rd 1 rfl, ?_⟩
    refine (view3_spec p w3).mono ?_
    rintro v w4 ⟨rfl, e4⟩
    exact ⟨rfl, M3.ext.trans e4⟩
  · refine callsV_of C_ok (args := [_, _]) (plans := plans124) Tryz.func124 rfl Tryz.ntmps124 (by kernel_rfl) (Nat.le_of_ble_eq_true rfl) ?_
    intro g3 w1 h1
    have M1 : Mem w w1 [(g3, .cells p.cells.toArray 38 (0, 0))] := (Mem.start w).alloc h1
    intro g5 w2 h2
    have M2 := M1.alloc h2
    refine ⟨rfl, _, _, M2.get 0 rfl, Nat.le_of_ble_eq_true rfl, rfl, ?_⟩
    intro w3 h3
    have M3 := M2.put 0 rfl h3
    refine ⟨4, rfl, by omega, ?_⟩
    refine ⟨_, M3.cell 0 (i := 4) rfl rfl, ?_⟩
    refine ⟨p.cells, rfl, M3.rd 1 rfl, ?_⟩
    refine (view4_spec p w3).mono ?_
    rintro v w4 ⟨rfl, e4⟩
    exact ⟨rfl, M3.ext.trans e4⟩
  · refine callsV_of C_ok (args := [_, _]) (plans := plans124) Tryz.func124 rfl Tryz.ntmps124 (by kernel_rfl) (Nat.le_of_ble_eq_true rfl) ?_
    intro g3 w1 h1
    have M1 : Mem w w1 [(g3, .cells p.cells.toArray 38 (0, 0))] := (Mem.start w).alloc h1
    intro g5 w2 h2
    have M2 := M1.alloc h2
    refine ⟨rfl, _, _, M2.get 0 rfl, Nat.le_of_ble_eq_true rfl, rfl, ?_⟩
    intro w3 h3
    have M3 := M2.put 0 rfl h3
    refine ⟨5, rfl, by omega, ?_⟩
    refine ⟨_, M3.cell 0 (i := 5) rfl rfl, ?_⟩
    refine ⟨p.cells, rfl, M3.rd 1 rfl, ?_⟩
    refine (view5_spec p w3).mono ?_
    rintro v w4 ⟨rfl, e4⟩
    exact ⟨rfl, M3.ext.trans e4⟩
  · refine callsV_of C_ok (args := [_, _]) (plans := plans124) Tryz.func124 rfl Tryz.ntmps124 (by kernel_rfl) (Nat.le_of_ble_eq_true rfl) ?_
    intro g3 w1 h1
    have M1 : Mem w w1 [(g3, .cells p.cells.toArray 38 (0, 0))] := (Mem.start w).alloc h1
    intro g5 w2 h2
    have M2 := M1.alloc h2
    refine ⟨rfl, _, _, M2.get 0 rfl, Nat.le_of_ble_eq_true rfl, rfl, ?_⟩
    intro w3 h3
    have M3 := M2.put 0 rfl h3
    refine ⟨6, rfl, by omega, ?_⟩
    refine ⟨_, M3.cell 0 (i := 6) rfl rfl, ?_⟩
    refine ⟨p.cells, rfl, M3.rd 1 rfl, ?_⟩
    refine (view6_spec p w3).mono ?_
    rintro v w4 ⟨rfl, e4⟩
    exact ⟨rfl, M3.ext.trans e4⟩
  · refine callsV_of C_ok (args := [_, _]) (plans := plans124) Tryz.func124 rfl Tryz.ntmps124 (by kernel_rfl) (Nat.le_of_ble_eq_true rfl) ?_
    intro g3 w1 h1
    have M1 : Mem w w1 [(g3, .cells p.cells.toArray 38 (0, 0))] := (Mem.start w).alloc h1
    intro g5 w2 h2
    have M2 := M1.alloc h2
    refine ⟨rfl, _, _, M2.get 0 rfl, Nat.le_of_ble_eq_true rfl, rfl, ?_⟩
    intro w3 h3
    have M3 := M2.put 0 rfl h3
    refine ⟨7, rfl, by omega, ?_⟩
    refine ⟨_, M3.cell 0 (i := 7) rfl rfl, ?_⟩
    refine ⟨p.cells, rfl, M3.rd 1 rfl, ?_⟩
    refine (view7_spec p w3).mono ?_
    rintro v w4 ⟨rfl, e4⟩
    exact ⟨rfl, M3.ext.trans e4⟩
def Prof.Ok (p : Prof) : Prop := ((1 ≤ p.cls ∧ p.cls ≤ 5) ∧ (0 ≤ p.visit ∧ p.visit ≤ 2)) ∧ (0 ≤ p.cred ∧ p.cred ≤ 100001) ∧ (0 ≤ p.letter ∧ p.letter ≤ 200)
instance instProfOk (p : Prof) : Decidable p.Ok := by unfold Prof.Ok; infer_instance
def profE (p : Prof) : Int := if p.Ok then 0 else 1
theorem profE_no {p : Prof} (h : ¬ p.Ok) : (1 : Int) = profE p := (if_neg h).symm
theorem CheckProfile_spec (p : Prof) (w : World) : CallsV C.P 113 #[p.val] w fun v w' => v = .int .i64 (profE p) ∧ Ext w w' := by
  refine callsV_of C_ok (args := [_]) (plans := []) Tryz.func113 rfl Tryz.ntmps113 (by kernel_rfl) (Nat.le_of_ble_eq_true rfl) ?_
  intro g w1 h1
  refine ⟨_, cell_of_block (i := 0) h1.here rfl, ?_⟩
  refine brE_dec (fun c0 => ?_) (fun c0 => ?_)
  · have c0 : p.cls < 1 := c0
    exact ⟨congrArg (Value.int .i64) (profE_no fun h => by unfold Prof.Ok at h; omega), h1.ext⟩
  have c0 : ¬ p.cls < 1 := c0
  refine ⟨_, cell_of_block (i := 0) h1.here rfl, ?_⟩
  refine brE_dec (fun c1 => ?_) (fun c1 => ?_)
  · have c1 : p.cls > 5 := c1
    exact ⟨congrArg (Value.int .i64) (profE_no fun h => by unfold Prof.Ok at h; omega), h1.ext⟩
  have c1 : ¬ p.cls > 5 := c1
  refine ⟨_, cell_of_block (i := 1) h1.here rfl, ?_⟩
  refine brE_dec (fun c2 => ?_) (fun c2 => ?_)
  · have c2 : p.visit < 0 := c2
    exact ⟨congrArg (Value.int .i64) (profE_no fun h => by unfold Prof.Ok at h; omega), h1.ext⟩
  have c2 : ¬ p.visit < 0 := c2
  refine ⟨_, cell_of_block (i := 1) h1.here rfl, ?_⟩
  refine brE_dec (fun c3 => ?_) (fun c3 => ?_)
  · have c3 : p.visit > 2 := c3
    exact ⟨congrArg (Value.int .i64) (profE_no fun h => by unfold Prof.Ok at h; omega), h1.ext⟩
  have c3 : ¬ p.visit > 2 := c3
  refine ⟨_, cell_of_block (i := 5) h1.here rfl, ?_⟩
  refine brE_dec (fun c4 => ?_) (fun c4 => ?_)
  · have c4 : p.cred < 0 := c4
    exact ⟨congrArg (Value.int .i64) (profE_no fun h => by unfold Prof.Ok at h; omega), h1.ext⟩
  have c4 : ¬ p.cred < 0 := c4
  refine ⟨_, cell_of_block (i := 5) h1.here rfl, ?_⟩
  refine brE_dec (fun c5 => ?_) (fun c5 => ?_)
  · have c5 : p.cred > 100001 := c5
    exact ⟨congrArg (Value.int .i64) (profE_no fun h => by unfold Prof.Ok at h; omega), h1.ext⟩
  have c5 : ¬ p.cred > 100001 := c5
  refine ⟨_, cell_of_block (i := 6) h1.here rfl, ?_⟩
  refine brE_dec (fun c6 => ?_) (fun c6 => ?_)
  · have c6 : p.letter < 0 := c6
    exact ⟨congrArg (Value.int .i64) (profE_no fun h => by unfold Prof.Ok at h; omega), h1.ext⟩
  have c6 : ¬ p.letter < 0 := c6
  refine ⟨_, cell_of_block (i := 6) h1.here rfl, ?_⟩
  refine brE_dec (fun c7 => ?_) (fun c7 => ?_)
  · have c7 : p.letter > 200 := c7
    exact ⟨congrArg (Value.int .i64) (profE_no fun h => by unfold Prof.Ok at h; omega), h1.ext⟩
  have c7 : ¬ p.letter > 200 := c7
  exact ⟨congrArg (Value.int .i64) (Eq.symm (if_pos (by unfold Prof.Ok; omega))), h1.ext⟩
end Go.Proofs.YtdpdjcopkehdjaaGreat.Rk
namespace Go.Proofs.YtdpdjcopkehdjaaGreat.Rk
open Go.Eng Go.RowKit
mutual
def cntT : Tst → Nat
  | .mk _ _ _ _ _ _ of => 1 + cntL of
def cntL : List Tst → Nat
  | [] => 0
  | x :: r => cntT x + cntL r
end
mutual
def depT : Tst → Nat
  | .mk _ _ _ _ _ _ of => 1 + depL of
def depL : List Tst → Nat
  | [] => 0
  | x :: r => max (depT x) (depL r)
end
theorem cntT_eq (t : Tst) : cntT t = 1 + cntL t.of := by cases t; rfl
theorem depT_eq (t : Tst) : depT t = 1 + depL t.of := by cases t; rfl
theorem cntL_append : ∀ (a b : List Tst), cntL (a ++ b) = cntL a + cntL b
  | [], b => by simp [cntL]
  | x :: r, b => by simp only [List.cons_append, cntL, cntL_append r b]; omega
theorem depL_append : ∀ (a b : List Tst), depL (a ++ b) = max (depL a) (depL b)
  | [], b => by simp [depL]
  | x :: r, b => by simp only [List.cons_append, depL, depL_append r b]; omega
theorem cntL_take {l : List Tst} {i : Nat} (h : i < l.length) : cntL (l.take (i + 1)) = cntL (l.take i) + cntT l[i] := by
  rw [List.take_succ_eq_append_getElem h, cntL_append]; simp [cntL]
theorem depL_take {l : List Tst} {i : Nat} (h : i < l.length) : depL (l.take (i + 1)) = max (depL (l.take i)) (depT l[i]) := by
  rw [List.take_succ_eq_append_getElem h, depL_append]; simp [depL]
theorem cntL_part (l : List Tst) (i : Nat) : cntL (l.take i) ≤ cntL l := by
  have h := cntL_append (l.take i) (l.drop i)
  rw [List.take_append_drop] at h; omega
theorem depL_part (l : List Tst) (i : Nat) : depL (l.take i) ≤ depL l := by
  have h := depL_append (l.take i) (l.drop i)
  rw [List.take_append_drop] at h; omega
theorem depT_pos (t : Tst) : 1 ≤ depT t := by rw [depT_eq]; omega
def fitsP (t : Tst) : Prop := cntT t ≤ 24 ∧ depT t ≤ 6
instance (t : Tst) : Decidable (fitsP t) := by unfold fitsP; infer_instance
def sizeF (g4 g5 g6 : Nat) : Value := .func (.func 254) #[] #[.pointer (some ⟨g4, 0, none⟩), .pointer (some ⟨g5, 0, none⟩), .pointer (some ⟨g6, 0, none⟩)]
def intB (n : Nat) : Obj := .cells #[.int .i64 (n : Nat)] 3 (0, 0)
set_option maxRecDepth 100000 in
set_option maxHeartbeats 2000000 in
theorem walk_spec {w0 : World} {t : Tst} (h : TestIs w0 t) : ∀ {w : World} {g4 g5 g6 n d at' : Nat}, Mem w0 w [(g6, .cells #[sizeF g4 g5 g6] 272 (0, 0)), (g5, intB d), (g4, intB n)] → n ≤ 24 → d ≤ 6 → at' ≤ 7 →
    CallsV C.P 254 #[t.val, .int .i64 (at' : Nat), .pointer (some ⟨g4, 0, none⟩), .pointer (some ⟨g5, 0, none⟩), .pointer (some ⟨g6, 0, none⟩)] w fun v w' => ∃ n' d' : Nat, Mem w0 w' [(g6, .cells #[sizeF g4 g5 g6] 272 (0, 0)), (g5, intB d'), (g4, intB n')] ∧
      ((v = .bool true ∧ n' = n + cntT t ∧ d' = max d (at' + depT t - 1) ∧ n' ≤ 24 ∧ d' ≤ 6) ∨ (v = .bool false ∧ (24 < n + cntT t ∨ 6 < max d (at' + depT t - 1)))) := by
  induction h with
  | @mk t hn hr hc hl hk ih =>
  intro w g4 g5 g6 n d at' M hn1 hd1 hat
  refine callsV_of C_ok (args := [_, _, _, _, _]) (plans := []) Tryz.func254 rfl Tryz.ntmps254 (by kernel_rfl) (Nat.le_of_ble_eq_true rfl) ?_
  intro gt w1 h1
  have M1 := M.alloc h1
  have ec := cntT_eq t
  have ed := depT_eq t
  refine ⟨_, M1.cell 3 rfl rfl, ?_⟩
  refine ⟨((n + 1 : Nat) : Int), fit ⟨by omega, by omega⟩, ?_⟩
  refine ⟨rfl, _, _, M1.get 3 rfl, Nat.le_of_ble_eq_true rfl, rfl, ?_⟩
  intro w2 h2
  have M2 : Mem w0 w2 [(gt, .cells t.cells.toArray 70 (0, 0)), (g6, .cells #[sizeF g4 g5 g6] 272 (0, 0)), (g5, intB d), (g4, intB (n + 1))] := M1.put 3 rfl h2
  refine ⟨_, M2.cell 2 rfl rfl, ?_⟩
  have hmx : (if ((at' : Nat) : Int) > ((d : Nat) : Int) then ((at' : Nat) : Int) else ((d : Nat) : Int)) = ((max d at' : Nat) : Int) := by split <;> omega
  refine ⟨_, maxQ' hmx rfl rfl rfl, ?_⟩
  refine ⟨rfl, _, _, M2.get 2 rfl, Nat.le_of_ble_eq_true rfl, rfl, ?_⟩
  intro w3 h3
  have M3 : Mem w0 w3 [(gt, .cells t.cells.toArray 70 (0, 0)), (g6, .cells #[sizeF g4 g5 g6] 272 (0, 0)), (g5, intB (max d at')), (g4, intB (n + 1))] := M2.put 2 rfl h3
  clear M M1 M2 h1 h2 h3
  refine ⟨_, M3.cell 3 rfl rfl, ?_⟩
  refine brE_dec (fun c1 => ?_) (fun c1 => ?_)
  · have c1 : ((n + 1 : Nat) : Int) > 24 := c1
    exact ⟨_, _, M3.tail, .inr ⟨rfl, .inl (by omega)⟩⟩
  have c1 : ¬ ((n + 1 : Nat) : Int) > 24 := c1
  refine ⟨_, M3.cell 2 rfl rfl, ?_⟩
  refine brE_dec (fun c2 => ?_) (fun c2 => ?_)
  · have c2 : ((max d at' : Nat) : Int) > 6 := c2
    exact ⟨_, _, M3.tail, .inr ⟨rfl, .inr (by omega)⟩⟩
  have c2 : ¬ ((max d at' : Nat) : Int) > 6 := c2
  refine ⟨_, M3.cell 0 (i := 4) rfl rfl, ?_⟩
  refine loopE C_ok (fun (s : Nat × Nat × Nat) => [(1, .int .i64 (at' : Nat)), (4, .pointer (some ⟨g6, 0, none⟩)), (22, .slice t.A t.of.length t.c), (23, .int .i64 t.of.length), (24, .int .i64 (s.1 : Nat))])
    (fun s w' => s.1 ≤ t.of.length ∧ Mem w0 w' [(g6, .cells #[sizeF g4 g5 g6] 272 (0, 0)), (g5, intB s.2.2), (g4, intB s.2.1)] ∧ s.2.1 = n + 1 + cntL (t.of.take s.1) ∧ s.2.2 = max (max d at') (at' + depL (t.of.take s.1)) ∧ s.2.1 ≤ 24 ∧ s.2.2 ≤ 6)
    (fun s => t.of.length - s.1) (0, n + 1, max d at') ⟨rfl, rfl, rfl, rfl, rfl, trivial⟩ ⟨Nat.zero_le _, M3.tail, by simp [cntL], by simp [depL], by show n + 1 ≤ 24; omega, by show max d at' ≤ 6; omega⟩ ?_
  rintro ⟨i, ni, di⟩ w4 ⟨hi', M', en', ed', hn2', hd2'⟩
  have hi : i ≤ t.of.length := hi'
  have M : Mem w0 w4 [(g6, .cells #[sizeF g4 g5 g6] 272 (0, 0)), (g5, intB di), (g4, intB ni)] := M'
  have en : ni = n + 1 + cntL (t.of.take i) := en'
  have edd : di = max (max d at') (at' + depL (t.of.take i)) := ed'
  have hn2 : ni ≤ 24 := hn2'
  have hd2 : di ≤ 6 := hd2'
  clear hi' M' en' ed' hn2' hd2'
  refine brE_dec (fun hlt => ?_) (fun hge => ?_)
  · have hlti : i < t.of.length := by have : (i : Int) < (t.of.length : Nat) := hlt; omega
    have next : IntKind.i64.wrap ((i : Int) + 1) = ((i + 1 : Nat) : Int) := fit ⟨by omega, by omega⟩
    obtain ⟨b, o, hA, hc5⟩ := Reads.elem Tst.len (by omega) (hr.ext M.ext) hlti
    obtain ⟨x, hx⟩ : ∃ x, x = t.of[i] := ⟨_, rfl⟩
    rw [← hx] at hc5
    have ct := cntL_take hlti
    have dt := depL_take hlti
    rw [← hx] at ct dt
    have cp := cntL_part t.of (i + 1)
    have dp := depL_part t.of (i + 1)
    have px := depT_pos x
    refine ⟨i, b, o, rfl, hlti, hA, ?_⟩
    refine ⟨x.cells, rfl, hc5, ?_⟩
    intro g9 w5 h5
    have M5 := M.alloc h5
    refine ⟨rfl, _, _, M5.get 0 rfl, Nat.le_of_ble_eq_true rfl, rfl, ?_⟩
    intro w6 h6
    have M6 : Mem w0 w6 [(g9, .cells x.cells.toArray 70 (0, 0)), (g6, .cells #[sizeF g4 g5 g6] 272 (0, 0)), (g5, intB di), (g4, intB ni)] := M5.put 0 rfl h6
    refine ⟨_, M6.cell 1 rfl rfl, ?_⟩
    refine ⟨x.cells, rfl, M6.rd 0 rfl, ?_⟩
    refine ⟨((at' + 1 : Nat) : Int), fit ⟨by omega, by omega⟩, ?_⟩
    refine (ih x (by rw [hx]; exact List.getElem_mem hlti) M6.tail hn2 hd2 (by omega)).mono ?_
    rintro v w7 ⟨n', d', M7, ⟨rfl, e1, e2, k1, k2⟩ | ⟨rfl, hbad⟩⟩
    · refine ⟨_, next, ?_⟩
      refine ⟨(i + 1, n', d'), ⟨rfl, rfl, rfl, rfl, rfl, trivial⟩, ⟨hlti, M7, by show n' = n + 1 + cntL (t.of.take (i + 1)); omega, by show d' = max (max d at') (at' + depL (t.of.take (i + 1))); omega, k1, k2⟩, by show t.of.length - (i + 1) < t.of.length - i; omega⟩
    · refine ⟨_, _, M7, .inr ⟨rfl, ?_⟩⟩
      rcases hbad with hb | hb
      · exact .inl (by omega)
      · exact .inr (by omega)
  · have hie : i = t.of.length := by have : ¬ (i : Int) < (t.of.length : Nat) := hge; omega
    rw [hie, List.take_length] at en edd
    exact ⟨_, _, M, .inl ⟨rfl, by omega, by omega, hn2, hd2⟩⟩
set_option maxRecDepth 100000 in
theorem fits_spec {w : World} {t : Tst} (h : TestIs w t) : CallsV C.P 133 #[t.val] w fun v w' => v = .bool (decide (fitsP t)) ∧ Ext w w' := by
  refine callsV_of C_ok (args := [_]) (plans := []) Tryz.func133 rfl Tryz.ntmps133 (by kernel_rfl) (Nat.le_of_ble_eq_true rfl) ?_
  intro g1 w1 h1
  refine ⟨t.cells, rfl, Rd.of_block h1.here, ?_⟩
  have hS : CallsV C.P 199 #[t.val] w1 fun v w' => (∃ n d : Int, v = .tuple #[.int .i64 n, .int .i64 d] ∧ (n ≤ 24 ↔ fitsP t)) ∧ Ext w1 w' := by
    refine callsV_of C_ok (args := [_]) (plans := plans199) Tryz.func199 rfl Tryz.ntmps199 (by kernel_rfl) (Nat.le_of_ble_eq_true rfl) ?_
    intro gb w2 h2
    have M2 := (Mem.start w1).alloc h2
    intro g4 w3 h3
    have M3 := M2.alloc h3
    intro g5 w4 h4
    have M4 := M3.alloc h4
    refine ⟨rfl, _, _, M4.get 1 rfl, Nat.le_of_ble_eq_true rfl, rfl, ?_⟩
    intro w5 h5
    have M5 := M4.put 1 rfl h5
    refine ⟨rfl, _, _, M5.get 0 rfl, Nat.le_of_ble_eq_true rfl, rfl, ?_⟩
    intro w6 h6
    have M6 : Mem w1 w6 [(g5, intB 0), (g4, intB 0), (gb, .cells t.cells.toArray 70 (0, 0))] := M5.put 0 rfl h6
    intro g6 w7 h7
    have M7 := M6.alloc h7
    refine ⟨[], [.pointer (some ⟨g4, 0, none⟩), .pointer (some ⟨g5, 0, none⟩), .pointer (some ⟨g6, 0, none⟩)], rfl, rfl, ?_⟩
    refine ⟨rfl, _, _, M7.get 0 rfl, Nat.le_of_ble_eq_true rfl, rfl, ?_⟩
    intro w8 h8
    have M8 : Mem w1 w8 [(g6, .cells #[sizeF g4 g5 g6] 272 (0, 0)), (g5, intB 0), (g4, intB 0), (gb, .cells t.cells.toArray 70 (0, 0))] := M7.put 0 rfl h8
    have M9 : Mem w1 w8 [(g6, .cells #[sizeF g4 g5 g6] 272 (0, 0)), (g5, intB 0), (g4, intB 0)] := M8.sub (by simp)
    refine ⟨_, M8.cell 0 rfl rfl, ?_⟩
    refine ⟨t.cells, rfl, M8.rd 3 rfl, ?_⟩
    refine (walk_spec (n := 0) (d := 0) (at' := 1) (h.ext h1.ext) M9 (by omega) (by omega) (by omega)).mono ?_
    rintro v w9 ⟨n', d', M10, ⟨rfl, e1, e2, k1, k2⟩ | ⟨rfl, hbad⟩⟩
    · refine ⟨_, M10.cell 2 rfl rfl, ?_⟩
      refine ⟨_, M10.cell 1 rfl rfl, ?_⟩
      exact ⟨⟨_, _, rfl, ⟨fun _ => ⟨by omega, by omega⟩, fun _ => by omega⟩⟩, M10.ext⟩
    · refine ⟨⟨_, _, rfl, ⟨fun hh => absurd hh (by decide), fun hh => ?_⟩⟩, M10.ext⟩
      have h1 := hh.1
      have h2 := hh.2
      omega
  refine hS.mono ?_
  rintro v w2 ⟨⟨n, d, rfl, hn⟩, e⟩
  exact ⟨congrArg Value.bool (decide_eq_decide.2 hn), h1.ext.trans e⟩
end Go.Proofs.YtdpdjcopkehdjaaGreat.Rk
namespace Go.Proofs.YtdpdjcopkehdjaaGreat.Rk
open Go.Eng Go.RowKit
def sideB (s : Int) : Bool := decide (s = 1 ∨ s = 2)
def nodeK (op k attr side n : Int) (r : Bool) (len : Nat) : Bool :=
  if op = 1 then decide (len = 0 ∧ attr = 0 ∧ side = 0 ∧ n = 0)
  else if op = 2 ∨ op = 3 then decide (len = 0 ∧ (k = 1 ∨ k = 3) ∧ side = 0 ∧ n = 0)
  else if op = 4 then decide (len = 0 ∧ k ≠ 0 ∧ side = 0 ∧ n = 0)
  else if op = 5 then decide (len = 0 ∧ (k = 1 ∨ k = 2) ∧ sideB side = true ∧ r = true)
  else if op = 6 then decide (len = 0 ∧ k = 1 ∧ sideB side = true ∧ r = true)
  else if op = 7 then decide (len = 1 ∧ attr = 0 ∧ side = 0 ∧ n = 0)
  else if op = 8 ∨ op = 9 then decide (2 ≤ len ∧ attr = 0 ∧ side = 0 ∧ n = 0)
  else false
def nodeB (t : Tst) : Bool := nodeK t.op (kindZ t.attr) t.attr t.side t.n (rangeB t.attr t.n) t.of.length
mutual
def shapedT : Tst → Bool
  | .mk op attr side n A c of => nodeB (.mk op attr side n A c of) && shapedL of
def shapedL : List Tst → Bool
  | [] => true
  | x :: r => shapedT x && shapedL r
end
theorem shapedT_eq (t : Tst) : shapedT t = (nodeB t && shapedL t.of) := by cases t; rfl
theorem shapedL_all : ∀ (l : List Tst), shapedL l = l.all shapedT
  | [] => rfl
  | x :: r => by rw [shapedL, shapedL_all r]; rfl
theorem last4 {A1 A2 A3 : Prop} [Decidable A1] [Decidable A2] [Decidable A3] {b : Bool} (h1 : A1) (h2 : A2) (h3 : A3) : b = decide (A1 ∧ A2 ∧ A3 ∧ b = true) := by
  cases b
  · exact (decide_eq_false fun h => by cases h.2.2.2).symm
  · exact (decide_eq_true ⟨h1, h2, h3, rfl⟩).symm
section
variable {k attr side n : Int} {r : Bool} {len : Nat}
theorem node1 : nodeK 1 k attr side n r len = decide (len = 0 ∧ attr = 0 ∧ side = 0 ∧ n = 0) := rfl
theorem node2 : nodeK 2 k attr side n r len = decide (len = 0 ∧ (k = 1 ∨ k = 3) ∧ side = 0 ∧ n = 0) := rfl
theorem node3 : nodeK 3 k attr side n r len = decide (len = 0 ∧ (k = 1 ∨ k = 3) ∧ side = 0 ∧ n = 0) := rfl
theorem node4 : nodeK 4 k attr side n r len = decide (len = 0 ∧ k ≠ 0 ∧ side = 0 ∧ n = 0) := rfl
theorem node5 : nodeK 5 k attr side n r len = decide (len = 0 ∧ (k = 1 ∨ k = 2) ∧ sideB side = true ∧ r = true) := rfl
theorem node6 : nodeK 6 k attr side n r len = decide (len = 0 ∧ k = 1 ∧ sideB side = true ∧ r = true) := rfl
theorem node7 : nodeK 7 k attr side n r len = decide (len = 1 ∧ attr = 0 ∧ side = 0 ∧ n = 0) := rfl
theorem node8 : nodeK 8 k attr side n r len = decide (2 ≤ len ∧ attr = 0 ∧ side = 0 ∧ n = 0) := rfl
theorem node9 : nodeK 9 k attr side n r len = decide (2 ≤ len ∧ attr = 0 ∧ side = 0 ∧ n = 0) := rfl
end
theorem node_off {op k attr side n : Int} {r : Bool} {len : Nat} (h1 : ¬ op = 1) (h2 : ¬ op = 2) (h3 : ¬ op = 3) (h4 : ¬ op = 4) (h5 : ¬ op = 5) (h6 : ¬ op = 6) (h7 : ¬ op = 7) (h8 : ¬ op = 8) (h9 : ¬ op = 9) : nodeK op k attr side n r len = false := by
  unfold nodeK
  rw [if_neg h1, if_neg (by omega), if_neg h4, if_neg h5, if_neg h6, if_neg h7, if_neg (by omega)]
theorem index_unshaped {w0 : World} {of : List Tst} {A : Option Addr} {c : Nat} (hr : Reads w0 A (of.flatMap Tst.cells)) (hl : of.length ≤ 9223372036854775807)
    (ih : ∀ x ∈ of, ∀ {w : World}, Ext w0 w → CallsV C.P 134 #[x.val] w fun v w' => v = .bool (shapedT x) ∧ Ext w w') {w : World} (e0 : Ext w0 w) :
    CallsV C.P 202 #[.slice A of.length c, .func (.func 203) #[] #[]] w fun v w' => v = .bool (!shapedL of) ∧ Ext w w' := by
  refine callsV_of C_ok (args := [_, _]) (plans := []) Tryz.func202 rfl Tryz.ntmps202 (by kernel_rfl) (Nat.le_of_ble_eq_true rfl) ?_
  have hI : CallsV C.P 255 #[.slice A of.length c, .func (.func 203) #[] #[]] w fun v w' => (∃ z : Int, v = .int .i64 z ∧ (z ≥ 0 ↔ ¬ shapedL of = true)) ∧ Ext w w' := by
    refine callsV_of C_ok (args := [_, _]) (plans := []) Tryz.func255 rfl Tryz.ntmps255 (by kernel_rfl) (Nat.le_of_ble_eq_true rfl) ?_
    refine loopE C_ok (fun (i : Nat) => [(0, .slice A of.length c), (1, .func (.func 203) #[] #[]), (7, .int .i64 of.length), (8, .int .i64 (i : Nat))])
      (fun i w' => i ≤ of.length ∧ Ext w w' ∧ (of.take i).all shapedT = true) (fun i => of.length - i) 0 ⟨rfl, rfl, rfl, rfl, trivial⟩ ⟨Nat.zero_le _, Ext.refl _, rfl⟩ ?_
    rintro i w1 ⟨hi, e1, hall⟩
    refine brE_dec (fun hlt => ?_) (fun hge => ?_)
    · have hlti : i < of.length := by have : (i : Int) < (of.length : Nat) := hlt; omega
      have next : IntKind.i64.wrap ((i : Int) + 1) = ((i + 1 : Nat) : Int) := fit ⟨by omega, by omega⟩
      obtain ⟨b, o, hA, hc5⟩ := Reads.elem Tst.len (by omega) (hr.ext (e0.trans e1)) hlti
      obtain ⟨x, hx⟩ : ∃ x, x = of[i] := ⟨_, rfl⟩
      have hxm : x ∈ of := by rw [hx]; exact List.getElem_mem hlti
      have hst : (of.take (i + 1)).all shapedT = ((of.take i).all shapedT && shapedT x) := by rw [List.take_succ_eq_append_getElem hlti, List.all_append, ← hx]; simp
      rw [← hx] at hc5
      refine ⟨i, b, o, rfl, hlti, hA, ?_⟩
      refine ⟨x.cells, rfl, hc5, ?_⟩
      have hS : CallsV C.P 203 #[x.val] w1 fun v w' => v = .bool (!shapedT x) ∧ Ext w1 w' := by
        refine callsV_of C_ok (args := [_]) (plans := []) Tryz.func203 rfl Tryz.ntmps203 (by kernel_rfl) (Nat.le_of_ble_eq_true rfl) ?_
        intro g w2 h2
        refine ⟨x.cells, rfl, Rd.of_block h2.here, ?_⟩
        refine (ih x hxm ((e0.trans e1).trans h2.ext)).mono ?_
        rintro v w3 ⟨rfl, e3⟩
        exact ⟨rfl, h2.ext.trans e3⟩
      refine hS.mono ?_
      rintro v w2 ⟨rfl, e2⟩
      refine brE_mk (fun hb => ?_) (fun hb => ?_)
      · have hb : shapedT x = false := by simpa using hb
        refine ⟨⟨(i : Nat), rfl, ⟨fun _ hh => ?_, fun _ => Int.natCast_nonneg _⟩⟩, e1.trans e2⟩
        rw [shapedL_all, List.all_eq_true] at hh
        rw [hh x hxm] at hb
        cases hb
      · have hb : shapedT x = true := by simpa using hb
        refine ⟨_, next, ?_⟩
        exact ⟨i + 1, ⟨rfl, rfl, rfl, rfl, trivial⟩, ⟨hlti, e1.trans e2, by rw [hst, hall, hb]; rfl⟩, by show of.length - (i + 1) < of.length - i; omega⟩
    · have hie : i = of.length := by have : ¬ (i : Int) < (of.length : Nat) := hge; omega
      rw [hie, List.take_length] at hall
      exact ⟨⟨-1, rfl, ⟨fun h => absurd h (by decide), fun h => absurd (by rw [shapedL_all]; exact hall) h⟩⟩, e1⟩
  refine hI.mono ?_
  rintro v w' ⟨⟨z, rfl, hz⟩, e⟩
  refine ⟨congrArg Value.bool ?_, e⟩
  cases hs : shapedL of with
  | true => exact decide_eq_false fun h => hz.1 h hs
  | false => exact decide_eq_true (hz.2 (by rw [hs]; decide))
set_option maxRecDepth 100000 in
set_option maxHeartbeats 8000000 in
theorem shaped_spec {w0 : World} {t : Tst} (h : TestIs w0 t) : ∀ {w : World}, Ext w0 w → CallsV C.P 134 #[t.val] w fun v w' => v = .bool (shapedT t) ∧ Ext w w' := by
  induction h with
  | @mk t hn hr hc hl hk ih =>
  intro w e0
  obtain ⟨op, attr, side, n, A, c, of⟩ := t
  rw [shapedT_eq]
  obtain ⟨kd, hkd⟩ : ∃ kd, kd = kindZ attr := ⟨_, rfl⟩
  obtain ⟨nb, hnb⟩ : ∃ nb, nb = nodeB (.mk op attr side n A c of) := ⟨_, rfl⟩
  rw [← hnb]
  have hnb2 : nodeK op kd attr side n (rangeB attr n) of.length = nb := by rw [hkd]; exact hnb.symm
  have hl : of.length ≤ 9223372036854775807 := hl
  clear hnb hn
  refine callsV_ofS (args := [_]) Tryz.func134 rfl Tryz.ntmps134 C_ok (Nat.le_of_ble_eq_true rfl) ?_
  refine Snd.go C_ok [] (by kernel_rfl) ?_
  intro g1 w1 h1
  have HB : ∀ {i : Nat} {v : Value}, (Tst.mk op attr side n A c of).cells.toArray[i]? = some v → w1.cell? ⟨g1, i, none⟩ = some v := fun hv => cell_of_block h1.here hv
  have E1 : Ext w w1 := h1.ext
  clear h1
  refine ⟨Snd.go C_ok [] (by kernel_rfl) ?_⟩
  refine ⟨_, HB (i := 1) rfl, ?_⟩
  have X := kindOf_spec attr w1
  rw [← hkd] at X
  refine X.mono ?_
  clear X
  rintro v w1 ⟨rfl, rfl⟩
  refine ⟨Snd.go C_ok [] (by kernel_rfl) ?_⟩
  refine ⟨_, HB (i := 4) rfl, ?_⟩
  refine ⟨Snd.join C_ok [] (fun _ : Unit => [(1, .pointer (some ⟨g1, 0, none⟩)), (3, .int .i64 kd), (4, .bool (decide (((of.length : Nat) : Int) = 0))), (5, .bool (sideB side))]) (fun _ w' => w' = w1) (by kernel_rfl) ?_ ?_⟩
  · refine ⟨_, HB (i := 2) rfl, ?_⟩
    refine brE_dec (fun s1 => ?_) (fun s1 => ?_)
    · have s1 : side = 1 := s1
      exact ⟨(), ⟨rfl, rfl, rfl, congrArg (fun x => some (Value.bool x)) (decide_eq_true (.inl s1)).symm, trivial⟩, rfl⟩
    · have s1 : ¬ side = 1 := s1
      refine ⟨_, HB (i := 2) rfl, ?_⟩
      exact ⟨(), ⟨rfl, rfl, rfl, congrArg (fun x => some (Value.bool x)) (decide_eq_decide.2 ⟨fun x => .inr x, fun h => h.resolve_left s1⟩), trivial⟩, rfl⟩
  rintro _ w1 rfl
  refine Snd.go C_ok [] (by kernel_rfl) ?_
  refine ⟨Snd.join C_ok [] (fun _ : Unit => [(1, .pointer (some ⟨g1, 0, none⟩)), (6, .bool nb)]) (fun _ w' => w' = w1) (by kernel_rfl) ?_ ?_⟩
  · refine ⟨_, HB (i := 0) rfl, ?_⟩
    refine brE_dec (fun o1 => ?_) (fun o1 => ?_)
    · have o1 : op = 1 := o1
      subst o1
      refine brE_dec (fun l0 => ?_) (fun l0 => ?_)
      · have l0 : of.length = 0 := by have l0 : ((of.length : Nat) : Int) = 0 := l0; omega
        refine ⟨_, HB (i := 1) rfl, ?_⟩
        refine brE_dec (fun a0 => ?_) (fun a0 => ?_)
        · have a0 : attr = 0 := a0
          refine ⟨_, HB (i := 2) rfl, ?_⟩
          refine brE_dec (fun s0 => ?_) (fun s0 => ?_)
          · have s0 : side = 0 := s0
            refine ⟨_, HB (i := 3) rfl, ?_⟩
            exact ⟨(), ⟨rfl, congrArg (fun x => some (Value.bool x)) (((decide_eq_decide.2 ⟨fun x => ⟨l0, a0, s0, x⟩, fun h => h.2.2.2⟩).trans node1.symm).trans hnb2), trivial⟩, rfl⟩
          · have s0 : ¬ (side = 0) := s0
            exact ⟨(), ⟨rfl, congrArg (fun x => some (Value.bool x)) (((node1.trans (decide_eq_false fun h => s0 h.2.2.1)).symm).trans hnb2), trivial⟩, rfl⟩
        · have a0 : ¬ (attr = 0) := a0
          exact ⟨(), ⟨rfl, congrArg (fun x => some (Value.bool x)) (((node1.trans (decide_eq_false fun h => a0 h.2.1)).symm).trans hnb2), trivial⟩, rfl⟩
      · have l0 : ¬ (of.length = 0) := by have l0 : ¬ ((of.length : Nat) : Int) = 0 := l0; omega
        exact ⟨(), ⟨rfl, congrArg (fun x => some (Value.bool x)) (((node1.trans (decide_eq_false fun h => l0 h.1)).symm).trans hnb2), trivial⟩, rfl⟩
    have o1 : ¬ op = 1 := o1
    refine brE_dec (fun o2 => ?_) (fun o2 => ?_)
    · have o2 : op = 2 := o2
      refine brE_true (decide_eq_true o2) ?_
      subst o2
      refine brE_dec (fun l0 => ?_) (fun l0 => ?_)
      · have l0 : of.length = 0 := by have l0 : ((of.length : Nat) : Int) = 0 := l0; omega
        refine brE_dec (fun k1 => ?_) (fun k1 => ?_)
        · have k1 : kd = 1 := k1
          refine ⟨_, HB (i := 2) rfl, ?_⟩
          refine brE_dec (fun s0 => ?_) (fun s0 => ?_)
          · have s0 : side = 0 := s0
            refine ⟨_, HB (i := 3) rfl, ?_⟩
            exact ⟨(), ⟨rfl, congrArg (fun x => some (Value.bool x)) (((decide_eq_decide.2 ⟨fun x => ⟨l0, .inl k1, s0, x⟩, fun h => h.2.2.2⟩).trans node2.symm).trans hnb2), trivial⟩, rfl⟩
          · have s0 : ¬ (side = 0) := s0
            exact ⟨(), ⟨rfl, congrArg (fun x => some (Value.bool x)) (((node2.trans (decide_eq_false fun h => s0 h.2.2.1)).symm).trans hnb2), trivial⟩, rfl⟩
        · have k1 : ¬ (kd = 1) := k1
          refine brE_dec (fun k3 => ?_) (fun k3 => ?_)
          · have k3 : kd = 3 := k3
            refine ⟨_, HB (i := 2) rfl, ?_⟩
            refine brE_dec (fun s0 => ?_) (fun s0 => ?_)
            · have s0 : side = 0 := s0
              refine ⟨_, HB (i := 3) rfl, ?_⟩
              exact ⟨(), ⟨rfl, congrArg (fun x => some (Value.bool x)) (((decide_eq_decide.2 ⟨fun x => ⟨l0, .inr k3, s0, x⟩, fun h => h.2.2.2⟩).trans node2.symm).trans hnb2), trivial⟩, rfl⟩
            · have s0 : ¬ (side = 0) := s0
              exact ⟨(), ⟨rfl, congrArg (fun x => some (Value.bool x)) (((node2.trans (decide_eq_false fun h => s0 h.2.2.1)).symm).trans hnb2), trivial⟩, rfl⟩
          · have k3 : ¬ (kd = 3) := k3
            exact ⟨(), ⟨rfl, congrArg (fun x => some (Value.bool x)) (((node2.trans (decide_eq_false fun h => (fun e => e.elim k1 k3) h.2.1)).symm).trans hnb2), trivial⟩, rfl⟩
      · have l0 : ¬ (of.length = 0) := by have l0 : ¬ ((of.length : Nat) : Int) = 0 := l0; omega
        exact ⟨(), ⟨rfl, congrArg (fun x => some (Value.bool x)) (((node2.trans (decide_eq_false fun h => l0 h.1)).symm).trans hnb2), trivial⟩, rfl⟩
    have o2 : ¬ op = 2 := o2
    refine brE_dec (fun o3 => ?_) (fun o3 => ?_)
    · have o3 : op = 3 := o3
      subst o3
      refine brE_dec (fun l0 => ?_) (fun l0 => ?_)
      · have l0 : of.length = 0 := by have l0 : ((of.length : Nat) : Int) = 0 := l0; omega
        refine brE_dec (fun k1 => ?_) (fun k1 => ?_)
        · have k1 : kd = 1 := k1
          refine ⟨_, HB (i := 2) rfl, ?_⟩
          refine brE_dec (fun s0 => ?_) (fun s0 => ?_)
          · have s0 : side = 0 := s0
            refine ⟨_, HB (i := 3) rfl, ?_⟩
            exact ⟨(), ⟨rfl, congrArg (fun x => some (Value.bool x)) (((decide_eq_decide.2 ⟨fun x => ⟨l0, .inl k1, s0, x⟩, fun h => h.2.2.2⟩).trans node3.symm).trans hnb2), trivial⟩, rfl⟩
          · have s0 : ¬ (side = 0) := s0
            exact ⟨(), ⟨rfl, congrArg (fun x => some (Value.bool x)) (((node3.trans (decide_eq_false fun h => s0 h.2.2.1)).symm).trans hnb2), trivial⟩, rfl⟩
        · have k1 : ¬ (kd = 1) := k1
          refine brE_dec (fun k3 => ?_) (fun k3 => ?_)
          · have k3 : kd = 3 := k3
            refine ⟨_, HB (i := 2) rfl, ?_⟩
            refine brE_dec (fun s0 => ?_) (fun s0 => ?_)
            · have s0 : side = 0 := s0
              refine ⟨_, HB (i := 3) rfl, ?_⟩
              exact ⟨(), ⟨rfl, congrArg (fun x => some (Value.bool x)) (((decide_eq_decide.2 ⟨fun x => ⟨l0, .inr k3, s0, x⟩, fun h => h.2.2.2⟩).trans node3.symm).trans hnb2), trivial⟩, rfl⟩
            · have s0 : ¬ (side = 0) := s0
              exact ⟨(), ⟨rfl, congrArg (fun x => some (Value.bool x)) (((node3.trans (decide_eq_false fun h => s0 h.2.2.1)).symm).trans hnb2), trivial⟩, rfl⟩
          · have k3 : ¬ (kd = 3) := k3
            exact ⟨(), ⟨rfl, congrArg (fun x => some (Value.bool x)) (((node3.trans (decide_eq_false fun h => (fun e => e.elim k1 k3) h.2.1)).symm).trans hnb2), trivial⟩, rfl⟩
      · have l0 : ¬ (of.length = 0) := by have l0 : ¬ ((of.length : Nat) : Int) = 0 := l0; omega
        exact ⟨(), ⟨rfl, congrArg (fun x => some (Value.bool x)) (((node3.trans (decide_eq_false fun h => l0 h.1)).symm).trans hnb2), trivial⟩, rfl⟩
    have o3 : ¬ op = 3 := o3
    refine brE_dec (fun o4 => ?_) (fun o4 => ?_)
    · have o4 : op = 4 := o4
      subst o4
      refine brE_dec (fun l0 => ?_) (fun l0 => ?_)
      · have l0 : of.length = 0 := by have l0 : ((of.length : Nat) : Int) = 0 := l0; omega
        refine brE_ndec (fun k0 => ?_) (fun k0 => ?_)
        · have k0 : ¬ (kd = 0) := k0
          refine ⟨_, HB (i := 2) rfl, ?_⟩
          refine brE_dec (fun s0 => ?_) (fun s0 => ?_)
          · have s0 : side = 0 := s0
            refine ⟨_, HB (i := 3) rfl, ?_⟩
            exact ⟨(), ⟨rfl, congrArg (fun x => some (Value.bool x)) (((decide_eq_decide.2 ⟨fun x => ⟨l0, k0, s0, x⟩, fun h => h.2.2.2⟩).trans node4.symm).trans hnb2), trivial⟩, rfl⟩
          · have s0 : ¬ (side = 0) := s0
            exact ⟨(), ⟨rfl, congrArg (fun x => some (Value.bool x)) (((node4.trans (decide_eq_false fun h => s0 h.2.2.1)).symm).trans hnb2), trivial⟩, rfl⟩
        · have k0 : kd = 0 := k0
          exact ⟨(), ⟨rfl, congrArg (fun x => some (Value.bool x)) (((node4.trans (decide_eq_false fun h => (fun e => e k0) h.2.1)).symm).trans hnb2), trivial⟩, rfl⟩
      · have l0 : ¬ (of.length = 0) := by have l0 : ¬ ((of.length : Nat) : Int) = 0 := l0; omega
        exact ⟨(), ⟨rfl, congrArg (fun x => some (Value.bool x)) (((node4.trans (decide_eq_false fun h => l0 h.1)).symm).trans hnb2), trivial⟩, rfl⟩
    have o4 : ¬ op = 4 := o4
    refine brE_dec (fun o5 => ?_) (fun o5 => ?_)
    · have o5 : op = 5 := o5
      subst o5
      refine brE_dec (fun l0 => ?_) (fun l0 => ?_)
      · have l0 : of.length = 0 := by have l0 : ((of.length : Nat) : Int) = 0 := l0; omega
        refine brE_dec (fun k1 => ?_) (fun k1 => ?_)
        · have k1 : kd = 1 := k1
          refine brE_mk (fun sb => ?_) (fun sb => ?_)
          · have sb : sideB side = true := sb
            refine ⟨_, HB (i := 1) rfl, ?_⟩
            refine ⟨_, HB (i := 3) rfl, ?_⟩
            refine (inRange_spec _ _ _).mono ?_
            rintro v w2 ⟨rfl, rfl⟩
            exact ⟨(), ⟨rfl, congrArg (fun x => some (Value.bool x)) (((last4 l0 (.inl k1) sb).trans node5.symm).trans hnb2), trivial⟩, rfl⟩
          · have sb : sideB side = false := sb
            exact ⟨(), ⟨rfl, congrArg (fun x => some (Value.bool x)) (((node5.trans (decide_eq_false fun h => by rw [h.2.2.1] at sb; cases sb)).symm).trans hnb2), trivial⟩, rfl⟩
        · have k1 : ¬ (kd = 1) := k1
          refine brE_dec (fun k2 => ?_) (fun k2 => ?_)
          · have k2 : kd = 2 := k2
            refine brE_mk (fun sb => ?_) (fun sb => ?_)
            · have sb : sideB side = true := sb
              refine ⟨_, HB (i := 1) rfl, ?_⟩
              refine ⟨_, HB (i := 3) rfl, ?_⟩
              refine (inRange_spec _ _ _).mono ?_
              rintro v w2 ⟨rfl, rfl⟩
              exact ⟨(), ⟨rfl, congrArg (fun x => some (Value.bool x)) (((last4 l0 (.inr k2) sb).trans node5.symm).trans hnb2), trivial⟩, rfl⟩
            · have sb : sideB side = false := sb
              exact ⟨(), ⟨rfl, congrArg (fun x => some (Value.bool x)) (((node5.trans (decide_eq_false fun h => by rw [h.2.2.1] at sb; cases sb)).symm).trans hnb2), trivial⟩, rfl⟩
          · have k2 : ¬ (kd = 2) := k2
            exact ⟨(), ⟨rfl, congrArg (fun x => some (Value.bool x)) (((node5.trans (decide_eq_false fun h => (fun e => e.elim k1 k2) h.2.1)).symm).trans hnb2), trivial⟩, rfl⟩
      · have l0 : ¬ (of.length = 0) := by have l0 : ¬ ((of.length : Nat) : Int) = 0 := l0; omega
        exact ⟨(), ⟨rfl, congrArg (fun x => some (Value.bool x)) (((node5.trans (decide_eq_false fun h => l0 h.1)).symm).trans hnb2), trivial⟩, rfl⟩
    have o5 : ¬ op = 5 := o5
    refine brE_dec (fun o6 => ?_) (fun o6 => ?_)
    · have o6 : op = 6 := o6
      subst o6
      refine brE_dec (fun l0 => ?_) (fun l0 => ?_)
      · have l0 : of.length = 0 := by have l0 : ((of.length : Nat) : Int) = 0 := l0; omega
        refine brE_dec (fun k1 => ?_) (fun k1 => ?_)
        · have k1 : kd = 1 := k1
          refine brE_mk (fun sb => ?_) (fun sb => ?_)
          · have sb : sideB side = true := sb
            refine ⟨_, HB (i := 1) rfl, ?_⟩
            refine ⟨_, HB (i := 3) rfl, ?_⟩
            refine (inRange_spec _ _ _).mono ?_
            rintro v w2 ⟨rfl, rfl⟩
            exact ⟨(), ⟨rfl, congrArg (fun x => some (Value.bool x)) (((last4 l0 (k1) sb).trans node6.symm).trans hnb2), trivial⟩, rfl⟩
          · have sb : sideB side = false := sb
            exact ⟨(), ⟨rfl, congrArg (fun x => some (Value.bool x)) (((node6.trans (decide_eq_false fun h => by rw [h.2.2.1] at sb; cases sb)).symm).trans hnb2), trivial⟩, rfl⟩
        · have k1 : ¬ (kd = 1) := k1
          exact ⟨(), ⟨rfl, congrArg (fun x => some (Value.bool x)) (((node6.trans (decide_eq_false fun h => k1 h.2.1)).symm).trans hnb2), trivial⟩, rfl⟩
      · have l0 : ¬ (of.length = 0) := by have l0 : ¬ ((of.length : Nat) : Int) = 0 := l0; omega
        exact ⟨(), ⟨rfl, congrArg (fun x => some (Value.bool x)) (((node6.trans (decide_eq_false fun h => l0 h.1)).symm).trans hnb2), trivial⟩, rfl⟩
    have o6 : ¬ op = 6 := o6
    refine brE_dec (fun o7 => ?_) (fun o7 => ?_)
    · have o7 : op = 7 := o7
      subst o7
      refine ⟨_, HB (i := 4) rfl, ?_⟩
      refine brE_dec (fun l0 => ?_) (fun l0 => ?_)
      · have l0 : of.length = 1 := by have l0 : ((of.length : Nat) : Int) = 1 := l0; omega
        refine ⟨_, HB (i := 1) rfl, ?_⟩
        refine brE_dec (fun a0 => ?_) (fun a0 => ?_)
        · have a0 : attr = 0 := a0
          refine ⟨_, HB (i := 2) rfl, ?_⟩
          refine brE_dec (fun s0 => ?_) (fun s0 => ?_)
          · have s0 : side = 0 := s0
            refine ⟨_, HB (i := 3) rfl, ?_⟩
            exact ⟨(), ⟨rfl, congrArg (fun x => some (Value.bool x)) (((decide_eq_decide.2 ⟨fun x => ⟨l0, a0, s0, x⟩, fun h => h.2.2.2⟩).trans node7.symm).trans hnb2), trivial⟩, rfl⟩
          · have s0 : ¬ (side = 0) := s0
            exact ⟨(), ⟨rfl, congrArg (fun x => some (Value.bool x)) (((node7.trans (decide_eq_false fun h => s0 h.2.2.1)).symm).trans hnb2), trivial⟩, rfl⟩
        · have a0 : ¬ (attr = 0) := a0
          exact ⟨(), ⟨rfl, congrArg (fun x => some (Value.bool x)) (((node7.trans (decide_eq_false fun h => a0 h.2.1)).symm).trans hnb2), trivial⟩, rfl⟩
      · have l0 : ¬ (of.length = 1) := by have l0 : ¬ ((of.length : Nat) : Int) = 1 := l0; omega
        exact ⟨(), ⟨rfl, congrArg (fun x => some (Value.bool x)) (((node7.trans (decide_eq_false fun h => l0 h.1)).symm).trans hnb2), trivial⟩, rfl⟩
    have o7 : ¬ op = 7 := o7
    refine brE_dec (fun o8 => ?_) (fun o8 => ?_)
    · have o8 : op = 8 := o8
      refine brE_true (decide_eq_true o8) ?_
      subst o8
      refine ⟨_, HB (i := 4) rfl, ?_⟩
      refine brE_dec (fun l0 => ?_) (fun l0 => ?_)
      · have l0 : 2 ≤ of.length := by have l0 : ((of.length : Nat) : Int) ≥ 2 := l0; omega
        refine ⟨_, HB (i := 1) rfl, ?_⟩
        refine brE_dec (fun a0 => ?_) (fun a0 => ?_)
        · have a0 : attr = 0 := a0
          refine ⟨_, HB (i := 2) rfl, ?_⟩
          refine brE_dec (fun s0 => ?_) (fun s0 => ?_)
          · have s0 : side = 0 := s0
            refine ⟨_, HB (i := 3) rfl, ?_⟩
            exact ⟨(), ⟨rfl, congrArg (fun x => some (Value.bool x)) (((decide_eq_decide.2 ⟨fun x => ⟨l0, a0, s0, x⟩, fun h => h.2.2.2⟩).trans node8.symm).trans hnb2), trivial⟩, rfl⟩
          · have s0 : ¬ (side = 0) := s0
            exact ⟨(), ⟨rfl, congrArg (fun x => some (Value.bool x)) (((node8.trans (decide_eq_false fun h => s0 h.2.2.1)).symm).trans hnb2), trivial⟩, rfl⟩
        · have a0 : ¬ (attr = 0) := a0
          exact ⟨(), ⟨rfl, congrArg (fun x => some (Value.bool x)) (((node8.trans (decide_eq_false fun h => a0 h.2.1)).symm).trans hnb2), trivial⟩, rfl⟩
      · have l0 : ¬ (2 ≤ of.length) := by have l0 : ¬ ((of.length : Nat) : Int) ≥ 2 := l0; omega
        exact ⟨(), ⟨rfl, congrArg (fun x => some (Value.bool x)) (((node8.trans (decide_eq_false fun h => l0 h.1)).symm).trans hnb2), trivial⟩, rfl⟩
    have o8 : ¬ op = 8 := o8
    refine brE_dec (fun o9 => ?_) (fun o9 => ?_)
    · have o9 : op = 9 := o9
      subst o9
      refine ⟨_, HB (i := 4) rfl, ?_⟩
      refine brE_dec (fun l0 => ?_) (fun l0 => ?_)
      · have l0 : 2 ≤ of.length := by have l0 : ((of.length : Nat) : Int) ≥ 2 := l0; omega
        refine ⟨_, HB (i := 1) rfl, ?_⟩
        refine brE_dec (fun a0 => ?_) (fun a0 => ?_)
        · have a0 : attr = 0 := a0
          refine ⟨_, HB (i := 2) rfl, ?_⟩
          refine brE_dec (fun s0 => ?_) (fun s0 => ?_)
          · have s0 : side = 0 := s0
            refine ⟨_, HB (i := 3) rfl, ?_⟩
            exact ⟨(), ⟨rfl, congrArg (fun x => some (Value.bool x)) (((decide_eq_decide.2 ⟨fun x => ⟨l0, a0, s0, x⟩, fun h => h.2.2.2⟩).trans node9.symm).trans hnb2), trivial⟩, rfl⟩
          · have s0 : ¬ (side = 0) := s0
            exact ⟨(), ⟨rfl, congrArg (fun x => some (Value.bool x)) (((node9.trans (decide_eq_false fun h => s0 h.2.2.1)).symm).trans hnb2), trivial⟩, rfl⟩
        · have a0 : ¬ (attr = 0) := a0
          exact ⟨(), ⟨rfl, congrArg (fun x => some (Value.bool x)) (((node9.trans (decide_eq_false fun h => a0 h.2.1)).symm).trans hnb2), trivial⟩, rfl⟩
      · have l0 : ¬ (2 ≤ of.length) := by have l0 : ¬ ((of.length : Nat) : Int) ≥ 2 := l0; omega
        exact ⟨(), ⟨rfl, congrArg (fun x => some (Value.bool x)) (((node9.trans (decide_eq_false fun h => l0 h.1)).symm).trans hnb2), trivial⟩, rfl⟩
    have o9 : ¬ op = 9 := o9
    exact ⟨(), ⟨rfl, congrArg (fun x => some (Value.bool x)) (((node_off o1 o2 o3 o4 o5 o6 o7 o8 o9).symm).trans hnb2), trivial⟩, rfl⟩
  rintro _ w1 rfl
  refine Snd.fin C_ok (plans := []) (by kernel_rfl) ?_
  refine brE_mk (fun b => ?_) (fun b => ?_)
  · have b : nb = true := b
    refine ⟨_, HB (i := 4) rfl, ?_⟩
    refine (index_unshaped hr hl (fun x hx {w} e => ih x hx e) (e0.trans E1)).mono ?_
    rintro v w3 ⟨rfl, e3⟩
    exact ⟨congrArg Value.bool (by rw [b, Bool.not_not, Bool.true_and]), E1.trans e3⟩
  · have b : nb = false := b
    exact ⟨congrArg Value.bool (by rw [b]; rfl), E1⟩
end Go.Proofs.YtdpdjcopkehdjaaGreat.Rk
namespace Go.Proofs.YtdpdjcopkehdjaaGreat.Rk
open Go.Eng Go.RowKit
def sideP (a b : Prof) (side : Int) : Prof := if side = 2 then b else a
def holdN (a b : Prof) (op attr side n : Int) (l : List Bool) : Bool :=
  if op = 1 then true
  else if op = 2 then decide (attrZ attr a < attrZ attr b)
  else if op = 3 then decide (attrZ attr a > attrZ attr b)
  else if op = 4 then decide (attrZ attr a = attrZ attr b)
  else if op = 5 then decide (attrZ attr (sideP a b side) = n)
  else if op = 6 then decide (attrZ attr (sideP a b side) < n)
  else if op = 7 then !(l.headD true)
  else if op = 8 then l.all id
  else if op = 9 then l.any id
  else false
mutual
def holdsT (a b : Prof) : Tst → Bool
  | .mk op attr side n _ _ of => holdN a b op attr side n (holdsL a b of)
def holdsL (a b : Prof) : List Tst → List Bool
  | [] => []
  | x :: r => holdsT a b x :: holdsL a b r
end
theorem holdsL_map (a b : Prof) : ∀ (l : List Tst), holdsL a b l = l.map (holdsT a b)
  | [] => rfl
  | x :: r => by rw [holdsL, holdsL_map a b r]; rfl
theorem holdsT_mk (a b : Prof) (op attr side n : Int) (A : Option Addr) (c : Nat) (of : List Tst) : holdsT a b (.mk op attr side n A c of) = holdN a b op attr side n (of.map (holdsT a b)) := by rw [holdsT, holdsL_map]
theorem kind_range {a : Int} (h : kindZ a ≠ 0) : 0 ≤ a ∧ a ≤ 7 := by
  unfold kindZ at h
  by_cases h1 : a = 1 ∨ a = 2
  · omega
  · by_cases h2 : a = 3 ∨ a = 4 ∨ a = 5
    · omega
    · by_cases h3 : a = 6 ∨ a = 7
      · omega
      · rw [if_neg h1, if_neg h2, if_neg h3] at h; exact absurd rfl h
theorem shaped_mk {op attr side n : Int} {A : Option Addr} {c : Nat} {of : List Tst} (h : shapedT (.mk op attr side n A c of) = true) : nodeK op (kindZ attr) attr side n (rangeB attr n) of.length = true ∧ ∀ x ∈ of, shapedT x = true := by
  rw [shapedT_eq, Bool.and_eq_true] at h
  have h2 := h.2
  rw [shapedL_all, List.all_eq_true] at h2
  exact ⟨h.1, h2⟩
theorem shaped_range {op attr side n r : Int} {rb : Bool} {len : Nat} (h : nodeK op (kindZ attr) attr side n rb len = true) (ho : op = 2 ∨ op = 3 ∨ op = 4 ∨ op = 5 ∨ op = 6) : 0 ≤ attr ∧ attr ≤ 7 := by
  refine kind_range fun h0 => ?_
  rw [h0] at h
  rcases ho with rfl | rfl | rfl | rfl | rfl
  · have := of_decide_eq_true h; have := this.2.1; omega
  · have := of_decide_eq_true h; have := this.2.1; omega
  · have := of_decide_eq_true h; exact this.2.1 rfl
  · have := of_decide_eq_true h; have := this.2.1; omega
  · have := of_decide_eq_true h; have := this.2.1; omega
theorem shaped_ops {op k attr side n : Int} {rb : Bool} {len : Nat} (h : nodeK op k attr side n rb len = true) (h1 : ¬ op = 1) (h2 : ¬ op = 2) (h3 : ¬ op = 3) (h4 : ¬ op = 4) (h5 : ¬ op = 5) (h6 : ¬ op = 6) : op = 7 ∧ len = 1 ∨ op = 8 ∨ op = 9 := by
  by_cases h7 : op = 7
  · subst h7; exact .inl ⟨rfl, (of_decide_eq_true h).1⟩
  · by_cases h8 : op = 8
    · exact .inr (.inl h8)
    · by_cases h9 : op = 9
      · exact .inr (.inr h9)
      · rw [node_off h1 h2 h3 h4 h5 h6 h7 h8 h9] at h; cases h
theorem any_at {l : List Bool} {i : Nat} (hi : i < l.length) (h : l[i] = true) : l.any id = true := List.any_eq_true.2 ⟨_, List.getElem_mem hi, h⟩
theorem all_at {l : List Bool} {i : Nat} (hi : i < l.length) (h : l[i] = false) : l.all id = false := by
  cases hx : l.all id with
  | false => rfl
  | true => rw [List.all_eq_true] at hx; have := hx _ (List.getElem_mem hi); rw [h] at this; cases this
set_option maxRecDepth 100000 in
set_option maxHeartbeats 8000000 in
theorem holds_spec {w0 : World} {t : Tst} (h : TestIs w0 t) (a b : Prof) : shapedT t = true → ∀ {w : World}, Ext w0 w → CallsV C.P 66 #[t.val, a.val, b.val] w fun v w' => v = .bool (holdsT a b t) ∧ Ext w w' := by
  induction h with
  | @mk t hn hr hc hl hk ih =>
  intro hs w e0
  obtain ⟨op, attr, side, n, A, c, of⟩ := t
  obtain ⟨hnode, hkids⟩ := shaped_mk hs
  rw [holdsT_mk]
  obtain ⟨res, hres⟩ : ∃ res, res = holdN a b op attr side n (of.map (holdsT a b)) := ⟨_, rfl⟩
  rw [← hres]
  have hl : of.length ≤ 9223372036854775807 := hl
  have hrng := fun ho => shaped_range (r := 0) hnode ho
  refine callsV_ofS (args := [_, _, _]) Tryz.func66 rfl Tryz.ntmps66 C_ok (Nat.le_of_ble_eq_true rfl) ?_
  refine Snd.go C_ok plans66 (by kernel_rfl) ?_
  intro g3 w1 h1
  have M : Mem w w1 [(g3, .cells (Tst.mk op attr side n A c of).cells.toArray 70 (0, 0))] := (Mem.start w).alloc h1
  intro g4 w2 h2
  have M : Mem w w2 [(g4, .cells a.cells.toArray 38 (0, 0)), (g3, .cells (Tst.mk op attr side n A c of).cells.toArray 70 (0, 0))] := M.alloc h2
  intro g5 w3 h3
  have M : Mem w w3 [(g5, .cells b.cells.toArray 38 (0, 0)), (g4, .cells a.cells.toArray 38 (0, 0)), (g3, .cells (Tst.mk op attr side n A c of).cells.toArray 70 (0, 0))] := M.alloc h3
  refine ⟨Snd.go C_ok plans66 (by kernel_rfl) ?_⟩
  refine ⟨a.cells, rfl, M.rd 1 rfl, ?_⟩
  intro g7 w4 h4
  have M := M.alloc h4
  refine ⟨rfl, _, _, M.get 0 rfl, Nat.le_of_ble_eq_true rfl, rfl, ?_⟩
  intro w5 h5
  have M : Mem w w5 [(g7, .cells a.cells.toArray 38 (0, 0)), (g5, .cells b.cells.toArray 38 (0, 0)), (g4, .cells a.cells.toArray 38 (0, 0)), (g3, .cells (Tst.mk op attr side n A c of).cells.toArray 70 (0, 0))] := M.put 0 rfl h5
  obtain ⟨sp, hsp⟩ : ∃ sp, sp = sideP a b side := ⟨_, rfl⟩
  refine ⟨Snd.join C_ok plans66 (fun _ : Unit => [(3, .pointer (some ⟨g3, 0, none⟩)), (4, .pointer (some ⟨g4, 0, none⟩)), (5, .pointer (some ⟨g5, 0, none⟩)), (7, .pointer (some ⟨g7, 0, none⟩))])
    (fun _ w' => Mem w w' [(g7, .cells sp.cells.toArray 38 (0, 0)), (g5, .cells b.cells.toArray 38 (0, 0)), (g4, .cells a.cells.toArray 38 (0, 0)), (g3, .cells (Tst.mk op attr side n A c of).cells.toArray 70 (0, 0))]) (by kernel_rfl) ?_ ?_⟩
  · refine ⟨_, M.cell 3 (i := 2) rfl rfl, ?_⟩
    refine brE_dec (fun s2 => ?_) (fun s2 => ?_)
    · have s2 : side = 2 := s2
      refine ⟨b.cells, rfl, M.rd 1 rfl, ?_⟩
      refine ⟨rfl, _, _, M.get 0 rfl, Nat.le_of_ble_eq_true rfl, rfl, ?_⟩
      intro w6 h6
      have e : sp = b := hsp.trans (if_pos s2)
      exact ⟨(), ⟨rfl, rfl, rfl, rfl, trivial⟩, by rw [e]; exact M.put 0 rfl h6⟩
    · have s2 : ¬ side = 2 := s2
      have e : sp = a := hsp.trans (if_neg s2)
      exact ⟨(), ⟨rfl, rfl, rfl, rfl, trivial⟩, by rw [e]; exact M⟩
  clear M h1 h2 h3 h4 h5
  rintro _ w6 M
  refine Snd.fin C_ok (plans := plans66) (by kernel_rfl) ?_
  refine ⟨_, M.cell 3 (i := 0) rfl rfl, ?_⟩
  refine brE_dec (fun o1 => ?_) (fun o1 => ?_)
  · have o1 : op = 1 := o1
    subst o1
    exact ⟨congrArg Value.bool hres.symm, M.ext⟩
  have o1 : ¬ op = 1 := o1
  refine brE_dec (fun o2 => ?_) (fun o2 => ?_)
  · have o2 : op = 2 := o2
    have hat := hrng (by omega)
    subst o2
    refine ⟨_, M.cell 3 (i := 1) rfl rfl, ?_⟩
    refine ⟨a.cells, rfl, M.rd 2 rfl, ?_⟩
    refine ⟨_, M.cell 3 (i := 1) rfl rfl, ?_⟩
    refine ⟨b.cells, rfl, M.rd 1 rfl, ?_⟩
    refine (value_spec attr hat a w6).mono ?_
    rintro v w7 ⟨rfl, e7⟩
    refine ⟨e7, ?_⟩
    refine (value_spec attr hat b w7).mono ?_
    rintro v w8 ⟨rfl, e8⟩
    exact ⟨congrArg Value.bool hres.symm, M.ext.trans (e7.trans e8)⟩
  have o2 : ¬ op = 2 := o2
  refine brE_dec (fun o3 => ?_) (fun o3 => ?_)
  · have o3 : op = 3 := o3
    have hat := hrng (by omega)
    subst o3
    refine ⟨_, M.cell 3 (i := 1) rfl rfl, ?_⟩
    refine ⟨a.cells, rfl, M.rd 2 rfl, ?_⟩
    refine ⟨_, M.cell 3 (i := 1) rfl rfl, ?_⟩
    refine ⟨b.cells, rfl, M.rd 1 rfl, ?_⟩
    refine (value_spec attr hat a w6).mono ?_
    rintro v w7 ⟨rfl, e7⟩
    refine ⟨e7, ?_⟩
    refine (value_spec attr hat b w7).mono ?_
    rintro v w8 ⟨rfl, e8⟩
    exact ⟨congrArg Value.bool hres.symm, M.ext.trans (e7.trans e8)⟩
  have o3 : ¬ op = 3 := o3
  refine brE_dec (fun o4 => ?_) (fun o4 => ?_)
  · have o4 : op = 4 := o4
    have hat := hrng (by omega)
    subst o4
    refine ⟨_, M.cell 3 (i := 1) rfl rfl, ?_⟩
    refine ⟨a.cells, rfl, M.rd 2 rfl, ?_⟩
    refine ⟨_, M.cell 3 (i := 1) rfl rfl, ?_⟩
    refine ⟨b.cells, rfl, M.rd 1 rfl, ?_⟩
    refine (value_spec attr hat a w6).mono ?_
    rintro v w7 ⟨rfl, e7⟩
    refine ⟨e7, ?_⟩
    refine (value_spec attr hat b w7).mono ?_
    rintro v w8 ⟨rfl, e8⟩
    exact ⟨congrArg Value.bool hres.symm, M.ext.trans (e7.trans e8)⟩
  have o4 : ¬ op = 4 := o4
  refine brE_dec (fun o5 => ?_) (fun o5 => ?_)
  · have o5 : op = 5 := o5
    have hat := hrng (by omega)
    subst o5
    refine ⟨_, M.cell 3 (i := 1) rfl rfl, ?_⟩
    refine ⟨sp.cells, rfl, M.rd 0 rfl, ?_⟩
    refine ⟨_, M.cell 3 (i := 3) rfl rfl, ?_⟩
    refine (value_spec attr hat sp w6).mono ?_
    rintro v w7 ⟨rfl, e7⟩
    refine ⟨e7, ?_⟩
    have hr2 : holdN a b 5 attr side n (of.map (holdsT a b)) = decide (attrZ attr (sideP a b side) = n) := rfl
    rw [hr2, ← hsp] at hres
    exact ⟨congrArg Value.bool hres.symm, M.ext.trans e7⟩
  have o5 : ¬ op = 5 := o5
  refine brE_dec (fun o6 => ?_) (fun o6 => ?_)
  · have o6 : op = 6 := o6
    have hat := hrng (by omega)
    subst o6
    refine ⟨_, M.cell 3 (i := 1) rfl rfl, ?_⟩
    refine ⟨sp.cells, rfl, M.rd 0 rfl, ?_⟩
    refine ⟨_, M.cell 3 (i := 3) rfl rfl, ?_⟩
    refine (value_spec attr hat sp w6).mono ?_
    rintro v w7 ⟨rfl, e7⟩
    refine ⟨e7, ?_⟩
    have hr2 : holdN a b 6 attr side n (of.map (holdsT a b)) = decide (attrZ attr (sideP a b side) < n) := rfl
    rw [hr2, ← hsp] at hres
    exact ⟨congrArg Value.bool hres.symm, M.ext.trans e7⟩
  have o6 : ¬ op = 6 := o6
  have hops := shaped_ops hnode o1 o2 o3 o4 o5 o6
  have kidh : ∀ i (hi : i < of.length), ∀ {w : World}, Ext w0 w → CallsV C.P 66 #[of[i].val, a.val, b.val] w fun v w' => v = .bool (holdsT a b of[i]) ∧ Ext w w' := fun i hi {w} e => ih _ (List.getElem_mem hi) (hkids _ (List.getElem_mem hi)) e
  refine brE_dec (fun o7 => ?_) (fun o7 => ?_)
  · have o7 : op = 7 := o7
    have hlen : of.length = 1 := by omega
    have h0 : 0 < of.length := by omega
    subst o7
    obtain ⟨bb, o, hA, hc5⟩ := Reads.elem Tst.len (by omega) (Reads.ext hr (e0.trans M.ext)) h0
    refine ⟨_, M.cell 3 (i := 4) rfl rfl, ?_⟩
    refine ⟨0, bb, o, rfl, h0, hA, ?_⟩
    refine ⟨of[0].cells, rfl, hc5, ?_⟩
    refine ⟨a.cells, rfl, M.rd 2 rfl, ?_⟩
    refine ⟨b.cells, rfl, M.rd 1 rfl, ?_⟩
    refine (kidh 0 h0 (e0.trans M.ext)).mono ?_
    rintro v w7 ⟨rfl, e7⟩
    refine ⟨congrArg Value.bool ?_, M.ext.trans e7⟩
    rw [hres]
    obtain ⟨x, r, rfl⟩ : ∃ x r, of = x :: r := by
      cases of with
      | nil => cases h0
      | cons x r => exact ⟨x, r, rfl⟩
    rfl
  have o7 : ¬ op = 7 := o7
  have hop : op = 8 ∨ op = 9 := by omega
  obtain ⟨q, hq⟩ : ∃ q, q = decide (op = 9) := ⟨_, rfl⟩
  refine ⟨_, M.cell 3 (i := 4) rfl rfl, ?_⟩
  refine loopE C_ok (fun (i : Nat) => [(3, .pointer (some ⟨g3, 0, none⟩)), (4, .pointer (some ⟨g4, 0, none⟩)), (5, .pointer (some ⟨g5, 0, none⟩)), (81, .slice A of.length c), (82, .int .i64 of.length), (83, .int .i64 (i : Nat))])
    (fun i w' => i ≤ of.length ∧ Mem w w' [(g5, .cells b.cells.toArray 38 (0, 0)), (g4, .cells a.cells.toArray 38 (0, 0)), (g3, .cells (Tst.mk op attr side n A c of).cells.toArray 70 (0, 0))] ∧ ∀ j (hj : j < of.length), j < i → holdsT a b of[j] = !q) (fun i => of.length - i) 0 ⟨rfl, rfl, rfl, rfl, rfl, rfl, trivial⟩ ⟨Nat.zero_le _, M.tail, fun _ _ h => absurd h (Nat.not_lt_zero _)⟩ ?_
  clear M
  rintro i w7 ⟨hi, M, hall⟩
  refine brE_dec (fun hlt => ?_) (fun hge => ?_)
  · have hlti : i < of.length := by have : (i : Int) < (of.length : Nat) := hlt; omega
    have next : IntKind.i64.wrap ((i : Int) + 1) = ((i + 1 : Nat) : Int) := fit ⟨by omega, by omega⟩
    obtain ⟨bb, o, hA, hc5⟩ := Reads.elem Tst.len (by omega) (Reads.ext hr (e0.trans M.ext)) hlti
    obtain ⟨x, hx⟩ : ∃ x, x = of[i] := ⟨_, rfl⟩
    have hc5 : Rd w7 bb (o + i * 5) x.cells := by rw [hx]; exact hc5
    have X := fun {w : World} (e : Ext w0 w) => kidh i hlti e
    rw [← hx] at X
    refine ⟨i, bb, o, rfl, hlti, hA, ?_⟩
    refine ⟨x.cells, rfl, hc5, ?_⟩
    intro g9 w8 h8
    have M8 := M.alloc h8
    refine ⟨rfl, _, _, M8.get 0 rfl, Nat.le_of_ble_eq_true rfl, rfl, ?_⟩
    intro w9 h9
    have M9 : Mem w w9 [(g9, .cells x.cells.toArray 70 (0, 0)), (g5, .cells b.cells.toArray 38 (0, 0)), (g4, .cells a.cells.toArray 38 (0, 0)), (g3, .cells (Tst.mk op attr side n A c of).cells.toArray 70 (0, 0))] := M8.put 0 rfl h9
    refine ⟨x.cells, rfl, M9.rd 0 rfl, ?_⟩
    refine ⟨a.cells, rfl, M9.rd 2 rfl, ?_⟩
    refine ⟨b.cells, rfl, M9.rd 1 rfl, ?_⟩
    refine ⟨_, M9.cell 3 (i := 0) rfl rfl, ?_⟩
    refine (X (e0.trans M9.ext)).mono ?_
    rintro v w10 ⟨rfl, e10⟩
    refine ⟨e10, ?_⟩
    have M10 := M9.grow e10
    refine ⟨_, eqBool _ _ _ _, ?_⟩
    have hqe : decide (op = 9) = q := hq.symm
    refine brE_mk (fun hb => ?_) (fun hb => ?_)
    · have hb : holdsT a b x = q := by rw [← hqe]; exact eq_of_beq hb
      refine ⟨_, M10.cell 3 (i := 0) rfl rfl, ?_⟩
      refine ⟨congrArg Value.bool ?_, M10.ext⟩
      show decide (op = 9) = res
      rw [hqe, hres]
      have hil : i < (of.map (holdsT a b)).length := by rw [List.length_map]; exact hlti
      have hil2 : (of.map (holdsT a b))[i] = q := by rw [List.getElem_map, ← hx]; exact hb
      rcases hop with rfl | rfl
      · have hq0 : q = false := hq
        rw [hq0] at hil2 ⊢
        exact (all_at hil hil2).symm
      · have hq1 : q = true := hq
        rw [hq1] at hil2 ⊢
        exact (any_at hil hil2).symm
    · have hb : holdsT a b x = !q := by
        have hne : ¬ holdsT a b x = q := by rw [← hqe]; exact fun h => by rw [beq_eq_false_iff_ne] at hb; exact hb h
        cases hh : holdsT a b x <;> cases hqq : q <;> simp_all
      refine ⟨_, next, ?_⟩
      refine ⟨i + 1, ⟨rfl, rfl, rfl, rfl, rfl, rfl, trivial⟩, ⟨hlti, M10.tail, fun j hj hji => ?_⟩, by show of.length - (i + 1) < of.length - i; omega⟩
      by_cases he : j = i
      · subst he; rw [← hx]; exact hb
      · exact hall j hj (by omega)
  · have hie : i = of.length := by have : ¬ (i : Int) < (of.length : Nat) := hge; omega
    refine ⟨_, M.cell 2 (i := 0) rfl rfl, ?_⟩
    refine ⟨congrArg Value.bool ?_, M.ext⟩
    show decide (op = 8) = res
    rw [hres]
    have hmem : ∀ v ∈ of.map (holdsT a b), v = !q := fun v hv => by
      obtain ⟨x, hx, rfl⟩ := List.mem_map.1 hv
      obtain ⟨j, hj, rfl⟩ := List.getElem_of_mem hx
      exact hall j hj (by omega)
    rcases hop with rfl | rfl
    · have hq0 : q = false := hq
      show true = (of.map (holdsT a b)).all id
      rw [Eq.comm, List.all_eq_true]
      intro v hv
      rw [hmem v hv, hq0]; rfl
    · have hq1 : q = true := hq
      show false = (of.map (holdsT a b)).any id
      rw [Eq.comm, List.any_eq_false]
      intro v hv
      rw [hmem v hv, hq1]; decide
end Go.Proofs.YtdpdjcopkehdjaaGreat.Rk
namespace Go.Eng
open Go.RowKit
section
variable {C : Cfg}
theorem strRange {o : Oper} {t : Nat} {m : Operand} {l : Env} {w : World} {s : ByteArray} (hu : C.P.underlying t = some .string)
    (ho : o.op = .range t m) (hm : evo l m = some (.string s))
    {Q : Value → World → Prop} (h : ∀ r w', Alloc w r (.stringIter s 0) w' → Q (.pointer (some ⟨r, 0, none⟩)) w') : LoudRun C o l w Q := by
  intro ρ hρ w₁ hs
  have ha : Alloc w w₁.heap.size (.stringIter s 0) (w₁.alloc (.stringIter s 0)) := by
    have e : w₁.heap.size = w.heap.size := by rw [hs.heap]
    rw [e]; exact Alloc.of_same hs _
  refine ⟨.pointer (some ⟨w₁.heap.size, 0, none⟩), w₁.alloc (.stringIter s 0), _, .inl ?_, h _ _ ha, Same.refl _⟩
  unfold execOp
  rw [ho]
  simp only [hρ _ _ hm]
  have := run_range_string (P := C.P) w₁ t s hu
  simp [this, World.iter]
theorem strNext {o : Oper} {it : Operand} {l : Env} {w : World} {r pos : Nat} {s : ByteArray} (hr : w.heap[r]? = some (.stringIter s pos))
    (ho : o.op = .next it true) (hit : evo l it = some (.pointer (some ⟨r, 0, none⟩)))
    {Q : Value → World → Prop} (h0 : ¬ pos < s.size → Q (.tuple #[.bool false]) w)
    (h1 : pos < s.size → ∀ w', Put w r (.stringIter s (pos + (Utf8.decode s pos).2)) w' → Q (.tuple #[.bool true, .int .i64 (pos : Nat), .int .i32 ((Utf8.decode s pos).1 : Nat)]) w') : LoudRun C o l w Q := by
  intro ρ hρ w₁ hs
  have hr1 : w₁.heap[r]? = some (.stringIter s pos) := by rw [hs.heap]; exact hr
  have exec : ∀ v w2, (Instr.next (.pointer (some ⟨r, 0, none⟩)) true o.type).run C.P w₁ = .ok v w2 → (execOp ρ o).run C.P w₁ = .ok (.value v) w2 := fun v w2 hh => by
    unfold execOp
    rw [ho]
    simp only [hρ _ _ hit]
    simp [hh]
  by_cases hp : pos < s.size
  · have hput : Put w r (.stringIter s (pos + (Utf8.decode s pos).2)) (Go.ChangeMaps.setBlock w₁ r (.stringIter s (pos + (Utf8.decode s pos).2))) := put_setObj hs hr
    exact ⟨_, _, _, .inl (exec _ _ (Lib.run_next_any_at w₁ r s pos o.type hr1 hp)), h1 hp _ hput, Same.refl _⟩
  · exact ⟨_, w, w₁, .inl (exec _ _ (Lib.run_next_end_at w₁ r s pos o.type hr1 hp)), h0 hp, hs⟩
end
theorem decodeN_low (n b0 b1 b2 b3 : Nat) (h : (Lib.decodeN n b0 b1 b2 b3).1 < 128) : b0 < 128 := by
  unfold Lib.decodeN at h
  repeat' split at h
  all_goals first | assumption | (simp only at h; omega)
theorem decode_low {s : ByteArray} {i : Nat} (hi : i < s.size) (h : (Utf8.decode s i).1 < 128) : Utf8.decode s i = ((s[i]'hi).toNat, 1) := by
  refine decode_ascii s i hi ?_
  rw [Lib.decode_at] at h
  have e : s.get! i = s[i]'hi := by
    simp [ByteArray.get!, getElem!_pos, hi]
    rfl
  rw [← e]
  exact decodeN_low _ _ _ _ _ h
end Go.Eng
namespace Go.Proofs.YtdpdjcopkehdjaaGreat.Rk
open Go.Eng Go.RowKit
def joinZ (n : Int) : Bool := decide ((97 ≤ n ∧ n ≤ 122) ∨ (48 ≤ n ∧ n ≤ 57) ∨ n = 45)
theorem joinT {n : Int} (h : (97 ≤ n ∧ n ≤ 122) ∨ (48 ≤ n ∧ n ≤ 57) ∨ n = 45) : true = joinZ n := (decide_eq_true h).symm
theorem joinD {n : Int} (h : ¬ ((97 ≤ n ∧ n ≤ 122) ∨ (48 ≤ n ∧ n ≤ 57))) : decide (n = 45) = joinZ n := decide_eq_decide.2 (by omega)
theorem joinZ_iff {n : Int} : joinZ n = true ↔ ((97 ≤ n ∧ n ≤ 122) ∨ (48 ≤ n ∧ n ≤ 57) ∨ n = 45) := decide_eq_true_iff
def wordB (s : ByteArray) : Bool := decide ((1 ≤ s.size ∧ s.size ≤ 24) ∧ (∀ b, s[0]? = some b → 97 ≤ b.toNat ∧ b.toNat ≤ 122) ∧ ∀ i (h : i < s.size), joinZ (s[i].toNat : Nat) = true)
theorem wordB_no {s : ByteArray} (h : ¬ ((1 ≤ s.size ∧ s.size ≤ 24) ∧ (∀ b, s[0]? = some b → 97 ≤ b.toNat ∧ b.toNat ≤ 122) ∧ ∀ i (h : i < s.size), joinZ (s[i].toNat : Nat) = true)) : false = wordB s := (decide_eq_false h).symm
theorem ba_at {s : ByteArray} {i : Nat} (h : i < s.size) : s[i]? = some s[i] := getElem?_pos s i h
theorem joins_spec (n : Int) (w : World) : CallsV C.P 197 #[.int .i32 n] w fun v w' => v = .bool (joinZ n) ∧ w' = w := by
  refine callsV_of C_ok (args := [_]) (plans := []) Tryz.func197 rfl Tryz.ntmps197 (by kernel_rfl) (Nat.le_of_ble_eq_true rfl) ?_
  refine brE_dec (fun a => ?_) (fun a => ?_)
  · have a : n ≥ 97 := a
    refine brE_dec (fun b => ?_) (fun b => ?_)
    · have b : n ≤ 122 := b
      exact ⟨congrArg Value.bool (joinT (by omega)), rfl⟩
    · have b : ¬ n ≤ 122 := b
      refine brE_dec (fun c => ?_) (fun c => ?_)
      · have c : n ≥ 48 := c
        refine brE_dec (fun d => ?_) (fun d => ?_)
        · have d : n ≤ 57 := d
          exact ⟨congrArg Value.bool (joinT (by omega)), rfl⟩
        · have d : ¬ n ≤ 57 := d
          exact ⟨congrArg Value.bool (joinD (by omega)), rfl⟩
      · have c : ¬ n ≥ 48 := c
        exact ⟨congrArg Value.bool (joinD (by omega)), rfl⟩
  · have a : ¬ n ≥ 97 := a
    refine brE_dec (fun c => ?_) (fun c => ?_)
    · have c : n ≥ 48 := c
      refine brE_dec (fun d => ?_) (fun d => ?_)
      · have d : n ≤ 57 := d
        exact ⟨congrArg Value.bool (joinT (by omega)), rfl⟩
      · have d : ¬ n ≤ 57 := d
        exact ⟨congrArg Value.bool (joinD (by omega)), rfl⟩
    · have c : ¬ n ≥ 48 := c
      exact ⟨congrArg Value.bool (joinD (by omega)), rfl⟩
theorem isWord1_spec (n : Int) (w : World) : CallsV C.P 196 #[.int .i32 n] w fun v w' => v = .bool (!joinZ n) ∧ w' = w := by
  refine callsV_of C_ok (args := [_]) (plans := []) Tryz.func196 rfl Tryz.ntmps196 (by kernel_rfl) (Nat.le_of_ble_eq_true rfl) ?_
  refine (joins_spec n w).mono ?_
  rintro v w' ⟨rfl, rfl⟩
  exact ⟨rfl, rfl⟩
set_option maxRecDepth 100000 in
theorem indexW_spec (s : ByteArray) (w : World) :
    CallsV C.P 294 #[.string s, .func (.func 196) #[] #[], .bool true] w fun v w' => (∃ z : Int, v = .int .i64 z ∧ (z ≥ 0 ↔ ¬ ∀ i (h : i < s.size), joinZ (s[i].toNat : Nat) = true)) ∧ Ext w w' := by
  refine callsV_of C_ok (args := [_, _, _]) (plans := []) Tryz.func294 rfl Tryz.ntmps294 (by kernel_rfl) (Nat.le_of_ble_eq_true rfl) ?_
  refine strRange under9 rfl rfl ?_
  intro r w1 h1
  have M1 := (Mem.start w).alloc h1
  refine loopE C_ok (fun (_ : Nat) => [(0, .string s), (1, .func (.func 196) #[] #[]), (2, .bool true), (10, .pointer (some ⟨r, 0, none⟩))])
    (fun pos w' => Mem w w' [(r, .stringIter s pos)] ∧ pos ≤ s.size ∧ ∀ i (h : i < s.size), i < pos → joinZ (s[i].toNat : Nat) = true) (fun pos => s.size - pos) 0 ⟨rfl, rfl, rfl, rfl, trivial⟩ ⟨M1, Nat.zero_le _, fun _ _ h => absurd h (Nat.not_lt_zero _)⟩ ?_
  rintro pos w2 ⟨M, hp, hall⟩
  refine strNext (M.get 0 rfl) rfl rfl (fun hge => ?_) (fun hlt w3 h3 => ?_)
  · exact ⟨⟨-1, rfl, ⟨fun h => absurd h (by decide), fun h => absurd (fun i hi => hall i hi (by omega)) h⟩⟩, M.ext⟩
  · have M3 := M.put 0 rfl h3
    refine (isWord1_spec _ w3).mono ?_
    rintro v w4 ⟨rfl, rfl⟩
    refine ⟨_, eqBool _ _ _ _, ?_⟩
    refine brE_mk (fun hb => ?_) (fun hb => ?_)
    · have hj : joinZ ((Utf8.decode s pos).1 : Nat) = false := by simpa using hb
      refine ⟨⟨(pos : Nat), rfl, ⟨fun _ hh => ?_, fun _ => Int.natCast_nonneg _⟩⟩, M3.ext⟩
      have hb := hh pos hlt
      have hlow : (s[pos].toNat) < 128 := by have := joinZ_iff.1 hb; omega
      rw [decode_ascii s pos hlt hlow] at hj
      rw [hb] at hj
      cases hj
    · have hj : joinZ ((Utf8.decode s pos).1 : Nat) = true := by simpa using hb
      have hlow : (Utf8.decode s pos).1 < 128 := by have := joinZ_iff.1 hj; omega
      have hd := decode_low hlt hlow
      rw [hd] at M3 hj
      refine ⟨pos + 1, ⟨rfl, rfl, rfl, rfl, trivial⟩, ⟨M3, hlt, fun i hi hip => ?_⟩, by show s.size - (pos + 1) < s.size - pos; omega⟩
      by_cases he : i = pos
      · subst he; exact hj
      · exact hall i hi (by omega)
set_option maxRecDepth 100000 in
theorem isWord_spec (s : ByteArray) (w : World) (hs : s.size ≤ 9223372036854775807) : CallsV C.P 130 #[.string s] w fun v w' => v = .bool (wordB s) ∧ Ext w w' := by
  refine callsV_of C_ok (args := [_]) (plans := []) Tryz.func130 rfl Tryz.ntmps130 (by kernel_rfl) (Nat.le_of_ble_eq_true rfl) ?_
  refine ⟨_, eqStr _ _ _ _, ?_⟩
  refine brE_dec (fun c1 => ?_) (fun c1 => ?_)
  · have c1 : s = ⟨#[]⟩ := c1
    exact ⟨congrArg Value.bool (wordB_no fun h => by have h1 := h.1.1; rw [c1] at h1; exact absurd h1 (by decide)), Ext.refl _⟩
  have c1 : ¬ s = ⟨#[]⟩ := c1
  have h0 : 0 < s.size := by
    rcases Nat.eq_zero_or_pos s.size with h | h
    · exact absurd (by cases s with | mk d => congr 1; exact Array.eq_empty_of_size_eq_zero h) c1
    · exact h
  refine brE_dec (fun c2 => ?_) (fun c2 => ?_)
  · have c2 : ((s.size : Nat) : Int) > 24 := c2
    exact ⟨congrArg Value.bool (wordB_no fun h => by have h1 := h.1.2; omega), Ext.refl _⟩
  have c2 : ¬ ((s.size : Nat) : Int) > 24 := c2
  refine ⟨0, s[0], rfl, ba_at h0, ?_⟩
  refine brE_dec (fun c3 => ?_) (fun c3 => ?_)
  · have c3 : ((s[0].toNat : Nat) : Int) < 97 := c3
    exact ⟨congrArg Value.bool (wordB_no fun h => by have h1 := h.2.1 _ (ba_at h0); omega), Ext.refl _⟩
  have c3 : ¬ ((s[0].toNat : Nat) : Int) < 97 := c3
  refine ⟨0, s[0], rfl, ba_at h0, ?_⟩
  refine brE_dec (fun c4 => ?_) (fun c4 => ?_)
  · have c4 : ((s[0].toNat : Nat) : Int) > 122 := c4
    exact ⟨congrArg Value.bool (wordB_no fun h => by have h1 := h.2.1 _ (ba_at h0); omega), Ext.refl _⟩
  have c4 : ¬ ((s[0].toNat : Nat) : Int) > 122 := c4
  have hC : CallsV C.P 195 #[.string s, .func (.func 196) #[] #[]] w fun v w' => v = .bool (!wordB s) ∧ Ext w w' := by
    refine callsV_of C_ok (args := [_, _]) (plans := []) Tryz.func195 rfl Tryz.ntmps195 (by kernel_rfl) (Nat.le_of_ble_eq_true rfl) ?_
    have hI : CallsV C.P 253 #[.string s, .func (.func 196) #[] #[]] w fun v w' => (∃ z : Int, v = .int .i64 z ∧ (z ≥ 0 ↔ ¬ ∀ i (h : i < s.size), joinZ (s[i].toNat : Nat) = true)) ∧ Ext w w' := by
      refine callsV_of C_ok (args := [_, _]) (plans := []) Tryz.func253 rfl Tryz.ntmps253 (by kernel_rfl) (Nat.le_of_ble_eq_true rfl) ?_
      exact (indexW_spec s w).mono fun v w' h => h
    refine hI.mono ?_
    rintro v w' ⟨⟨z, rfl, hz⟩, e⟩
    refine ⟨congrArg Value.bool ?_, e⟩
    by_cases hall : ∀ i (h : i < s.size), joinZ (s[i].toNat : Nat) = true
    · have h1 : wordB s = true := decide_eq_true ⟨⟨h0, by omega⟩, fun b hb => by rw [ba_at h0] at hb; cases hb; omega, hall⟩
      rw [h1]
      exact decide_eq_false fun h => hz.1 h hall
    · have h1 : wordB s = false := decide_eq_false fun h => hall h.2.2
      rw [h1]
      exact decide_eq_true (hz.2 hall)
  refine hC.mono ?_
  rintro v w' ⟨rfl, e⟩
  exact ⟨congrArg Value.bool (Bool.not_not _), e⟩
end Go.Proofs.YtdpdjcopkehdjaaGreat.Rk
namespace Go.Proofs.YtdpdjcopkehdjaaGreat.Rk
open Go.Eng Go.RowKit
structure Rl where
  name : ByteArray
  rank : Int
  weight : Int
  test : Tst
instance : Inhabited Rl := ⟨⟨⟨#[]⟩, 0, 0, default⟩⟩
def Rl.cells (x : Rl) : List Value := .string x.name :: .int .i64 x.rank :: .int .i64 x.weight :: x.test.cells
def Rl.val (x : Rl) : Value := .agg x.cells.toArray
theorem Rl.len (x : Rl) : x.cells.length = 8 := rfl
structure RuleIs (w : World) (x : Rl) : Prop where
  name : x.name.size ≤ 9223372036854775807
  rank : In64 x.rank
  weight : In64 x.weight
  test : TestIs w x.test
structure HRs (w : World) (R : Option Addr) (l : List Rl) (c : Nat) : Prop where
  hl : HL Rl.cells w R l c
  each : ∀ x ∈ l, RuleIs w x
theorem HRs.ext {w w' : World} {R : Option Addr} {l : List Rl} {c : Nat} (h : HRs w R l c) (e : Ext w w') : HRs w' R l c := ⟨h.hl.ext e, fun x hx => ⟨(h.each x hx).name, (h.each x hx).rank, (h.each x hx).weight, (h.each x hx).test.ext e⟩⟩
theorem HRs.at {w : World} {R : Option Addr} {l : List Rl} {c : Nat} (h : HRs w R l c) {i : Nat} (hi : i < l.length) : ∃ b o, R = some ⟨b, o, none⟩ ∧ Rd w b (o + i * 8) (l[i]).cells := h.hl.at Rl.len (by omega) hi
theorem Rl.test_part (x : Rl) : ∀ i v, x.test.cells[i]? = some v → x.cells[3 + i]? = some v := by
  intro i v h
  unfold Rl.cells
  rw [show 3 + i = i + 3 by omega]
  exact h
theorem front_eq {A : Option Addr} {c k : Nat} : (if c = 0 then A else A.map (·.add (0 * k))) = A := by
  split
  · rfl
  · cases A with
    | none => rfl
    | some a => obtain ⟨b, o, s⟩ := a; simp [Addr.add]
def sameName (x y : Rl) : Bool := decide (y.name = x.name)
def ruleE (bef : List Rl) (x : Rl) : Int :=
  if wordB x.name = false then 4 else if bef.any (sameName x) = true then 6 else if ¬ ((1 ≤ x.rank ∧ x.rank ≤ 99) ∧ 1 ≤ x.weight ∧ x.weight ≤ 1000) then 1
  else if ¬ fitsP x.test then 2 else if shapedT x.test = false then 1 else 0
def listE : List Rl → List Rl → Int
  | _, [] => 0
  | bef, x :: r => if ruleE bef x ≠ 0 then ruleE bef x else listE (bef ++ [x]) r
def chkRl (l : List Rl) : Int := if 24 < l.length then 2 else listE [] l
theorem listE_step {l : List Rl} {i : Nat} (hi : i < l.length) : listE (l.take i) (l.drop i) = if ruleE (l.take i) l[i] ≠ 0 then ruleE (l.take i) l[i] else listE (l.take (i + 1)) (l.drop (i + 1)) := by
  rw [List.drop_eq_getElem_cons hi, listE, List.take_succ_eq_append_getElem hi]
theorem listE_end (l : List Rl) : listE (l.take l.length) (l.drop l.length) = 0 := by
  rw [List.drop_length]; rfl
theorem ruleE_zero {bef : List Rl} {x : Rl} (h : ruleE bef x = 0) : wordB x.name = true ∧ bef.any (sameName x) = false ∧ ((1 ≤ x.rank ∧ x.rank ≤ 99) ∧ 1 ≤ x.weight ∧ x.weight ≤ 1000) ∧ fitsP x.test ∧ shapedT x.test = true := by
  unfold ruleE at h
  split at h
  · cases h
  · split at h
    · cases h
    · split at h
      · cases h
      · split at h
        · cases h
        · split at h
          · cases h
          · rename_i k1 k2 k3 k4 k5
            exact ⟨by simpa using k1, by simpa using k2, Decidable.not_not.1 k3, Decidable.not_not.1 k4, by simpa using k5⟩
theorem listE_zero : ∀ {bef l : List Rl}, listE bef l = 0 → ∀ x ∈ l, shapedT x.test = true ∧ (1 ≤ x.rank ∧ x.rank ≤ 99) ∧ (1 ≤ x.weight ∧ x.weight ≤ 1000)
  | _, [], _, x, hx => by cases hx
  | bef, y :: r, h, x, hx => by
    rw [listE] at h
    by_cases h0 : ruleE bef y = 0
    · rw [if_neg (fun e => e h0)] at h
      rcases List.mem_cons.1 hx with rfl | hx
      · have := ruleE_zero h0; exact ⟨this.2.2.2.2, this.2.2.1⟩
      · exact listE_zero h x hx
    · rw [if_pos h0] at h; exact absurd h h0
theorem chkRl_zero {l : List Rl} (h : chkRl l = 0) : l.length ≤ 24 ∧ ∀ x ∈ l, shapedT x.test = true ∧ (1 ≤ x.rank ∧ x.rank ≤ 99) ∧ (1 ≤ x.weight ∧ x.weight ≤ 1000) := by
  unfold chkRl at h
  split at h
  · cases h
  · exact ⟨by omega, listE_zero h⟩
theorem twice_spec {w0 : World} {l : List Rl} {R : Option Addr} {c c' : Nat} (h : HL Rl.cells w0 R l c) {g : Nat} {x : Rl} (hg : w0.heap[g]? = some (.cells x.cells.toArray 72 (0, 0))) :
    CallsV C.P 131 #[.slice R l.length c', .func (.func 132) #[] #[.pointer (some ⟨g, 0, none⟩)]] w0 fun v w' => v = .bool (l.any (sameName x)) ∧ Ext w0 w' := by
  refine callsV_of C_ok (args := [_, _]) (plans := []) Tryz.func131 rfl Tryz.ntmps131 (by kernel_rfl) (Nat.le_of_ble_eq_true rfl) ?_
  have hcap := h.cap
  have hI : CallsV C.P 198 #[.slice R l.length c', .func (.func 132) #[] #[.pointer (some ⟨g, 0, none⟩)]] w0 fun v w' => (∃ z : Int, v = .int .i64 z ∧ (z ≥ 0 ↔ l.any (sameName x) = true)) ∧ Ext w0 w' := by
    refine callsV_of C_ok (args := [_, _]) (plans := []) Tryz.func198 rfl Tryz.ntmps198 (by kernel_rfl) (Nat.le_of_ble_eq_true rfl) ?_
    refine loopE C_ok (fun (i : Nat) => [(0, .slice R l.length c'), (1, .func (.func 132) #[] #[.pointer (some ⟨g, 0, none⟩)]), (7, .int .i64 l.length), (8, .int .i64 (i : Nat))])
      (fun i w' => i ≤ l.length ∧ Ext w0 w' ∧ (l.take i).any (sameName x) = false) (fun i => l.length - i) 0 ⟨rfl, rfl, rfl, rfl, trivial⟩ ⟨Nat.zero_le _, Ext.refl _, rfl⟩ ?_
    rintro i w1 ⟨hi, e1, hall⟩
    refine brE_dec (fun hlt => ?_) (fun hge => ?_)
    · have hlti : i < l.length := by have : (i : Int) < (l.length : Nat) := hlt; omega
      have next : IntKind.i64.wrap ((i : Int) + 1) = ((i + 1 : Nat) : Int) := fit ⟨by omega, by omega⟩
      obtain ⟨b, o, hA, hc5⟩ := (h.ext e1).at Rl.len (by omega) hlti
      obtain ⟨y, hy⟩ : ∃ y, y = l[i] := ⟨_, rfl⟩
      have hym : y ∈ l := by rw [hy]; exact List.getElem_mem hlti
      have hst : (l.take (i + 1)).any (sameName x) = ((l.take i).any (sameName x) || sameName x y) := by rw [List.take_succ_eq_append_getElem hlti, List.any_append, ← hy]; simp
      rw [← hy] at hc5
      refine ⟨i, b, o, rfl, hlti, hA, ?_⟩
      refine ⟨y.cells, rfl, hc5, ?_⟩
      have hS : CallsV C.P 132 #[y.val, .pointer (some ⟨g, 0, none⟩)] w1 fun v w' => v = .bool (sameName x y) ∧ Ext w1 w' := by
        refine callsV_of C_ok (args := [_, _]) (plans := []) Tryz.func132 rfl Tryz.ntmps132 (by kernel_rfl) (Nat.le_of_ble_eq_true rfl) ?_
        intro g2 w2 h2
        refine ⟨_, cell_of_block (i := 0) h2.here rfl, ?_⟩
        refine ⟨_, cell_of_block (i := 0) ((e1.trans h2.ext).heap hg) rfl, ?_⟩
        refine ⟨_, eqStr _ _ _ _, ?_⟩
        exact ⟨rfl, h2.ext⟩
      refine hS.mono ?_
      rintro v w2 ⟨rfl, e2⟩
      refine brE_mk (fun hb => ?_) (fun hb => ?_)
      · have hb : sameName x y = true := hb
        exact ⟨⟨(i : Nat), rfl, ⟨fun _ => List.any_eq_true.2 ⟨y, hym, hb⟩, fun _ => Int.natCast_nonneg _⟩⟩, e1.trans e2⟩
      · have hb : sameName x y = false := hb
        refine ⟨_, next, ?_⟩
        exact ⟨i + 1, ⟨rfl, rfl, rfl, rfl, trivial⟩, ⟨hlti, e1.trans e2, by rw [hst, hall, hb]; rfl⟩, by show l.length - (i + 1) < l.length - i; omega⟩
    · have hie : i = l.length := by have : ¬ (i : Int) < (l.length : Nat) := hge; omega
      rw [hie, List.take_length] at hall
      exact ⟨⟨-1, rfl, ⟨fun h => absurd h (by decide), fun h => by rw [hall] at h; cases h⟩⟩, e1⟩
  refine hI.mono ?_
  rintro v w' ⟨⟨z, rfl, hz⟩, e⟩
  refine ⟨congrArg Value.bool ?_, e⟩
  cases hs : l.any (sameName x) with
  | true => exact decide_eq_true (hz.2 hs)
  | false => exact decide_eq_false fun h => by rw [hz.1 h] at hs; cases hs
set_option maxRecDepth 100000 in
set_option maxHeartbeats 8000000 in
theorem rulesCheck_spec {w : World} {R : Option Addr} {l : List Rl} {c : Nat} (h : HRs w R l c) :
    CallsV C.P 76 #[.agg #[.slice R l.length c]] w fun v w' => v = .int .i64 (chkRl l) ∧ Ext w w' := by
  have hcap := h.hl.cap
  refine callsV_of C_ok (args := [_]) (plans := []) Tryz.func76 rfl Tryz.ntmps76 (by kernel_rfl) (Nat.le_of_ble_eq_true rfl) ?_
  intro g1 w1 h1
  have M1 : Mem w w1 [(g1, .cells #[.slice R l.length c] 29 (0, 0))] := (Mem.start w).alloc h1
  refine ⟨_, M1.cell 0 rfl rfl, ?_⟩
  refine brE_dec (fun c1 => ?_) (fun c1 => ?_)
  · have c1 : ((l.length : Nat) : Int) > 24 := c1
    exact ⟨congrArg (Value.int .i64) (if_pos (by omega)).symm, M1.ext⟩
  have c1 : ¬ ((l.length : Nat) : Int) > 24 := c1
  have hres : chkRl l = listE [] l := if_neg (by omega)
  rw [hres]
  refine ⟨_, M1.cell 0 rfl rfl, ?_⟩
  refine loopE C_ok (fun (i : Nat) => [(1, .pointer (some ⟨g1, 0, none⟩)), (10, .slice R l.length c), (11, .int .i64 l.length), (12, .int .i64 (i : Nat))])
    (fun i w' => i ≤ l.length ∧ Mem w w' [(g1, .cells #[.slice R l.length c] 29 (0, 0))] ∧ listE [] l = listE (l.take i) (l.drop i)) (fun i => l.length - i) 0 ⟨rfl, rfl, rfl, rfl, trivial⟩ ⟨Nat.zero_le _, M1, rfl⟩ ?_
  clear M1
  rintro i w2 ⟨hi, M, hinv⟩
  refine brE_dec (fun hlt => ?_) (fun hge => ?_)
  · have hlti : i < l.length := by have : (i : Int) < (l.length : Nat) := hlt; omega
    have next : IntKind.i64.wrap ((i : Int) + 1) = ((i + 1 : Nat) : Int) := fit ⟨by omega, by omega⟩
    obtain ⟨b, o, hA, hc8⟩ := (h.ext M.ext).at hlti
    have hstep := listE_step hlti
    have hR := h.each _ (List.getElem_mem hlti)
    obtain ⟨x, hx⟩ : ∃ x, x = l[i] := ⟨_, rfl⟩
    rw [← hx] at hc8 hstep hR
    refine ⟨i, b, o, rfl, hlti, hA, ?_⟩
    refine ⟨x.cells, rfl, hc8, ?_⟩
    intro g4 w3 h3
    have M3 := M.alloc h3
    refine ⟨rfl, _, _, M3.get 0 rfl, Nat.le_of_ble_eq_true rfl, rfl, ?_⟩
    intro w4 h4
    have M : Mem w w4 [(g4, .cells x.cells.toArray 72 (0, 0)), (g1, .cells #[.slice R l.length c] 29 (0, 0))] := M3.put 0 rfl h4
    clear M3 h3 h4
    have bad : ∀ {e : Int}, ruleE (l.take i) x = e → e ≠ 0 → Value.int .i64 e = .int .i64 (listE [] l) := fun {e} he hn => by rw [hinv, hstep, if_pos (by rw [he]; exact hn), he]
    refine ⟨_, M.cell 0 (i := 0) rfl rfl, ?_⟩
    refine (isWord_spec x.name w4 hR.name).mono ?_
    rintro v w5 ⟨rfl, e5⟩
    have M := M.grow e5
    refine brE_mk (fun b1 => ?_) (fun b1 => ?_)
    · have b1 : wordB x.name = false := by simpa using b1
      exact ⟨bad (if_pos b1) (by decide), M.ext⟩
    have b1 : ¬ wordB x.name = false := by simpa using b1
    refine ⟨_, M.cell 1 (i := 0) rfl rfl, ?_⟩
    refine ⟨0, i, rfl, rfl, Nat.zero_le _, by have := h.hl.len; omega, ?_⟩
    refine ⟨[], [.pointer (some ⟨g4, 0, none⟩)], rfl, rfl, ?_⟩
    have hfr : HL Rl.cells w5 R (l.take i) c := by
      refine ⟨?_, by rw [List.length_take]; have := h.hl.len; omega, by rw [List.length_take]; omega⟩
      have hr := (h.hl.ext M.ext).reads
      rcases hr with hr | ⟨bb, oo, hAA, hr⟩
      · left
        have : l = [] := by
          cases l with
          | nil => rfl
          | cons y r => simp [Rl.cells] at hr
        rw [this]; simp
      · refine .inr ⟨bb, oo, hAA, fun j v hv => hr j v ?_⟩
        have hspl : l.flatMap Rl.cells = (l.take i).flatMap Rl.cells ++ (l.drop i).flatMap Rl.cells := by rw [← List.flatMap_append, List.take_append_drop]
        rw [hspl, List.getElem?_append_left (List.getElem?_eq_some_iff.1 hv).1]
        exact hv
    have hT := twice_spec (c' := c) hfr (M.get 0 rfl)
    rw [show (l.take i).length = i from by rw [List.length_take]; omega] at hT
    have hsl : (Value.slice (if c = 0 then R else R.map (·.add (0 * 8))) (i - 0) (c - 0)) = .slice R i c := by rw [front_eq]; rfl
    rw [← hsl] at hT
    refine hT.mono ?_
    rintro v w6 ⟨rfl, e6⟩
    have M := M.grow e6
    refine brE_mk (fun b2 => ?_) (fun b2 => ?_)
    · have b2 : (l.take i).any (sameName x) = true := b2
      exact ⟨bad ((if_neg b1).trans (if_pos b2)) (by decide), M.ext⟩
    have b2 : ¬ (l.take i).any (sameName x) = true := by have b2 : (l.take i).any (sameName x) = false := b2; rw [b2]; decide
    have bad3 : ¬ ((1 ≤ x.rank ∧ x.rank ≤ 99) ∧ 1 ≤ x.weight ∧ x.weight ≤ 1000) → Value.int .i64 1 = .int .i64 (listE [] l) := fun hn => bad ((if_neg b1).trans ((if_neg b2).trans (if_pos hn))) (by decide)
    refine ⟨_, M.cell 0 (i := 1) rfl rfl, ?_⟩
    refine brE_dec (fun c2 => ?_) (fun c2 => ?_)
    · have c2 : x.rank < 1 := c2
      exact ⟨bad3 (by omega), M.ext⟩
    have c2 : ¬ x.rank < 1 := c2
    refine ⟨_, M.cell 0 (i := 1) rfl rfl, ?_⟩
    refine brE_dec (fun c3 => ?_) (fun c3 => ?_)
    · have c3 : x.rank > 99 := c3
      exact ⟨bad3 (by omega), M.ext⟩
    have c3 : ¬ x.rank > 99 := c3
    refine ⟨_, M.cell 0 (i := 2) rfl rfl, ?_⟩
    refine brE_dec (fun c4 => ?_) (fun c4 => ?_)
    · have c4 : x.weight < 1 := c4
      exact ⟨bad3 (by omega), M.ext⟩
    have c4 : ¬ x.weight < 1 := c4
    refine ⟨_, M.cell 0 (i := 2) rfl rfl, ?_⟩
    refine brE_dec (fun c5 => ?_) (fun c5 => ?_)
    · have c5 : x.weight > 1000 := c5
      exact ⟨bad3 (by omega), M.ext⟩
    have c5 : ¬ x.weight > 1000 := c5
    have b3 : ¬ ¬ ((1 ≤ x.rank ∧ x.rank ≤ 99) ∧ 1 ≤ x.weight ∧ x.weight ≤ 1000) := fun hn => hn ⟨⟨by omega, by omega⟩, by omega, by omega⟩
    refine ⟨x.test.cells, rfl, (M.rd 0 rfl).part x.test_part, ?_⟩
    refine (fits_spec (hR.test.ext M.ext)).mono ?_
    rintro v w7 ⟨rfl, e7⟩
    have M := M.grow e7
    refine brE_ndec (fun b4 => ?_) (fun b4 => ?_)
    · have b4 : ¬ fitsP x.test := b4
      exact ⟨bad ((if_neg b1).trans ((if_neg b2).trans ((if_neg b3).trans (if_pos b4)))) (by decide), M.ext⟩
    have b4 : ¬ ¬ fitsP x.test := fun hn => hn b4
    refine ⟨x.test.cells, rfl, (M.rd 0 rfl).part x.test_part, ?_⟩
    refine (shaped_spec (hR.test.ext M.ext) (Ext.refl _)).mono ?_
    rintro v w8 ⟨rfl, e8⟩
    have M := M.grow e8
    refine brE_mk (fun b5 => ?_) (fun b5 => ?_)
    · have b5 : shapedT x.test = false := by simpa using b5
      exact ⟨bad ((if_neg b1).trans ((if_neg b2).trans ((if_neg b3).trans ((if_neg b4).trans (if_pos b5))))) (by decide), M.ext⟩
    have b5 : ¬ shapedT x.test = false := by simpa using b5
    have hz : ruleE (l.take i) x = 0 := (if_neg b1).trans ((if_neg b2).trans ((if_neg b3).trans ((if_neg b4).trans (if_neg b5))))
    rw [hz, if_neg (fun e => e rfl)] at hstep
    refine ⟨_, next, ?_⟩
    exact ⟨i + 1, ⟨rfl, rfl, rfl, rfl, trivial⟩, ⟨hlti, M.tail, hinv.trans hstep⟩, by show l.length - (i + 1) < l.length - i; omega⟩
  · have hie : i = l.length := by have : ¬ (i : Int) < (l.length : Nat) := hge; omega
    rw [hie, listE_end] at hinv
    exact ⟨congrArg (Value.int .i64) hinv.symm, M.ext⟩
end Go.Proofs.YtdpdjcopkehdjaaGreat.Rk
namespace Go.Proofs.YtdpdjcopkehdjaaGreat.Rk
open Go.Eng Go.RowKit
def icells (x : Int) : List Value := [.int .i64 x]
theorem icells_len (x : Int) : (icells x).length = 1 := rfl
theorem put_below {B g : Nat} {o : Obj} {w w' : World} (p : Put w g o w') (h : B ≤ g) : Below B w w' := below_put (Below.refl _ _) p h
theorem icells_ints (l : List Int) : l.flatMap icells = ints l := by
  unfold ints icells
  induction l with
  | nil => rfl
  | cons x r ih => simp_all
theorem row_openB {α : Type} {enc : α → List Value} {k e : Nat} (hk : ∀ x, (enc x).length = k) (k0 : 0 < k) {B : Nat} {w : World} {v : Value} {l : List α} (h : w.ownsRow B e k v l.length (l.flatMap enc)) {i : Nat} (hi : i < l.length) :
    ∃ g cap, ∃ cur : List Value, v = .slice (some ⟨g, 0, none⟩) l.length cap ∧ w.heap[g]? = some (.cells cur.toArray e (0, 0)) ∧ 0 + i * k + k ≤ cur.length ∧ v.ownBlock = some g ∧ Rd w g (0 + i * k) (enc l[i]) ∧
      ∀ (c : Nat) (vs : List Value) (y : α) (w' : World), splice (enc l[i]) c vs = enc y → c + vs.length ≤ k → Put w g (.cells (splice cur (0 + i * k + c) vs).toArray e (0, 0)) w' → w'.ownsRow B e k v (l.set i y).length ((l.set i y).flatMap enc) := by
  have hv : ∃ g cap, v = .slice (some ⟨g, 0, none⟩) l.length cap := by
    obtain ⟨_, ⟨_, h0⟩ | ⟨g, cap, cur, hv, _⟩⟩ := h
    · omega
    · exact ⟨g, cap, hv⟩
  obtain ⟨g, cap, rfl⟩ := hv
  obtain ⟨cur, hg, _, hn, _, _, hxl, ht, hput⟩ := ownsRow_open h
  have hb : (i + 1) * k ≤ l.length * k := Nat.mul_le_mul_right k hi
  rw [Nat.add_mul, Nat.one_mul] at hb
  obtain ⟨A, c2, hA, hr, _⟩ := reads_of_owns h
  refine ⟨g, cap, cur, rfl, hg, by omega, rfl, ?_, fun c vs y w' h1 h2 h3 => ?_⟩
  · cases hA
    obtain ⟨b, o, hb2, hrd⟩ := Reads.elem hk k0 hr hi
    cases hb2
    exact hrd
  · have := hput (0 + i * k + c) vs w' (by omega) h3
    rw [Nat.zero_add, flat_field hk hi h1 h2] at this
    rw [List.length_set]
    exact this
abbrev RowI (B : Nat) (w : World) (v : Value) (l : List Int) : Prop := NewL icells 3 1 B w v l
def CmpW (B : Nat) (w0 : World) (gd : Nat) (cb : Array Value) (ok : Int → Int → Prop) (lt : Int → Int → Bool) : Prop := ∀ (x y : Int) (w : World), Below B w0 w → ok x y → CallsV C.P gd (#[] ++ [.int .i64 x, .int .i64 y].toArray ++ cb) w fun v w' => (∃ k : Int, v = .int .i64 k ∧ (k < 0 ↔ lt x y = true)) ∧ Ext w w'
theorem CmpW.later {B : Nat} {w0 w1 : World} {gd : Nat} {cb : Array Value} {ok : Int → Int → Prop} {lt : Int → Int → Bool} (h : CmpW B w0 gd cb ok lt) (b : Below B w0 w1) : CmpW B w1 gd cb ok lt := fun x y w hb hk => h x y w (b.trans hb) hk
abbrev OkL (ok : Int → Int → Prop) (l : List Int) : Prop := l.Pairwise fun y x => ok x y
theorem rowI_at {B : Nat} {w : World} {A : Option Addr} {n c : Nat} {l : List Int} (h : RowI B w (.slice A n c) l) {i : Nat} (hi : i < l.length) : ∃ g, A = some ⟨g, 0, none⟩ ∧ B ≤ g ∧ Rd w g (0 + i * 1) (icells l[i]) ∧ n = l.length := by
  obtain ⟨g, cap, cur, hv, hg, hb, hown, hrd, hput⟩ := row_openB (enc := icells) icells_len (by omega) h hi
  cases hv
  exact ⟨g, rfl, (h.lt g rfl).1, hrd, rfl⟩
theorem rowI_swap {B : Nat} {w : World} {A : Option Addr} {n c : Nat} {l : List Int} (h : RowI B w (.slice A n c) l) {i j : Nat} (hi : i < l.length) (hj : j < l.length) : ∃ g, ∃ cur : List Value, A = some ⟨g, 0, none⟩ ∧ w.heap[g]? = some (.cells cur.toArray 3 (0, 0)) ∧ 0 + i * 1 + 1 ≤ cur.length ∧
    ∀ w1, Put w g (.cells (splice cur (0 + i * 1) (icells l[j])).toArray 3 (0, 0)) w1 → ∃ cur1 : List Value, w1.heap[g]? = some (.cells cur1.toArray 3 (0, 0)) ∧ 0 + j * 1 + 1 ≤ cur1.length ∧
      ∀ w2, Put w1 g (.cells (splice cur1 (0 + j * 1) (icells l[i])).toArray 3 (0, 0)) w2 → RowI B w2 (.slice A n c) ((l.set i l[j]).set j l[i]) ∧ Below B w w2 := by
  obtain ⟨g, cap, cur, hv, hg, hb, hown, hrd, hput⟩ := row_openB (enc := icells) icells_len (by omega) h hi
  cases hv
  have hB := (h.lt g rfl).1
  refine ⟨g, cur, rfl, hg, hb, fun w1 h1 => ?_⟩
  have r1 := hput 0 (icells l[j]) l[j] w1 rfl (Nat.le_of_ble_eq_true rfl) h1
  have hj1 : j < (l.set i l[j]).length := by rw [List.length_set]; exact hj
  obtain ⟨g', cap', cur', hv', hg', hb', hown', hrd', hput'⟩ := row_openB (enc := icells) icells_len (by omega) r1 hj1
  have eg : g' = g := Option.some.inj (hown'.symm.trans hown)
  subst eg
  refine ⟨cur', hg', hb', fun w2 h2 => ⟨?_, below_put (put_below h1 hB) h2 hB⟩⟩
  exact hput' 0 (icells l[i]) l[i] w2 rfl (Nat.le_of_ble_eq_true rfl) h2
theorem swap_adj {α : Type} {P S : List α} {x y : α} : ((P ++ y :: x :: S).set (P.length + 1) y).set P.length x = P ++ x :: y :: S := by
  rw [List.set_append_right _ _ (by omega), show P.length + 1 - P.length = 1 by omega, List.set_append_right _ _ (Nat.le_refl _), Nat.sub_self]
  rfl
theorem get_adj0 {α : Type} {P S : List α} {x y : α} (h : P.length < (P ++ y :: x :: S).length) : (P ++ y :: x :: S)[P.length] = y := by simp
theorem get_adj1 {α : Type} {P S : List α} {x y : α} (h : P.length + 1 < (P ++ y :: x :: S).length) : (P ++ y :: x :: S)[P.length + 1] = x := by
  rw [List.getElem_append_right (by omega)]; simp
set_option maxRecDepth 100000 in
set_option maxHeartbeats 1000000 in
theorem insSort_spec {B : Nat} {w : World} {A : Option Addr} {n c gd a b : Nat} {cb : Array Value} {lt : Int → Int → Bool} {ok : Int → Int → Prop} {P M S : List Int} (ho : RowI B w (.slice A n c) (P ++ (M ++ S))) (hB : B ≤ w.heap.size) (hn : n ≤ 2 ^ 30) (ha : a = P.length) (hb : b = a + M.length) (hgd : C.can gd = true) (hcmp : CmpW B w gd cb ok lt) (hok : OkL ok M) (O : OrdB lt) :
    CallsV C.P 250 #[.slice A n c, .int .i64 (a : Nat), .int .i64 (b : Nat), .func (.func gd) #[] cb] w fun _ w' => ∃ M', M'.Perm M ∧ SortedB lt M' ∧ RowI B w' (.slice A n c) (P ++ (M' ++ S)) ∧ Below B w w' := by
  have hlen : n = (P ++ (M ++ S)).length := by
    obtain ⟨A', c', e, _⟩ := NewL.hl ho
    cases e; rfl
  have hln : n = P.length + (M.length + S.length) := by rw [hlen, List.length_append, List.length_append]
  refine callsV_of C_ok (args := [_, _, _, _]) (plans := plans250) Tryz.func250 rfl Tryz.ntmps250 (by kernel_rfl) (Nat.le_of_ble_eq_true rfl) ?_
  refine ⟨((a + 1 : Nat) : Int), fit ⟨by omega, by omega⟩, ?_⟩
  refine loopE C_ok (fun (p : Nat × List Int) => [(0, .slice A n c), (1, .int .i64 (a : Nat)), (2, .int .i64 (b : Nat)), (3, .func (.func gd) #[] cb), (8, .int .i64 ((a + p.1 : Nat) : Int))])
    (fun p w' => 1 ≤ p.1 ∧ p.2.Perm (M.take p.1) ∧ SortedB lt p.2 ∧ RowI B w' (.slice A n c) (P ++ (p.2 ++ (M.drop p.1 ++ S))) ∧ Below B w w') (fun p => M.length - p.1) (1, M.take 1) ⟨rfl, rfl, rfl, rfl, rfl, trivial⟩
    ⟨Nat.le_refl _, List.Perm.refl _, ?_, ?_, Below.refl _ _⟩ ?_
  · show SortedB lt (M.take 1)
    cases M with
    | nil => exact List.Pairwise.nil
    | cons x r => simp [SortedB]
  · show RowI B w (.slice A n c) (P ++ (M.take 1 ++ (M.drop 1 ++ S)))
    rw [← List.append_assoc (M.take 1), List.take_append_drop]; exact ho
  rintro ⟨k, M1⟩ w1 ⟨hk', hp', hs', ho', b1⟩
  have hk : 1 ≤ k := hk'
  have hp : M1.Perm (M.take k) := hp'
  have hs : SortedB lt M1 := hs'
  have ho1 : RowI B w1 (.slice A n c) (P ++ (M1 ++ (M.drop k ++ S))) := ho'
  clear hk' hp' hs' ho'
  refine brE_dec (fun hlt => ?_) (fun hge => ?_)
  · have hlt : k < M.length := by have : ((a + k : Nat) : Int) < (b : Nat) := hlt; omega
    have hM1 : M1.length = k := by rw [hp.length_eq, List.length_take]; omega
    generalize hx : M[k] = x
    have hdrop : M.drop k = x :: M.drop (k + 1) := by rw [← hx]; exact List.drop_eq_getElem_cons hlt
    rw [hdrop] at ho1
    refine loopE C_ok (fun (p : List Int × List Int) => [(0, .slice A n c), (1, .int .i64 (a : Nat)), (2, .int .i64 (b : Nat)), (3, .func (.func gd) #[] cb), (8, .int .i64 ((a + k : Nat) : Int)), (9, .int .i64 ((a + p.1.length : Nat) : Int))])
      (fun p w' => M1 = p.1 ++ p.2 ∧ (∀ z ∈ p.2, lt x z = true) ∧ RowI B w' (.slice A n c) (P ++ (p.1 ++ x :: (p.2 ++ (M.drop (k + 1) ++ S)))) ∧ Below B w w') (fun p => p.1.length) (M1, []) ⟨rfl, rfl, rfl, rfl, rfl, congrArg (fun q : Nat => some (Value.int IntKind.i64 ((a + q : Nat) : Int))) hM1.symm, trivial⟩
      ⟨(List.append_nil _).symm, (fun z hz => by cases hz), ho1, b1⟩ ?_
    rintro ⟨Q, R⟩ w2 ⟨hQR', hR', ho', b2⟩
    have hQR : M1 = Q ++ R := hQR'
    have hR : ∀ z ∈ R, lt x z = true := hR'
    have ho2 : RowI B w2 (.slice A n c) (P ++ (Q ++ x :: (R ++ (M.drop (k + 1) ++ S)))) := ho'
    clear hQR' hR' ho'
    have hQl : Q.length ≤ k := by rw [← hM1, hQR, List.length_append]; omega
    -- when the place is found
    have done : ∀ w3, (∀ z ∈ Q, lt x z = false) → RowI B w3 (.slice A n c) (P ++ (Q ++ x :: (R ++ (M.drop (k + 1) ++ S)))) → (Q ++ x :: R).Perm (M.take (k + 1)) ∧ SortedB lt (Q ++ x :: R) ∧ RowI B w3 (.slice A n c) (P ++ ((Q ++ x :: R) ++ (M.drop (k + 1) ++ S))) := fun w3 hq h3 => by
      refine ⟨?_, sorted_insert (by rw [← hQR]; exact hs) hq fun z hz => O.asym _ _ (hR z hz), ?_⟩
      · rw [List.take_succ_eq_append_getElem hlt, hx]
        refine List.perm_middle.trans ?_
        rw [← hQR]
        exact (List.Perm.cons x hp).trans (List.perm_append_singleton x (M.take k)).symm
      · have : (Q ++ x :: R) ++ (M.drop (k + 1) ++ S) = Q ++ x :: (R ++ (M.drop (k + 1) ++ S)) := by simp
        rw [this]; exact h3
    have fin : ∀ w3, (∀ z ∈ Q, lt x z = false) → RowI B w3 (.slice A n c) (P ++ (Q ++ x :: (R ++ (M.drop (k + 1) ++ S)))) → Below B w w3 → IntKind.i64.wrap (((a + k : Nat) : Int) + 1) = ((a + (k + 1) : Nat) : Int) := fun _ _ _ _ => fit ⟨by omega, by omega⟩
    refine brE_dec (fun hj => ?_) (fun hj => ?_)
    · have hj : 0 < Q.length := by have : ((a + Q.length : Nat) : Int) > (a : Nat) := hj; omega
      obtain ⟨I, y, rfl⟩ : ∃ I y, Q = I ++ [y] := ⟨Q.dropLast, Q.getLast (by intro e; rw [e] at hj; exact Nat.lt_irrefl _ hj), (List.dropLast_concat_getLast _).symm⟩
      have hIl : (I ++ [y]).length = I.length + 1 := by simp
      have eL : P ++ ((I ++ [y]) ++ x :: (R ++ (M.drop (k + 1) ++ S))) = (P ++ I) ++ y :: x :: (R ++ (M.drop (k + 1) ++ S)) := by simp
      rw [eL] at ho2
      have hpl : (P ++ I).length = a + I.length := by rw [List.length_append, ha]
      have hLl : ((P ++ I) ++ y :: x :: (R ++ (M.drop (k + 1) ++ S))).length = n := by
        obtain ⟨A', c', e, _⟩ := NewL.hl ho2
        cases e; rfl
      have hi0 : (P ++ I).length < ((P ++ I) ++ y :: x :: (R ++ (M.drop (k + 1) ++ S))).length := by simp only [List.length_append, List.length_cons]; omega
      have hi1 : (P ++ I).length + 1 < ((P ++ I) ++ y :: x :: (R ++ (M.drop (k + 1) ++ S))).length := by simp only [List.length_append, List.length_cons]; omega
      have sub1 : IntKind.i64.wrap (((a + (I ++ [y]).length : Nat) : Int) - 1) = ((a + I.length : Nat) : Int) := by rw [hIl, fit ⟨by omega, by omega⟩]; omega
      have idx1 : a + (I ++ [y]).length = (P ++ I).length + 1 := by rw [hIl, hpl]; omega
      have idx0 : a + I.length = (P ++ I).length := hpl.symm
      obtain ⟨g1, hA1, _, hr1, _⟩ := rowI_at ho2 hi1
      obtain ⟨g0, hA0, _, hr0, _⟩ := rowI_at ho2 hi0
      rw [get_adj1 hi1] at hr1
      rw [get_adj0 hi0] at hr0
      refine ⟨a + (I ++ [y]).length, g1, 0, rfl, by rw [idx1, ← hLl]; exact hi1, hA1, ?_⟩
      refine ⟨_, by rw [idx1]; exact hr1 0 _ rfl, ?_⟩
      refine ⟨((a + I.length : Nat) : Int), sub1, ?_⟩
      refine ⟨a + I.length, g0, 0, rfl, by rw [idx0, ← hLl]; exact hi0, hA0, ?_⟩
      refine ⟨_, by rw [idx0]; exact hr0 0 _ rfl, ?_⟩
      refine brE_true hgd ?_
      have hyx : ok x y := by
        have hym : y ∈ M.take k := hp.mem_iff.1 (by rw [hQR]; simp)
        obtain ⟨j, hj1, hj2⟩ := List.getElem_of_mem hym
        have hjk : j < k := by rw [List.length_take] at hj1; omega
        have := List.pairwise_iff_getElem.1 hok j k (by omega) hlt hjk
        rw [List.getElem_take] at hj2
        rw [hx, hj2] at this
        exact this
      refine (hcmp x y w2 b2 hyx).mono ?_
      rintro v w3 ⟨⟨z, rfl, hz⟩, e3⟩
      have ho3 := ho2.ext e3
      have b3 : Below B w w3 := b2.trans (e3.mono (Nat.le_trans hB b2.size))
      refine brE_dec (fun hc => ?_) (fun hc => ?_)
      · have hc : z < 0 := hc
        have hlt2 := hz.1 hc
        obtain ⟨g, cur, hA, hg, hb1, hput⟩ := rowI_swap ho3 hi1 hi0
        have hrd := rowI_at ho3 hi1
        have hrd0 := rowI_at ho3 hi0
        rw [get_adj1 hi1] at hrd
        rw [get_adj0 hi0] at hrd0
        obtain ⟨g1', hA1', _, hr1', _⟩ := hrd
        obtain ⟨g0', hA0', _, hr0', _⟩ := hrd0
        rw [get_adj1 hi1, get_adj0 hi0, swap_adj] at hput
        refine ⟨((a + I.length : Nat) : Int), sub1, ?_⟩
        refine ⟨((a + I.length : Nat) : Int), sub1, ?_⟩
        refine ⟨a + I.length, g0', 0, rfl, by rw [idx0, ← hLl]; exact hi0, hA0', ?_⟩
        refine ⟨_, by rw [idx0]; exact hr0' 0 _ rfl, ?_⟩
        refine ⟨a + (I ++ [y]).length, g1', 0, rfl, by rw [idx1, ← hLl]; exact hi1, hA1', ?_⟩
        refine ⟨_, by rw [idx1]; exact hr1' 0 _ rfl, ?_⟩
        refine ⟨a + (I ++ [y]).length, g, 0, rfl, by rw [idx1, ← hLl]; exact hi1, hA, ?_⟩
        rw [idx1]
        refine ⟨rfl, _, _, hg, hb1, rfl, ?_⟩
        intro w4 h4
        obtain ⟨cur1, hg1, hb2, hput2⟩ := hput w4 h4
        refine ⟨a + I.length, g, 0, rfl, by rw [idx0, ← hLl]; exact hi0, hA, ?_⟩
        rw [idx0]
        refine ⟨rfl, _, _, hg1, hb2, rfl, ?_⟩
        intro w5 h5
        obtain ⟨ho5, b5⟩ := hput2 w5 h5
        rw [← idx1]
        refine ⟨((a + I.length : Nat) : Int), sub1, ?_⟩
        refine ⟨(I, y :: R), ⟨rfl, rfl, rfl, rfl, rfl, rfl, trivial⟩, ⟨?_, ?_, ?_, b3.trans b5⟩, by show I.length < (I ++ [y]).length; rw [hIl]; omega⟩
        · show M1 = I ++ y :: R
          rw [hQR]; simp
        · intro z hz
          rcases List.mem_cons.1 hz with rfl | hz
          · exact hlt2
          · exact hR z hz
        · show RowI B w5 (.slice A n c) (P ++ (I ++ x :: ((y :: R) ++ (M.drop (k + 1) ++ S))))
          have : P ++ (I ++ x :: ((y :: R) ++ (M.drop (k + 1) ++ S))) = (P ++ I) ++ x :: y :: (R ++ (M.drop (k + 1) ++ S)) := by simp
          rw [this]; exact ho5
      · have hc : ¬ z < 0 := hc
        have hnl : lt x y = false := by
          cases e : lt x y with
          | false => rfl
          | true => exact absurd (hz.2 e) hc
        have hall : ∀ z ∈ I ++ [y], lt x z = false := sorted_last O (by rw [hQR] at hs; exact (List.pairwise_append.1 hs).1) hnl
        rw [← eL] at ho3
        obtain ⟨d1, d2, d3⟩ := done w3 hall ho3
        refine ⟨((a + (k + 1) : Nat) : Int), fin w3 hall ho3 b3, ?_⟩
        exact ⟨(k + 1, (I ++ [y]) ++ x :: R), ⟨rfl, rfl, rfl, rfl, rfl, trivial⟩, ⟨by show 1 ≤ k + 1; omega, d1, d2, d3, b3⟩, by show M.length - (k + 1) < M.length - k; omega⟩
    · have hj : Q = [] := List.length_eq_zero_iff.1 (by have : ¬ ((a + Q.length : Nat) : Int) > (a : Nat) := hj; omega)
      have hall : ∀ z ∈ Q, lt x z = false := fun z hz => by rw [hj] at hz; cases hz
      obtain ⟨d1, d2, d3⟩ := done w2 hall ho2
      refine ⟨((a + (k + 1) : Nat) : Int), fin w2 hall ho2 b2, ?_⟩
      exact ⟨(k + 1, Q ++ x :: R), ⟨rfl, rfl, rfl, rfl, rfl, trivial⟩, ⟨by show 1 ≤ k + 1; omega, d1, d2, d3, b2⟩, by show M.length - (k + 1) < M.length - k; omega⟩
  · have hge : M.length ≤ k := by have : ¬ ((a + k : Nat) : Int) < (b : Nat) := hge; omega
    rw [List.take_of_length_le hge] at hp
    rw [List.drop_eq_nil_of_le hge] at ho1
    exact ⟨M1, hp, hs, ho1, b1⟩
end Go.Proofs.YtdpdjcopkehdjaaGreat.Rk
