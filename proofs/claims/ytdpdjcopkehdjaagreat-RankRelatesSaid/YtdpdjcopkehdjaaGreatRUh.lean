/- a part of the proof: steps, walks and plain laws that the law below stands on; no condition. -/
import Derived.Test.YtdpdjcopkehdjaaGreatRUa
import Derived.Test.YtdpdjcopkehdjaaGreatRUb
import Derived.Test.YtdpdjcopkehdjaaGreatRUc
import Derived.Test.YtdpdjcopkehdjaaGreatRUd
import Derived.Test.YtdpdjcopkehdjaaGreatRUe
import Derived.Test.YtdpdjcopkehdjaaGreatRUf
import Derived.Test.YtdpdjcopkehdjaaGreatRUg
import Derived.Maps.RangeRun
set_option linter.unusedVariables false
set_option linter.unusedSimpArgs false
set_option linter.unnecessarySimpa false
set_option linter.unusedSectionVars false
namespace Go.Proofs.YtdpdjcopkehdjaaGreat.Rk
open Go.Eng Go.RowKit
inductive Tst where
  | mk (op attr side n : Int) (A : Option Addr) (c : Nat) (of : List Tst)
def Tst.op : Tst → Int | .mk x _ _ _ _ _ _ => x
def Tst.attr : Tst → Int | .mk _ x _ _ _ _ _ => x
def Tst.side : Tst → Int | .mk _ _ x _ _ _ _ => x
def Tst.n : Tst → Int | .mk _ _ _ x _ _ _ => x
def Tst.A : Tst → Option Addr | .mk _ _ _ _ x _ _ => x
def Tst.c : Tst → Nat | .mk _ _ _ _ _ x _ => x
def Tst.of : Tst → List Tst | .mk _ _ _ _ _ _ x => x
def Tst.cells (t : Tst) : List Value := [.int .u8 t.op, .int .u8 t.attr, .int .u8 t.side, .int .i64 t.n, .slice t.A t.of.length t.c]
def Tst.val (t : Tst) : Value := .agg t.cells.toArray
instance : Inhabited Tst := ⟨.mk 0 0 0 0 none 0 []⟩
theorem Tst.len (t : Tst) : t.cells.length = 5 := rfl
structure Tst.Nums (t : Tst) : Prop where
  op : 0 ≤ t.op ∧ t.op ≤ 255
  attr : 0 ≤ t.attr ∧ t.attr ≤ 255
  side : 0 ≤ t.side ∧ t.side ≤ 255
  n : In64 t.n
inductive TestIs (w : World) : Tst → Prop
  | mk {t : Tst} : t.Nums → Reads w t.A (t.of.flatMap Tst.cells) → t.of.length ≤ t.c → t.of.length ≤ 9223372036854775807 → (∀ x ∈ t.of, TestIs w x) → TestIs w t
theorem TestIs.ext {w w' : World} {t : Tst} (h : TestIs w t) (e : Ext w w') : TestIs w' t := by
  induction h with
  | mk h1 h2 h3 h4 _ ih => exact .mk h1 (h2.ext e) h3 h4 ih
def kindZ (a : Int) : Int := if a = 1 ∨ a = 2 then 1 else if a = 3 ∨ a = 4 ∨ a = 5 then 2 else if a = 6 ∨ a = 7 then 3 else 0
def rangeB (a n : Int) : Bool := if a = 1 then decide (n ≥ 1 ∧ n ≤ 5) else if a = 2 then decide (n ≥ 0 ∧ n ≤ 2) else decide (kindZ a = 2 ∧ n = 1)
def boolZ (b : Bool) : Int := if b = true then 1 else 0
def attrZ (a : Int) (p : Prof) : Int := if a = 1 then p.cls else if a = 2 then p.visit else if a = 3 then boolZ p.host else if a = 4 then boolZ p.dep else if a = 5 then boolZ p.mourn else if a = 6 then p.cred else if a = 7 then p.letter else 0
theorem kindOf_spec (a : Int) (w : World) : CallsV C.P 200 #[.int .u8 a] w fun v w' => v = .int .i64 (kindZ a) ∧ w' = w := by
  refine callsV_of C_ok (args := [_]) (plans := []) Tryz.func200 rfl Tryz.ntmps200 (by kernel_rfl) (Nat.le_of_ble_eq_true rfl) ?_

  refine brE_dec (fun h1 => ?_) (fun h1 => ?_)
  · have h1 : a = 1 := h1
    refine brE_true (decide_eq_true h1) ?_
    exact ⟨congrArg (Value.int .i64) (by unfold kindZ; (repeat' split) <;> omega), rfl⟩
  have h1 : ¬ a = 1 := h1
  refine brE_dec (fun h2 => ?_) (fun h2 => ?_)
  · have h2 : a = 2 := h2
    exact ⟨congrArg (Value.int .i64) (by unfold kindZ; (repeat' split) <;> omega), rfl⟩
  have h2 : ¬ a = 2 := h2
  refine brE_dec (fun h3 => ?_) (fun h3 => ?_)
  · have h3 : a = 3 := h3
    refine brE_true (decide_eq_true h3) ?_
    exact ⟨congrArg (Value.int .i64) (by unfold kindZ; (repeat' split) <;> omega), rfl⟩
  have h3 : ¬ a = 3 := h3
  refine brE_dec (fun h4 => ?_) (fun h4 => ?_)
  · have h4 : a = 4 := h4
    refine brE_true (decide_eq_true h4) ?_
    exact ⟨congrArg (Value.int .i64) (by unfold kindZ; (repeat' split) <;> omega), rfl⟩
  have h4 : ¬ a = 4 := h4
  refine brE_dec (fun h5 => ?_) (fun h5 => ?_)
  · have h5 : a = 5 := h5
    exact ⟨congrArg (Value.int .i64) (by unfold kindZ; (repeat' split) <;> omega), rfl⟩
  have h5 : ¬ a = 5 := h5
  refine brE_dec (fun h6 => ?_) (fun h6 => ?_)
  · have h6 : a = 6 := h6
    refine brE_true (decide_eq_true h6) ?_
    exact ⟨congrArg (Value.int .i64) (by unfold kindZ; (repeat' split) <;> omega), rfl⟩
  have h6 : ¬ a = 6 := h6
  refine brE_dec (fun h7 => ?_) (fun h7 => ?_)
  · have h7 : a = 7 := h7
    exact ⟨congrArg (Value.int .i64) (by unfold kindZ; (repeat' split) <;> omega), rfl⟩
  have h7 : ¬ a = 7 := h7
  exact ⟨congrArg (Value.int .i64) (by unfold kindZ; (repeat' split) <;> omega), rfl⟩
theorem inRange_spec (a n : Int) (w : World) : CallsV C.P 201 #[.int .u8 a, .int .i64 n] w fun v w' => v = .bool (rangeB a n) ∧ w' = w := by
  refine callsV_of C_ok (args := [_, _]) (plans := []) Tryz.func201 rfl Tryz.ntmps201 (by kernel_rfl) (Nat.le_of_ble_eq_true rfl) ?_
  refine brE_dec (fun h1 => ?_) (fun h1 => ?_)
  · have h1 : a = 1 := h1
    refine brE_dec (fun h2 => ?_) (fun h2 => ?_)
    · have h2 : n ≥ 1 := h2
      exact ⟨congrArg Value.bool (by unfold rangeB; rw [if_pos h1]; exact decide_eq_decide.2 ⟨fun h => ⟨h2, h⟩, fun h => h.2⟩), rfl⟩
    · have h2 : ¬ n ≥ 1 := h2
      exact ⟨congrArg Value.bool (by unfold rangeB; rw [if_pos h1]; exact (decide_eq_false fun h => h2 h.1).symm), rfl⟩
  have h1 : ¬ a = 1 := h1
  refine brE_dec (fun h3 => ?_) (fun h3 => ?_)
  · have h3 : a = 2 := h3
    refine brE_dec (fun h2 => ?_) (fun h2 => ?_)
    · have h2 : n ≥ 0 := h2
      exact ⟨congrArg Value.bool (by unfold rangeB; rw [if_neg h1, if_pos h3]; exact decide_eq_decide.2 ⟨fun h => ⟨h2, h⟩, fun h => h.2⟩), rfl⟩
    · have h2 : ¬ n ≥ 0 := h2
      exact ⟨congrArg Value.bool (by unfold rangeB; rw [if_neg h1, if_pos h3]; exact (decide_eq_false fun h => h2 h.1).symm), rfl⟩
  have h3 : ¬ a = 2 := h3
  refine (kindOf_spec a w).mono ?_
  rintro v w' ⟨rfl, rfl⟩
  refine brE_dec (fun h2 => ?_) (fun h2 => ?_)
  · have h2 : kindZ a = 2 := h2
    exact ⟨congrArg Value.bool (by unfold rangeB; rw [if_neg h1, if_neg h3]; exact decide_eq_decide.2 ⟨fun h => ⟨h2, h⟩, fun h => h.2⟩), rfl⟩
  · have h2 : ¬ kindZ a = 2 := h2
    exact ⟨congrArg Value.bool (by unfold rangeB; rw [if_neg h1, if_neg h3]; exact (decide_eq_false fun h => h2 h.1).symm), rfl⟩
theorem mark_spec (b : Bool) (w : World) : CallsV C.P 252 #[.bool b] w fun v w' => v = .int .i64 (boolZ b) ∧ w' = w := by
  refine callsV_of C_ok (args := [_]) (plans := []) Tryz.func252 rfl Tryz.ntmps252 (by kernel_rfl) (Nat.le_of_ble_eq_true rfl) ?_
  refine brE_mk (fun h => ?_) (fun h => ?_)
  · have h : b = true := h
    exact ⟨congrArg (Value.int .i64) (by rw [h]; rfl), rfl⟩
  · have h : b = false := h
    exact ⟨congrArg (Value.int .i64) (by rw [h]; rfl), rfl⟩
theorem view0_spec (p : Prof) (w : World) : CallsV C.P 187 #[p.val] w fun v w' => v = .int .i64 (attrZ 0 p) ∧ Ext w w' := by
  refine callsV_of C_ok (args := [_]) (plans := []) Tryz.func187 rfl Tryz.ntmps187 (by kernel_rfl) (Nat.le_of_ble_eq_true rfl) ?_
  intro g w1 h1
  exact ⟨rfl, h1.ext⟩
theorem view1_spec (p : Prof) (w : World) : CallsV C.P 188 #[p.val] w fun v w' => v = .int .i64 (attrZ 1 p) ∧ Ext w w' := by
  refine callsV_of C_ok (args := [_]) (plans := []) Tryz.func188 rfl Tryz.ntmps188 (by kernel_rfl) (Nat.le_of_ble_eq_true rfl) ?_
  intro g w1 h1
  refine ⟨_, cell_of_block (i := 0) h1.here rfl, ?_⟩
  exact ⟨rfl, h1.ext⟩
theorem view2_spec (p : Prof) (w : World) : CallsV C.P 189 #[p.val] w fun v w' => v = .int .i64 (attrZ 2 p) ∧ Ext w w' := by
  refine callsV_of C_ok (args := [_]) (plans := []) Tryz.func189 rfl Tryz.ntmps189 (by kernel_rfl) (Nat.le_of_ble_eq_true rfl) ?_
  intro g w1 h1
  refine ⟨_, cell_of_block (i := 1) h1.here rfl, ?_⟩
  exact ⟨rfl, h1.ext⟩
theorem view3_spec (p : Prof) (w : World) : CallsV C.P 190 #[p.val] w fun v w' => v = .int .i64 (attrZ 3 p) ∧ Ext w w' := by
  refine callsV_of C_ok (args := [_]) (plans := []) Tryz.func190 rfl Tryz.ntmps190 (by kernel_rfl) (Nat.le_of_ble_eq_true rfl) ?_
  intro g w1 h1
  refine ⟨_, cell_of_block (i := 2) h1.here rfl, ?_⟩
  refine (mark_spec _ w1).mono ?_
  rintro v w' ⟨rfl, rfl⟩
  exact ⟨rfl, h1.ext⟩
theorem view4_spec (p : Prof) (w : World) : CallsV C.P 191 #[p.val] w fun v w' => v = .int .i64 (attrZ 4 p) ∧ Ext w w' := by
  refine callsV_of C_ok (args := [_]) (plans := []) Tryz.func191 rfl Tryz.ntmps191 (by kernel_rfl) (Nat.le_of_ble_eq_true rfl) ?_
  intro g w1 h1
  refine ⟨_, cell_of_block (i := 3) h1.here rfl, ?_⟩
  refine (mark_spec _ w1).mono ?_
  rintro v w' ⟨rfl, rfl⟩
  exact ⟨rfl, h1.ext⟩
theorem view5_spec (p : Prof) (w : World) : CallsV C.P 192 #[p.val] w fun v w' => v = .int .i64 (attrZ 5 p) ∧ Ext w w' := by
  refine callsV_of C_ok (args := [_]) (plans := []) Tryz.func192 rfl Tryz.ntmps192 (by kernel_rfl) (Nat.le_of_ble_eq_true rfl) ?_
  intro g w1 h1
  refine ⟨_, cell_of_block (i := 4) h1.here rfl, ?_⟩
  refine (mark_spec _ w1).mono ?_
  rintro v w' ⟨rfl, rfl⟩
  exact ⟨rfl, h1.ext⟩
theorem view6_spec (p : Prof) (w : World) : CallsV C.P 193 #[p.val] w fun v w' => v = .int .i64 (attrZ 6 p) ∧ Ext w w' := by
  refine callsV_of C_ok (args := [_]) (plans := []) Tryz.func193 rfl Tryz.ntmps193 (by kernel_rfl) (Nat.le_of_ble_eq_true rfl) ?_
  intro g w1 h1
  refine ⟨_, cell_of_block (i := 5) h1.here rfl, ?_⟩
  exact ⟨rfl, h1.ext⟩
theorem view7_spec (p : Prof) (w : World) : CallsV C.P 194 #[p.val] w fun v w' => v = .int .i64 (attrZ 7 p) ∧ Ext w w' := by
  refine callsV_of C_ok (args := [_]) (plans := []) Tryz.func194 rfl Tryz.ntmps194 (by kernel_rfl) (Nat.le_of_ble_eq_true rfl) ?_
  intro g w1 h1
  refine ⟨_, cell_of_block (i := 6) h1.here rfl, ?_⟩
  exact ⟨rfl, h1.ext⟩
set_option maxRecDepth 100000 in
set_option maxHeartbeats 4000000 in
theorem value_spec (a : Int) (ha : 0 ≤ a ∧ a ≤ 7) (p : Prof) (w : World) : CallsV C.P 124 #[.int .u8 a, p.val] w fun v w' => v = .int .i64 (attrZ a p) ∧ Ext w w' := by
  have hc : a = 0 ∨ a = 1 ∨ a = 2 ∨ a = 3 ∨ a = 4 ∨ a = 5 ∨ a = 6 ∨ a = 7 := by omega
  rcases hc with rfl | rfl | rfl | rfl | rfl | rfl | rfl | rfl
  · refine callsV_of C_ok (args := [_, _]) (plans := plans124) Tryz.func124 rfl Tryz.ntmps124 (by kernel_rfl) (Nat.le_of_ble_eq_true rfl) ?_
    intro g3 w1 h1
    have M1 : Mem w w1 [(g3, .cells p.cells.toArray 38 (0, 0))] := (Mem.start w).alloc h1
    intro g5 w2 h2
    have M2 := M1.alloc h2
    refine ⟨rfl, _, _, M2.get 0 rfl, Nat.le_of_ble_eq_true rfl, rfl, ?_⟩
    intro w3 h3
    have M3 := M2.put 0 rfl h3
    refine ⟨0, rfl, by omega, ?_⟩
    refine ⟨_, M3.cell 0 (i := 0) rfl rfl, ?_⟩
    refine ⟨p.cells, rfl, M3.rd 1 rfl, ?_⟩
    refine (view0_spec p w3).mono ?_
    rintro v w4 ⟨rfl, e4⟩
    exact ⟨rfl, M3.ext.trans e4⟩
  · refine callsV_of C_ok (args := [_, _]) (plans := plans124) Tryz.func124 rfl Tryz.ntmps124 (by kernel_rfl) (Nat.le_of_ble_eq_true rfl) ?_
    intro g3 w1 h1
    have M1 : Mem w w1 [(g3, .cells p.cells.toArray 38 (0, 0))] := (Mem.start w).alloc h1
    intro g5 w2 h2
    have M2 := M1.alloc h2
    refine ⟨rfl, _, _, M2.get 0 rfl, Nat.le_of_ble_eq_true rfl, rfl, ?_⟩
    intro w3 h3
    have M3 := M2.put 0 rfl h3
    refine ⟨1, rfl, by omega, ?_⟩
    refine ⟨_, M3.cell 0 (i := 1) rfl rfl, ?_⟩
    refine ⟨p.cells, rfl, M3.rd 1 rfl, ?_⟩
    refine (view1_spec p w3).mono ?_
    rintro v w4 ⟨rfl, e4⟩
    exact ⟨rfl, M3.ext.trans e4⟩
  · refine callsV_of C_ok (args := [_, _]) (plans := plans124) Tryz.func124 rfl Tryz.ntmps124 (by kernel_rfl) (Nat.le_of_ble_eq_true rfl) ?_
    intro g3 w1 h1
    have M1 : Mem w w1 [(g3, .cells p.cells.toArray 38 (0, 0))] := (Mem.start w).alloc h1
    intro g5 w2 h2
    have M2 := M1.alloc h2
    refine ⟨rfl, _, _, M2.get 0 rfl, Nat.le_of_ble_eq_true rfl, rfl, ?_⟩
    intro w3 h3
    have M3 := M2.put 0 rfl h3
    refine ⟨2, rfl, by omega, ?_⟩
    refine ⟨_, M3.cell 0 (i := 2) rfl rfl, ?_⟩
    refine ⟨p.cells, rfl, M3.rd 1 rfl, ?_⟩
    refine (view2_spec p w3).mono ?_
    rintro v w4 ⟨rfl, e4⟩
    exact ⟨rfl, M3.ext.trans e4⟩
  · refine callsV_of C_ok (args := [_, _]) (plans := plans124) Tryz.func124 rfl Tryz.ntmps124 (by kernel_rfl) (Nat.le_of_ble_eq_true rfl) ?_
    intro g3 w1 h1
    have M1 : Mem w w1 [(g3, .cells p.cells.toArray 38 (0, 0))] := (Mem.start w).alloc h1
    intro g5 w2 h2
    have M2 := M1.alloc h2
    refine ⟨rfl, _, _, M2.get 0 rfl, Nat.le_of_ble_eq_true rfl, rfl, ?_⟩
    intro w3 h3
    have M3 := M2.put 0 rfl h3
    refine ⟨3, rfl, by omega, ?_⟩
    refine ⟨_, M3.cell 0 (i := 3) rfl rfl, ?_⟩
    refine ⟨p.cells, rfl, M3.rd 1 rfl, ?_⟩
    refine (view3_spec p w3).mono ?_
    rintro v w4 ⟨rfl, e4⟩
    exact ⟨rfl, M3.ext.trans e4⟩
  · refine callsV_of C_ok (args := [_, _]) (plans := plans124) Tryz.func124 rfl Tryz.ntmps124 (by kernel_rfl) (Nat.le_of_ble_eq_true rfl) ?_
    intro g3 w1 h1
    have M1 : Mem w w1 [(g3, .cells p.cells.toArray 38 (0, 0))] := (Mem.start w).alloc h1
    intro g5 w2 h2
    have M2 := M1.alloc h2
    refine ⟨rfl, _, _, M2.get 0 rfl, Nat.le_of_ble_eq_true rfl, rfl, ?_⟩
    intro w3 h3
    have M3 := M2.put 0 rfl h3
    refine ⟨4, rfl, by omega, ?_⟩
    refine ⟨_, M3.cell 0 (i := 4) rfl rfl, ?_⟩
    refine ⟨p.cells, rfl, M3.rd 1 rfl, ?_⟩
    refine (view4_spec p w3).mono ?_
    rintro v w4 ⟨rfl, e4⟩
    exact ⟨rfl, M3.ext.trans e4⟩
  · refine callsV_of C_ok (args := [_, _]) (plans := plans124) Tryz.func124 rfl Tryz.ntmps124 (by kernel_rfl) (Nat.le_of_ble_eq_true rfl) ?_
    intro g3 w1 h1
    have M1 : Mem w w1 [(g3, .cells p.cells.toArray 38 (0, 0))] := (Mem.start w).alloc h1
    intro g5 w2 h2
    have M2 := M1.alloc h2
    refine ⟨rfl, _, _, M2.get 0 rfl, Nat.le_of_ble_eq_true rfl, rfl, ?_⟩
    intro w3 h3
    have M3 := M2.put 0 rfl h3
    refine ⟨5, rfl, by omega, ?_⟩
    refine ⟨_, M3.cell 0 (i := 5) rfl rfl, ?_⟩
    refine ⟨p.cells, rfl, M3.rd 1 rfl, ?_⟩
    refine (view5_spec p w3).mono ?_
    rintro v w4 ⟨rfl, e4⟩
    exact ⟨rfl, M3.ext.trans e4⟩
  · refine callsV_of C_ok (args := [_, _]) (plans := plans124) Tryz.func124 rfl Tryz.ntmps124 (by kernel_rfl) (Nat.le_of_ble_eq_true rfl) ?_
    intro g3 w1 h1
    have M1 : Mem w w1 [(g3, .cells p.cells.toArray 38 (0, 0))] := (Mem.start w).alloc h1
    intro g5 w2 h2
    have M2 := M1.alloc h2
    refine ⟨rfl, _, _, M2.get 0 rfl, Nat.le_of_ble_eq_true rfl, rfl, ?_⟩
    intro w3 h3
    have M3 := M2.put 0 rfl h3
    refine ⟨6, rfl, by omega, ?_⟩
    refine ⟨_, M3.cell 0 (i := 6) rfl rfl, ?_⟩
    refine ⟨p.cells, rfl, M3.rd 1 rfl, ?_⟩
    refine (view6_spec p w3).mono ?_
    rintro v w4 ⟨rfl, e4⟩
    exact ⟨rfl, M3.ext.trans e4⟩
  · refine callsV_of C_ok (args := [_, _]) (plans := plans124) Tryz.func124 rfl Tryz.ntmps124 (by kernel_rfl) (Nat.le_of_ble_eq_true rfl) ?_
    intro g3 w1 h1
    have M1 : Mem w w1 [(g3, .cells p.cells.toArray 38 (0, 0))] := (Mem.start w).alloc h1
    intro g5 w2 h2
    have M2 := M1.alloc h2
    refine ⟨rfl, _, _, M2.get 0 rfl, Nat.le_of_ble_eq_true rfl, rfl, ?_⟩
    intro w3 h3
    have M3 := M2.put 0 rfl h3
    refine ⟨7, rfl, by omega, ?_⟩
    refine ⟨_, M3.cell 0 (i := 7) rfl rfl, ?_⟩
    refine ⟨p.cells, rfl, M3.rd 1 rfl, ?_⟩
    refine (view7_spec p w3).mono ?_
    rintro v w4 ⟨rfl, e4⟩
    exact ⟨rfl, M3.ext.trans e4⟩
def Prof.Ok (p : Prof) : Prop := ((1 ≤ p.cls ∧ p.cls ≤ 5) ∧ (0 ≤ p.visit ∧ p.visit ≤ 2)) ∧ (0 ≤ p.cred ∧ p.cred ≤ 100001) ∧ (0 ≤ p.letter ∧ p.letter ≤ 200)
instance instProfOk (p : Prof) : Decidable p.Ok := by unfold Prof.Ok; infer_instance
def profE (p : Prof) : Int := if p.Ok then 0 else 1
theorem profE_no {p : Prof} (h : ¬ p.Ok) : (1 : Int) = profE p := (if_neg h).symm
theorem CheckProfile_spec (p : Prof) (w : World) : CallsV C.P 113 #[p.val] w fun v w' => v = .int .i64 (profE p) ∧ Ext w w' := by
  refine callsV_of C_ok (args := [_]) (plans := []) Tryz.func113 rfl Tryz.ntmps113 (by kernel_rfl) (Nat.le_of_ble_eq_true rfl) ?_
  intro g w1 h1
  refine ⟨_, cell_of_block (i := 0) h1.here rfl, ?_⟩
  refine brE_dec (fun c0 => ?_) (fun c0 => ?_)
  · have c0 : p.cls < 1 := c0
    exact ⟨congrArg (Value.int .i64) (profE_no fun h => by unfold Prof.Ok at h; omega), h1.ext⟩
  have c0 : ¬ p.cls < 1 := c0
  refine ⟨_, cell_of_block (i := 0) h1.here rfl, ?_⟩
  refine brE_dec (fun c1 => ?_) (fun c1 => ?_)
  · have c1 : p.cls > 5 := c1
    exact ⟨congrArg (Value.int .i64) (profE_no fun h => by unfold Prof.Ok at h; omega), h1.ext⟩
  have c1 : ¬ p.cls > 5 := c1
  refine ⟨_, cell_of_block (i := 1) h1.here rfl, ?_⟩
  refine brE_dec (fun c2 => ?_) (fun c2 => ?_)
  · have c2 : p.visit < 0 := c2
    exact ⟨congrArg (Value.int .i64) (profE_no fun h => by unfold Prof.Ok at h; omega), h1.ext⟩
  have c2 : ¬ p.visit < 0 := c2
  refine ⟨_, cell_of_block (i := 1) h1.here rfl, ?_⟩
  refine brE_dec (fun c3 => ?_) (fun c3 => ?_)
  · have c3 : p.visit > 2 := c3
    exact ⟨congrArg (Value.int .i64) (profE_no fun h => by unfold Prof.Ok at h; omega), h1.ext⟩
  have c3 : ¬ p.visit > 2 := c3
  refine ⟨_, cell_of_block (i := 5) h1.here rfl, ?_⟩
  refine brE_dec (fun c4 => ?_) (fun c4 => ?_)
  · have c4 : p.cred < 0 := c4
    exact ⟨congrArg (Value.int .i64) (profE_no fun h => by unfold Prof.Ok at h; omega), h1.ext⟩
  have c4 : ¬ p.cred < 0 := c4
  refine ⟨_, cell_of_block (i := 5) h1.here rfl, ?_⟩
  refine brE_dec (fun c5 => ?_) (fun c5 => ?_)
  · have c5 : p.cred > 100001 := c5
    exact ⟨congrArg (Value.int .i64) (profE_no fun h => by unfold Prof.Ok at h; omega), h1.ext⟩
  have c5 : ¬ p.cred > 100001 := c5
  refine ⟨_, cell_of_block (i := 6) h1.here rfl, ?_⟩
  refine brE_dec (fun c6 => ?_) (fun c6 => ?_)
  · have c6 : p.letter < 0 := c6
    exact ⟨congrArg (Value.int .i64) (profE_no fun h => by unfold Prof.Ok at h; omega), h1.ext⟩
  have c6 : ¬ p.letter < 0 := c6
  refine ⟨_, cell_of_block (i := 6) h1.here rfl, ?_⟩
  refine brE_dec (fun c7 => ?_) (fun c7 => ?_)
  · have c7 : p.letter > 200 := c7
    exact ⟨congrArg (Value.int .i64) (profE_no fun h => by unfold Prof.Ok at h; omega), h1.ext⟩
  have c7 : ¬ p.letter > 200 := c7
  exact ⟨congrArg (Value.int .i64) (Eq.symm (if_pos (by unfold Prof.Ok; omega))), h1.ext⟩
theorem refWithin_spec (n a b : Int) (w : World) : CallsV C.P 106 #[.int .i64 n, .int .i64 a, .int .i64 b] w fun v w' => v = .bool (decide (a ≤ n ∧ n ≤ b)) ∧ w' = w := by
  refine callsV_of C_ok (args := [_, _, _]) (plans := []) Tryz.func106 rfl Tryz.ntmps106 (by kernel_rfl) (Nat.le_of_ble_eq_true rfl) ?_
  refine brE_dec (fun h1 => ?_) (fun h1 => ?_)
  · have h1 : n ≥ a := h1
    exact ⟨congrArg Value.bool (decide_eq_decide.2 ⟨fun h => ⟨h1, h⟩, fun h => h.2⟩), rfl⟩
  · have h1 : ¬ n ≥ a := h1
    exact ⟨congrArg Value.bool (Eq.symm (decide_eq_false fun h => h1 h.1)), rfl⟩
theorem refValid_spec (p : Prof) (w : World) : CallsV C.P 179 #[p.val] w fun v w' => v = .bool (decide p.Ok) ∧ Ext w w' := by
  refine callsV_of C_ok (args := [_]) (plans := []) Tryz.func179 rfl Tryz.ntmps179 (by kernel_rfl) (Nat.le_of_ble_eq_true rfl) ?_
  intro g w1 h1
  have no : ¬ p.Ok → Value.bool false = .bool (decide p.Ok) := fun h => congrArg Value.bool (decide_eq_false h).symm
  refine ⟨_, cell_of_block (i := 0) h1.here rfl, ?_⟩
  refine (refWithin_spec _ _ _ _).mono ?_
  rintro v w' ⟨rfl, rfl⟩
  obtain ⟨b0, hb0⟩ : ∃ b, b = decide ((1 : Int) ≤ p.cls ∧ p.cls ≤ 5) := ⟨_, rfl⟩
  rw [← hb0]
  refine ⟨_, cell_of_block (i := 1) h1.here rfl, ?_⟩
  refine (refWithin_spec _ _ _ _).mono ?_
  rintro v w' ⟨rfl, rfl⟩
  obtain ⟨b1, hb1⟩ : ∃ b, b = decide ((0 : Int) ≤ p.visit ∧ p.visit ≤ 2) := ⟨_, rfl⟩
  rw [← hb1]
  refine ⟨_, cell_of_block (i := 5) h1.here rfl, ?_⟩
  refine (refWithin_spec _ _ _ _).mono ?_
  rintro v w' ⟨rfl, rfl⟩
  obtain ⟨b2, hb2⟩ : ∃ b, b = decide ((0 : Int) ≤ p.cred ∧ p.cred ≤ 100001) := ⟨_, rfl⟩
  rw [← hb2]
  refine ⟨_, cell_of_block (i := 6) h1.here rfl, ?_⟩
  refine (refWithin_spec _ _ _ _).mono ?_
  rintro v w' ⟨rfl, rfl⟩
  obtain ⟨b3, hb3⟩ : ∃ b, b = decide ((0 : Int) ≤ p.letter ∧ p.letter ≤ 200) := ⟨_, rfl⟩
  rw [← hb3]
  refine brE_mk (fun c0 => ?_) (fun c0 => ?_)
  · have c0 : b0 = true := c0
    have d0 := of_decide_eq_true (hb0.symm.trans c0)
    refine brE_mk (fun c1 => ?_) (fun c1 => ?_)
    · have c1 : b1 = true := c1
      have d1 := of_decide_eq_true (hb1.symm.trans c1)
      refine brE_mk (fun c2 => ?_) (fun c2 => ?_)
      · have c2 : b2 = true := c2
        have d2 := of_decide_eq_true (hb2.symm.trans c2)
        exact ⟨congrArg Value.bool (hb3.trans (decide_eq_decide.2 ⟨fun h => ⟨⟨d0, d1⟩, d2, h⟩, fun h => h.2.2⟩)), h1.ext⟩
      · have c2 : b2 = false := c2
        exact ⟨no fun h => of_decide_eq_false (hb2.symm.trans c2) h.2.1, h1.ext⟩
    · have c1 : b1 = false := c1
      exact ⟨no fun h => of_decide_eq_false (hb1.symm.trans c1) h.1.2, h1.ext⟩
  · have c0 : b0 = false := c0
    exact ⟨no fun h => of_decide_eq_false (hb0.symm.trans c0) h.1.1, h1.ext⟩
set_option maxRecDepth 100000 in
theorem refAttr_spec (a : Int) (p : Prof) (w : World) : CallsV C.P 274 #[.int .u8 a, p.val] w fun v w' => v = .int .i64 (attrZ a p) ∧ Ext w w' := by
  refine callsV_of C_ok (args := [_, _]) (plans := []) Tryz.func274 rfl Tryz.ntmps274 (by kernel_rfl) (Nat.le_of_ble_eq_true rfl) ?_
  intro g w1 h1
  refine brE_dec (fun h1' => ?_) (fun h1' => ?_)
  · have h1' : a = 1 := h1'
    refine ⟨_, cell_of_block (i := 0) h1.here rfl, ?_⟩
    exact ⟨by rw [h1']; rfl, h1.ext⟩
  have h1' : ¬ a = 1 := h1'
  refine brE_dec (fun h2 => ?_) (fun h2 => ?_)
  · have h2 : a = 2 := h2
    refine ⟨_, cell_of_block (i := 1) h1.here rfl, ?_⟩
    exact ⟨by rw [h2]; rfl, h1.ext⟩
  have h2 : ¬ a = 2 := h2
  refine brE_dec (fun h6 => ?_) (fun h6 => ?_)
  · have h6 : a = 6 := h6
    refine ⟨_, cell_of_block (i := 5) h1.here rfl, ?_⟩
    exact ⟨by rw [h6]; rfl, h1.ext⟩
  have h6 : ¬ a = 6 := h6
  refine brE_dec (fun h7 => ?_) (fun h7 => ?_)
  · have h7 : a = 7 := h7
    refine ⟨_, cell_of_block (i := 6) h1.here rfl, ?_⟩
    exact ⟨by rw [h7]; rfl, h1.ext⟩
  have h7 : ¬ a = 7 := h7
  refine brE_dec (fun h3 => ?_) (fun h3 => ?_)
  · have h3 : a = 3 := h3
    refine ⟨_, cell_of_block (i := 2) h1.here rfl, ?_⟩
    have e : attrZ a p = boolZ p.host := by rw [h3]; rfl
    rw [e]
    refine brE_mk (fun b => ?_) (fun b => ?_)
    · have b : p.host = true := b
      exact ⟨by rw [b]; rfl, h1.ext⟩
    · have b : p.host = false := b
      exact ⟨by rw [b]; rfl, h1.ext⟩
  have h3 : ¬ a = 3 := h3
  refine brE_dec (fun h4 => ?_) (fun h4 => ?_)
  · have h4 : a = 4 := h4
    refine ⟨_, cell_of_block (i := 3) h1.here rfl, ?_⟩
    have e : attrZ a p = boolZ p.dep := by rw [h4]; rfl
    rw [e]
    refine brE_mk (fun b => ?_) (fun b => ?_)
    · have b : p.dep = true := b
      exact ⟨by rw [b]; rfl, h1.ext⟩
    · have b : p.dep = false := b
      exact ⟨by rw [b]; rfl, h1.ext⟩
  have h4 : ¬ a = 4 := h4
  refine brE_dec (fun h5 => ?_) (fun h5 => ?_)
  · have h5 : a = 5 := h5
    refine ⟨_, cell_of_block (i := 4) h1.here rfl, ?_⟩
    have e : attrZ a p = boolZ p.mourn := by rw [h5]; rfl
    rw [e]
    refine brE_mk (fun b => ?_) (fun b => ?_)
    · have b : p.mourn = true := b
      exact ⟨by rw [b]; rfl, h1.ext⟩
    · have b : p.mourn = false := b
      exact ⟨by rw [b]; rfl, h1.ext⟩
  have h5 : ¬ a = 5 := h5
  exact ⟨congrArg (Value.int .i64) (by unfold attrZ; rw [if_neg h1', if_neg h2, if_neg h3, if_neg h4, if_neg h5, if_neg h6, if_neg h7]), h1.ext⟩
theorem refMark_spec (a : Int) (w : World) : CallsV C.P 175 #[.int .u8 a] w fun v w' => v = .bool (decide (3 ≤ a ∧ a ≤ 5)) ∧ w' = w := by
  refine callsV_of C_ok (args := [_]) (plans := []) Tryz.func175 rfl Tryz.ntmps175 (by kernel_rfl) (Nat.le_of_ble_eq_true rfl) ?_
  refine brE_dec (fun h => ?_) (fun h => ?_)
  · have h : a ≥ 3 := h
    exact ⟨congrArg Value.bool (decide_eq_decide.2 ⟨fun k => ⟨h, k⟩, fun k => k.2⟩), rfl⟩
  · have h : ¬ a ≥ 3 := h
    exact ⟨congrArg Value.bool (Eq.symm (decide_eq_false fun k => h k.1)), rfl⟩
theorem refSmall_spec (a : Int) (w : World) : CallsV C.P 176 #[.int .u8 a] w fun v w' => v = .bool (decide (a = 1 ∨ a = 2)) ∧ w' = w := by
  refine callsV_of C_ok (args := [_]) (plans := []) Tryz.func176 rfl Tryz.ntmps176 (by kernel_rfl) (Nat.le_of_ble_eq_true rfl) ?_
  refine brE_dec (fun h => ?_) (fun h => ?_)
  · have h : a = 1 := h
    exact ⟨congrArg Value.bool (Eq.symm (decide_eq_true (.inl h))), rfl⟩
  · have h : ¬ a = 1 := h
    exact ⟨congrArg Value.bool (decide_eq_decide.2 ⟨fun k => .inr k, fun k => k.resolve_left h⟩), rfl⟩
theorem refOrd_spec (a : Int) (w : World) : CallsV C.P 177 #[.int .u8 a] w fun v w' => v = .bool (decide (a = 6 ∨ a = 7)) ∧ w' = w := by
  refine callsV_of C_ok (args := [_]) (plans := []) Tryz.func177 rfl Tryz.ntmps177 (by kernel_rfl) (Nat.le_of_ble_eq_true rfl) ?_
  refine brE_dec (fun h => ?_) (fun h => ?_)
  · have h : a = 6 := h
    exact ⟨congrArg Value.bool (Eq.symm (decide_eq_true (.inl h))), rfl⟩
  · have h : ¬ a = 6 := h
    exact ⟨congrArg Value.bool (decide_eq_decide.2 ⟨fun k => .inr k, fun k => k.resolve_left h⟩), rfl⟩
def numB (a n : Int) : Bool := if a = 1 then decide (1 ≤ n ∧ n ≤ 5) else if a = 2 then decide (0 ≤ n ∧ n ≤ 2) else decide (n = 1)
theorem refValue_spec (a n : Int) (w : World) : CallsV C.P 178 #[.int .u8 a, .int .i64 n] w fun v w' => v = .bool (numB a n) ∧ w' = w := by
  refine callsV_of C_ok (args := [_, _]) (plans := []) Tryz.func178 rfl Tryz.ntmps178 (by kernel_rfl) (Nat.le_of_ble_eq_true rfl) ?_
  refine brE_dec (fun h1 => ?_) (fun h1 => ?_)
  · have h1 : a = 1 := h1
    refine (refWithin_spec _ _ _ w).mono ?_
    rintro v w' ⟨rfl, rfl⟩
    exact ⟨congrArg Value.bool (Eq.symm (if_pos h1)), rfl⟩
  have h1 : ¬ a = 1 := h1
  refine brE_dec (fun h2 => ?_) (fun h2 => ?_)
  · have h2 : a = 2 := h2
    refine (refWithin_spec _ _ _ w).mono ?_
    rintro v w' ⟨rfl, rfl⟩
    exact ⟨congrArg Value.bool (Eq.symm ((if_neg h1).trans (if_pos h2))), rfl⟩
  have h2 : ¬ a = 2 := h2
  exact ⟨congrArg Value.bool (Eq.symm ((if_neg h1).trans (if_neg h2))), rfl⟩
end Go.Proofs.YtdpdjcopkehdjaaGreat.Rk
namespace Go.Proofs.YtdpdjcopkehdjaaGreat.Rk
open Go.Eng Go.RowKit
mutual
def cntT : Tst → Nat
  | .mk _ _ _ _ _ _ of => 1 + cntL of
def cntL : List Tst → Nat
  | [] => 0
  | x :: r => cntT x + cntL r
end
mutual
def depT : Tst → Nat
  | .mk _ _ _ _ _ _ of => 1 + depL of
def depL : List Tst → Nat
  | [] => 0
  | x :: r => max (depT x) (depL r)
end
theorem cntT_eq (t : Tst) : cntT t = 1 + cntL t.of := by cases t; rfl
theorem depT_eq (t : Tst) : depT t = 1 + depL t.of := by cases t; rfl
theorem cntL_append : ∀ (a b : List Tst), cntL (a ++ b) = cntL a + cntL b
  | [], b => by simp [cntL]
  | x :: r, b => by simp only [List.cons_append, cntL, cntL_append r b]; omega
theorem depL_append : ∀ (a b : List Tst), depL (a ++ b) = max (depL a) (depL b)
  | [], b => by simp [depL]
  | x :: r, b => by simp only [List.cons_append, depL, depL_append r b]; omega
theorem cntL_take {l : List Tst} {i : Nat} (h : i < l.length) : cntL (l.take (i + 1)) = cntL (l.take i) + cntT l[i] := by
  rw [List.take_succ_eq_append_getElem h, cntL_append]; simp [cntL]
theorem depL_take {l : List Tst} {i : Nat} (h : i < l.length) : depL (l.take (i + 1)) = max (depL (l.take i)) (depT l[i]) := by
  rw [List.take_succ_eq_append_getElem h, depL_append]; simp [depL]
theorem cntL_part (l : List Tst) (i : Nat) : cntL (l.take i) ≤ cntL l := by
  have h := cntL_append (l.take i) (l.drop i)
  rw [List.take_append_drop] at h; omega
theorem depL_part (l : List Tst) (i : Nat) : depL (l.take i) ≤ depL l := by
  have h := depL_append (l.take i) (l.drop i)
  rw [List.take_append_drop] at h; omega
theorem depT_pos (t : Tst) : 1 ≤ depT t := by rw [depT_eq]; omega
def fitsP (t : Tst) : Prop := cntT t ≤ 24 ∧ depT t ≤ 6
instance (t : Tst) : Decidable (fitsP t) := by unfold fitsP; infer_instance
def sizeF (g4 g5 g6 : Nat) : Value := .func (.func 254) #[] #[.pointer (some ⟨g4, 0, none⟩), .pointer (some ⟨g5, 0, none⟩), .pointer (some ⟨g6, 0, none⟩)]
def intB (n : Nat) : Obj := .cells #[.int .i64 (n : Nat)] 3 (0, 0)
set_option maxRecDepth 100000 in
set_option maxHeartbeats 2000000 in
theorem walk_spec {w0 : World} {t : Tst} (h : TestIs w0 t) : ∀ {w : World} {g4 g5 g6 n d at' : Nat}, Mem w0 w [(g6, .cells #[sizeF g4 g5 g6] 272 (0, 0)), (g5, intB d), (g4, intB n)] → n ≤ 24 → d ≤ 6 → at' ≤ 7 →
    CallsV C.P 254 #[t.val, .int .i64 (at' : Nat), .pointer (some ⟨g4, 0, none⟩), .pointer (some ⟨g5, 0, none⟩), .pointer (some ⟨g6, 0, none⟩)] w fun v w' => ∃ n' d' : Nat, Mem w0 w' [(g6, .cells #[sizeF g4 g5 g6] 272 (0, 0)), (g5, intB d'), (g4, intB n')] ∧
      ((v = .bool true ∧ n' = n + cntT t ∧ d' = max d (at' + depT t - 1) ∧ n' ≤ 24 ∧ d' ≤ 6) ∨ (v = .bool false ∧ (24 < n + cntT t ∨ 6 < max d (at' + depT t - 1)))) := by
  induction h with
  | @mk t hn hr hc hl hk ih =>
  intro w g4 g5 g6 n d at' M hn1 hd1 hat
  refine callsV_of C_ok (args := [_, _, _, _, _]) (plans := []) Tryz.func254 rfl Tryz.ntmps254 (by kernel_rfl) (Nat.le_of_ble_eq_true rfl) ?_
  intro gt w1 h1
  have M1 := M.alloc h1
  have ec := cntT_eq t
  have ed := depT_eq t
  refine ⟨_, M1.cell 3 rfl rfl, ?_⟩
  refine ⟨((n + 1 : Nat) : Int), fit ⟨by omega, by omega⟩, ?_⟩
  refine ⟨rfl, _, _, M1.get 3 rfl, Nat.le_of_ble_eq_true rfl, rfl, ?_⟩
  intro w2 h2
  have M2 : Mem w0 w2 [(gt, .cells t.cells.toArray 70 (0, 0)), (g6, .cells #[sizeF g4 g5 g6] 272 (0, 0)), (g5, intB d), (g4, intB (n + 1))] := M1.put 3 rfl h2
  refine ⟨_, M2.cell 2 rfl rfl, ?_⟩
  have hmx : (if ((at' : Nat) : Int) > ((d : Nat) : Int) then ((at' : Nat) : Int) else ((d : Nat) : Int)) = ((max d at' : Nat) : Int) := by split <;> omega
  refine ⟨_, maxQ' hmx rfl rfl rfl, ?_⟩
  refine ⟨rfl, _, _, M2.get 2 rfl, Nat.le_of_ble_eq_true rfl, rfl, ?_⟩
  intro w3 h3
  have M3 : Mem w0 w3 [(gt, .cells t.cells.toArray 70 (0, 0)), (g6, .cells #[sizeF g4 g5 g6] 272 (0, 0)), (g5, intB (max d at')), (g4, intB (n + 1))] := M2.put 2 rfl h3
  clear M M1 M2 h1 h2 h3
  refine ⟨_, M3.cell 3 rfl rfl, ?_⟩
  refine brE_dec (fun c1 => ?_) (fun c1 => ?_)
  · have c1 : ((n + 1 : Nat) : Int) > 24 := c1
    exact ⟨_, _, M3.tail, .inr ⟨rfl, .inl (by omega)⟩⟩
  have c1 : ¬ ((n + 1 : Nat) : Int) > 24 := c1
  refine ⟨_, M3.cell 2 rfl rfl, ?_⟩
  refine brE_dec (fun c2 => ?_) (fun c2 => ?_)
  · have c2 : ((max d at' : Nat) : Int) > 6 := c2
    exact ⟨_, _, M3.tail, .inr ⟨rfl, .inr (by omega)⟩⟩
  have c2 : ¬ ((max d at' : Nat) : Int) > 6 := c2
  refine ⟨_, M3.cell 0 (i := 4) rfl rfl, ?_⟩
  refine loopE C_ok (fun (s : Nat × Nat × Nat) => [(1, .int .i64 (at' : Nat)), (4, .pointer (some ⟨g6, 0, none⟩)), (22, .slice t.A t.of.length t.c), (23, .int .i64 t.of.length), (24, .int .i64 (s.1 : Nat))])
    (fun s w' => s.1 ≤ t.of.length ∧ Mem w0 w' [(g6, .cells #[sizeF g4 g5 g6] 272 (0, 0)), (g5, intB s.2.2), (g4, intB s.2.1)] ∧ s.2.1 = n + 1 + cntL (t.of.take s.1) ∧ s.2.2 = max (max d at') (at' + depL (t.of.take s.1)) ∧ s.2.1 ≤ 24 ∧ s.2.2 ≤ 6)
    (fun s => t.of.length - s.1) (0, n + 1, max d at') ⟨rfl, rfl, rfl, rfl, rfl, trivial⟩ ⟨Nat.zero_le _, M3.tail, by simp [cntL], by simp [depL], by show n + 1 ≤ 24; omega, by show max d at' ≤ 6; omega⟩ ?_
  rintro ⟨i, ni, di⟩ w4 ⟨hi', M', en', ed', hn2', hd2'⟩
  have hi : i ≤ t.of.length := hi'
  have M : Mem w0 w4 [(g6, .cells #[sizeF g4 g5 g6] 272 (0, 0)), (g5, intB di), (g4, intB ni)] := M'
  have en : ni = n + 1 + cntL (t.of.take i) := en'
  have edd : di = max (max d at') (at' + depL (t.of.take i)) := ed'
  have hn2 : ni ≤ 24 := hn2'
  have hd2 : di ≤ 6 := hd2'
  clear hi' M' en' ed' hn2' hd2'
  refine brE_dec (fun hlt => ?_) (fun hge => ?_)
  · have hlti : i < t.of.length := by have : (i : Int) < (t.of.length : Nat) := hlt; omega
    have next : IntKind.i64.wrap ((i : Int) + 1) = ((i + 1 : Nat) : Int) := fit ⟨by omega, by omega⟩
    obtain ⟨b, o, hA, hc5⟩ := Reads.elem Tst.len (by omega) (hr.ext M.ext) hlti
    obtain ⟨x, hx⟩ : ∃ x, x = t.of[i] := ⟨_, rfl⟩
    rw [← hx] at hc5
    have ct := cntL_take hlti
    have dt := depL_take hlti
    rw [← hx] at ct dt
    have cp := cntL_part t.of (i + 1)
    have dp := depL_part t.of (i + 1)
    have px := depT_pos x
    refine ⟨i, b, o, rfl, hlti, hA, ?_⟩
    refine ⟨x.cells, rfl, hc5, ?_⟩
    intro g9 w5 h5
    have M5 := M.alloc h5
    refine ⟨rfl, _, _, M5.get 0 rfl, Nat.le_of_ble_eq_true rfl, rfl, ?_⟩
    intro w6 h6
    have M6 : Mem w0 w6 [(g9, .cells x.cells.toArray 70 (0, 0)), (g6, .cells #[sizeF g4 g5 g6] 272 (0, 0)), (g5, intB di), (g4, intB ni)] := M5.put 0 rfl h6
    refine ⟨_, M6.cell 1 rfl rfl, ?_⟩
    refine ⟨x.cells, rfl, M6.rd 0 rfl, ?_⟩
    refine ⟨((at' + 1 : Nat) : Int), fit ⟨by omega, by omega⟩, ?_⟩
    refine (ih x (by rw [hx]; exact List.getElem_mem hlti) M6.tail hn2 hd2 (by omega)).mono ?_
    rintro v w7 ⟨n', d', M7, ⟨rfl, e1, e2, k1, k2⟩ | ⟨rfl, hbad⟩⟩
    · refine ⟨_, next, ?_⟩
      refine ⟨(i + 1, n', d'), ⟨rfl, rfl, rfl, rfl, rfl, trivial⟩, ⟨hlti, M7, by show n' = n + 1 + cntL (t.of.take (i + 1)); omega, by show d' = max (max d at') (at' + depL (t.of.take (i + 1))); omega, k1, k2⟩, by show t.of.length - (i + 1) < t.of.length - i; omega⟩
    · refine ⟨_, _, M7, .inr ⟨rfl, ?_⟩⟩
      rcases hbad with hb | hb
      · exact .inl (by omega)
      · exact .inr (by omega)
  · have hie : i = t.of.length := by have : ¬ (i : Int) < (t.of.length : Nat) := hge; omega
    rw [hie, List.take_length] at en edd
    exact ⟨_, _, M, .inl ⟨rfl, by omega, by omega, hn2, hd2⟩⟩
set_option maxRecDepth 100000 in
theorem fits_spec {w : World} {t : Tst} (h : TestIs w t) : CallsV C.P 133 #[t.val] w fun v w' => v = .bool (decide (fitsP t)) ∧ Ext w w' := by
  refine callsV_of C_ok (args := [_]) (plans := []) Tryz.func133 rfl Tryz.ntmps133 (by kernel_rfl) (Nat.le_of_ble_eq_true rfl) ?_
  intro g1 w1 h1
  refine ⟨t.cells, rfl, Rd.of_block h1.here, ?_⟩
  have hS : CallsV C.P 199 #[t.val] w1 fun v w' => (∃ n d : Int, v = .tuple #[.int .i64 n, .int .i64 d] ∧ (n ≤ 24 ↔ fitsP t)) ∧ Ext w1 w' := by
    refine callsV_of C_ok (args := [_]) (plans := plans199) Tryz.func199 rfl Tryz.ntmps199 (by kernel_rfl) (Nat.le_of_ble_eq_true rfl) ?_
    intro gb w2 h2
    have M2 := (Mem.start w1).alloc h2
    intro g4 w3 h3
    have M3 := M2.alloc h3
    intro g5 w4 h4
    have M4 := M3.alloc h4
    refine ⟨rfl, _, _, M4.get 1 rfl, Nat.le_of_ble_eq_true rfl, rfl, ?_⟩
    intro w5 h5
    have M5 := M4.put 1 rfl h5
    refine ⟨rfl, _, _, M5.get 0 rfl, Nat.le_of_ble_eq_true rfl, rfl, ?_⟩
    intro w6 h6
    have M6 : Mem w1 w6 [(g5, intB 0), (g4, intB 0), (gb, .cells t.cells.toArray 70 (0, 0))] := M5.put 0 rfl h6
    intro g6 w7 h7
    have M7 := M6.alloc h7
    refine ⟨[], [.pointer (some ⟨g4, 0, none⟩), .pointer (some ⟨g5, 0, none⟩), .pointer (some ⟨g6, 0, none⟩)], rfl, rfl, ?_⟩
    refine ⟨rfl, _, _, M7.get 0 rfl, Nat.le_of_ble_eq_true rfl, rfl, ?_⟩
    intro w8 h8
    have M8 : Mem w1 w8 [(g6, .cells #[sizeF g4 g5 g6] 272 (0, 0)), (g5, intB 0), (g4, intB 0), (gb, .cells t.cells.toArray 70 (0, 0))] := M7.put 0 rfl h8
    have M9 : Mem w1 w8 [(g6, .cells #[sizeF g4 g5 g6] 272 (0, 0)), (g5, intB 0), (g4, intB 0)] := M8.sub (by simp)
    refine ⟨_, M8.cell 0 rfl rfl, ?_⟩
    refine ⟨t.cells, rfl, M8.rd 3 rfl, ?_⟩
    refine (walk_spec (n := 0) (d := 0) (at' := 1) (h.ext h1.ext) M9 (by omega) (by omega) (by omega)).mono ?_
    rintro v w9 ⟨n', d', M10, ⟨rfl, e1, e2, k1, k2⟩ | ⟨rfl, hbad⟩⟩
    · refine ⟨_, M10.cell 2 rfl rfl, ?_⟩
      refine ⟨_, M10.cell 1 rfl rfl, ?_⟩
      exact ⟨⟨_, _, rfl, ⟨fun _ => ⟨by omega, by omega⟩, fun _ => by omega⟩⟩, M10.ext⟩
    · refine ⟨⟨_, _, rfl, ⟨fun hh => absurd hh (by decide), fun hh => ?_⟩⟩, M10.ext⟩
      have h1 := hh.1
      have h2 := hh.2
      omega
  refine hS.mono ?_
  rintro v w2 ⟨⟨n, d, rfl, hn⟩, e⟩
  exact ⟨congrArg Value.bool (decide_eq_decide.2 hn), h1.ext.trans e⟩
set_option maxRecDepth 100000 in
theorem count_spec {w0 : World} {t : Tst} (h : TestIs w0 t) : ∀ {w : World} {most : Nat}, Ext w0 w → most ≤ 24 →
    CallsV C.P 244 #[t.val, .int .i64 (most : Nat)] w fun v w' => (∃ n : Nat, v = .int .i64 (n : Nat) ∧ (n = cntT t ∨ most < n ∧ most < cntT t) ∧ n ≤ most + 1) ∧ Ext w w' := by
  induction h with
  | @mk t hn hr hc hl hk ih =>
  intro w most e0 hm
  refine callsV_of C_ok (args := [_, _]) (plans := []) Tryz.func244 rfl Tryz.ntmps244 (by kernel_rfl) (Nat.le_of_ble_eq_true rfl) ?_
  intro gt w1 h1
  have M1 := (Mem.start w).alloc h1
  have ec := cntT_eq t
  refine loopE C_ok (fun (s : Nat × Nat) => [(1, .int .i64 (most : Nat)), (2, .pointer (some ⟨gt, 0, none⟩)), (5, .int .i64 (s.2 : Nat)), (6, .int .i64 (s.1 : Nat))])
    (fun s w' => s.1 ≤ t.of.length ∧ Mem w w' [(gt, .cells t.cells.toArray 70 (0, 0))] ∧ (s.2 = 1 + cntL (t.of.take s.1) ∨ most < s.2 ∧ most < 1 + cntL (t.of.take s.1)) ∧ s.2 ≤ most + 1)
    (fun s => t.of.length - s.1) (0, 1) ⟨rfl, rfl, rfl, rfl, trivial⟩ ⟨Nat.zero_le _, M1, .inl (by simp [cntL]), by show 1 ≤ most + 1; omega⟩ ?_
  rintro ⟨i, n⟩ w2 ⟨hi', M', en', hb'⟩
  have hi : i ≤ t.of.length := hi'
  have M : Mem w w2 [(gt, .cells t.cells.toArray 70 (0, 0))] := M'
  have en : n = 1 + cntL (t.of.take i) ∨ most < n ∧ most < 1 + cntL (t.of.take i) := en'
  have hb : n ≤ most + 1 := hb'
  clear hi' M' en' hb'
  have cp := cntL_part t.of i
  refine ⟨_, M.cell 0 (i := 4) rfl rfl, ?_⟩
  refine brE_dec (fun hlt => ?_) (fun hge => ?_)
  · have hlti : i < t.of.length := by have : (i : Int) < (t.of.length : Nat) := hlt; omega
    refine brE_dec (fun hle => ?_) (fun hgt => ?_)
    · have hle : (n : Int) ≤ (most : Nat) := hle
      have next : IntKind.i64.wrap ((i : Int) + 1) = ((i + 1 : Nat) : Int) := fit ⟨by omega, by omega⟩
      obtain ⟨b, o, hA, hc5⟩ := Reads.elem Tst.len (by omega) (hr.ext (e0.trans M.ext)) hlti
      obtain ⟨x, hx⟩ : ∃ x, x = t.of[i] := ⟨_, rfl⟩
      rw [← hx] at hc5
      have ct := cntL_take hlti
      rw [← hx] at ct
      refine ⟨_, M.cell 0 (i := 4) rfl rfl, ?_⟩
      refine ⟨i, b, o, rfl, hlti, hA, ?_⟩
      refine ⟨x.cells, rfl, hc5, ?_⟩
      refine ⟨((most - n : Nat) : Int), by rw [fit ⟨by omega, by omega⟩]; omega, ?_⟩
      refine (ih x (by rw [hx]; exact List.getElem_mem hlti) (e0.trans M.ext) (by omega)).mono ?_
      rintro v w3 ⟨⟨k, rfl, hk1, hk2⟩, e3⟩
      refine ⟨((n + k : Nat) : Int), fit ⟨by omega, by omega⟩, ?_⟩
      refine ⟨_, next, ?_⟩
      refine ⟨(i + 1, n + k), ⟨rfl, rfl, rfl, rfl, trivial⟩, ⟨hlti, M.grow e3, ?_, ?_⟩, by show t.of.length - (i + 1) < t.of.length - i; omega⟩
      · show n + k = 1 + cntL (t.of.take (i + 1)) ∨ most < n + k ∧ most < 1 + cntL (t.of.take (i + 1))
        omega
      · show n + k ≤ most + 1
        omega
    · have hgt : ¬ (n : Int) ≤ (most : Nat) := hgt
      exact ⟨⟨n, rfl, by omega, hb⟩, M.ext⟩
  · have hie : i = t.of.length := by have : ¬ (i : Int) < (t.of.length : Nat) := hge; omega
    rw [hie, List.take_length] at en
    exact ⟨⟨n, rfl, by omega, hb⟩, M.ext⟩
set_option maxRecDepth 100000 in
theorem depth_spec {w0 : World} {t : Tst} (h : TestIs w0 t) : ∀ {w : World} {most : Nat}, Ext w0 w → most ≤ 6 →
    CallsV C.P 245 #[t.val, .int .i64 (most : Nat)] w fun v w' => (∃ n : Nat, v = .int .i64 (n : Nat) ∧ (n = depT t ∨ most < n ∧ most < depT t) ∧ n ≤ most + 1) ∧ Ext w w' := by
  induction h with
  | @mk t hn hr hc hl hk ih =>
  intro w most e0 hm
  refine callsV_of C_ok (args := [_, _]) (plans := []) Tryz.func245 rfl Tryz.ntmps245 (by kernel_rfl) (Nat.le_of_ble_eq_true rfl) ?_
  intro gt w1 h1
  have M1 := (Mem.start w).alloc h1
  have ec := depT_eq t
  refine loopE C_ok (fun (s : Nat × Nat) => [(1, .int .i64 (most : Nat)), (2, .pointer (some ⟨gt, 0, none⟩)), (5, .int .i64 (s.2 : Nat)), (6, .int .i64 (s.1 : Nat))])
    (fun s w' => s.1 ≤ t.of.length ∧ Mem w w' [(gt, .cells t.cells.toArray 70 (0, 0))] ∧ (s.2 = depL (t.of.take s.1) ∨ most ≤ s.2 ∧ most ≤ depL (t.of.take s.1)) ∧ s.2 ≤ most)
    (fun s => t.of.length - s.1) (0, 0) ⟨rfl, rfl, rfl, rfl, trivial⟩ ⟨Nat.zero_le _, M1, .inl (by simp [depL]), Nat.zero_le _⟩ ?_
  rintro ⟨i, n⟩ w2 ⟨hi', M', en', hb'⟩
  have hi : i ≤ t.of.length := hi'
  have M : Mem w w2 [(gt, .cells t.cells.toArray 70 (0, 0))] := M'
  have en : n = depL (t.of.take i) ∨ most ≤ n ∧ most ≤ depL (t.of.take i) := en'
  have hb : n ≤ most := hb'
  clear hi' M' en' hb'
  have cp := depL_part t.of i
  refine ⟨_, M.cell 0 (i := 4) rfl rfl, ?_⟩
  refine brE_dec (fun hlt => ?_) (fun hge => ?_)
  · have hlti : i < t.of.length := by have : (i : Int) < (t.of.length : Nat) := hlt; omega
    refine brE_dec (fun hle => ?_) (fun hgt => ?_)
    · have hle : (n : Int) < (most : Nat) := hle
      have next : IntKind.i64.wrap ((i : Int) + 1) = ((i + 1 : Nat) : Int) := fit ⟨by omega, by omega⟩
      obtain ⟨b, o, hA, hc5⟩ := Reads.elem Tst.len (by omega) (hr.ext (e0.trans M.ext)) hlti
      obtain ⟨x, hx⟩ : ∃ x, x = t.of[i] := ⟨_, rfl⟩
      rw [← hx] at hc5
      have ct := depL_take hlti
      rw [← hx] at ct
      refine ⟨_, M.cell 0 (i := 4) rfl rfl, ?_⟩
      refine ⟨i, b, o, rfl, hlti, hA, ?_⟩
      refine ⟨x.cells, rfl, hc5, ?_⟩
      refine ⟨((most - 1 : Nat) : Int), by rw [fit ⟨by omega, by omega⟩]; omega, ?_⟩
      refine (ih x (by rw [hx]; exact List.getElem_mem hlti) (e0.trans M.ext) (by omega)).mono ?_
      rintro v w3 ⟨⟨k, rfl, hk1, hk2⟩, e3⟩
      have hmx : (if ((k : Nat) : Int) > ((n : Nat) : Int) then ((k : Nat) : Int) else ((n : Nat) : Int)) = ((max n k : Nat) : Int) := by split <;> omega
      refine ⟨_, maxQ' hmx rfl rfl rfl, ?_⟩
      refine ⟨_, next, ?_⟩
      refine ⟨(i + 1, max n k), ⟨rfl, rfl, rfl, rfl, trivial⟩, ⟨hlti, M.grow e3, ?_, ?_⟩, by show t.of.length - (i + 1) < t.of.length - i; omega⟩
      · show max n k = depL (t.of.take (i + 1)) ∨ most ≤ max n k ∧ most ≤ depL (t.of.take (i + 1))
        omega
      · show max n k ≤ most
        omega
    · have hgt : ¬ (n : Int) < (most : Nat) := hgt
      refine ⟨((n + 1 : Nat) : Int), fit ⟨by omega, by omega⟩, ?_⟩
      exact ⟨⟨n + 1, rfl, by omega, by omega⟩, M.ext⟩
  · have hie : i = t.of.length := by have : ¬ (i : Int) < (t.of.length : Nat) := hge; omega
    rw [hie, List.take_length] at en
    refine ⟨((n + 1 : Nat) : Int), fit ⟨by omega, by omega⟩, ?_⟩
    exact ⟨⟨n + 1, rfl, by omega, by omega⟩, M.ext⟩
set_option maxRecDepth 100000 in
theorem small_spec {w : World} {t : Tst} (h : TestIs w t) : CallsV C.P 107 #[t.val] w fun v w' => v = .bool (decide (fitsP t)) ∧ Ext w w' := by
  refine callsV_of C_ok (args := [_]) (plans := []) Tryz.func107 rfl Tryz.ntmps107 (by kernel_rfl) (Nat.le_of_ble_eq_true rfl) ?_
  intro g1 w1 h1
  refine ⟨t.cells, rfl, Rd.of_block h1.here, ?_⟩
  have hS : CallsV C.P 174 #[t.val] w1 fun v w' => (∃ n d : Int, v = .tuple #[.int .i64 n, .int .i64 d] ∧ (n ≤ 24 ↔ fitsP t)) ∧ Ext w1 w' := by
    refine callsV_of C_ok (args := [_]) (plans := []) Tryz.func174 rfl Tryz.ntmps174 (by kernel_rfl) (Nat.le_of_ble_eq_true rfl) ?_
    intro gb w2 h2
    have M2 : Mem w1 w2 [(gb, .cells t.cells.toArray 70 (0, 0))] := (Mem.start w1).alloc h2
    refine ⟨t.cells, rfl, M2.rd 0 rfl, ?_⟩
    refine (count_spec (most := 24) h (h1.ext.trans M2.ext) (by omega)).mono ?_
    rintro v w3 ⟨⟨n, rfl, hn1, hn2⟩, e3⟩
    have M3 := M2.grow e3
    refine brE_dec (fun c1 => ?_) (fun c1 => ?_)
    · have c1 : ((n : Nat) : Int) > 24 := c1
      refine ⟨⟨_, _, rfl, ⟨fun hh => absurd hh (by decide), fun hh => ?_⟩⟩, M3.ext⟩
      have k1 := hh.1
      omega
    have c1 : ¬ ((n : Nat) : Int) > 24 := c1
    refine ⟨t.cells, rfl, M3.rd 0 rfl, ?_⟩
    refine (depth_spec (most := 6) h (h1.ext.trans M3.ext) (by omega)).mono ?_
    rintro v w4 ⟨⟨d, rfl, hd1, hd2⟩, e4⟩
    refine brE_dec (fun c2 => ?_) (fun c2 => ?_)
    · have c2 : ((d : Nat) : Int) > 6 := c2
      refine ⟨⟨_, _, rfl, ⟨fun hh => absurd hh (by decide), fun hh => ?_⟩⟩, M3.ext.trans e4⟩
      have k2 := hh.2
      omega
    have c2 : ¬ ((d : Nat) : Int) > 6 := c2
    exact ⟨⟨_, _, rfl, ⟨fun _ => ⟨by omega, by omega⟩, fun _ => by omega⟩⟩, M3.ext.trans e4⟩
  refine hS.mono ?_
  rintro v w2 ⟨⟨n, d, rfl, hn⟩, e⟩
  exact ⟨congrArg Value.bool (decide_eq_decide.2 hn), h1.ext.trans e⟩
end Go.Proofs.YtdpdjcopkehdjaaGreat.Rk
namespace Go.Proofs.YtdpdjcopkehdjaaGreat.Rk
open Go.Eng Go.RowKit
def sideB (s : Int) : Bool := decide (s = 1 ∨ s = 2)
def nodeK (op k attr side n : Int) (r : Bool) (len : Nat) : Bool :=
  if op = 1 then decide (len = 0 ∧ attr = 0 ∧ side = 0 ∧ n = 0)
  else if op = 2 ∨ op = 3 then decide (len = 0 ∧ (k = 1 ∨ k = 3) ∧ side = 0 ∧ n = 0)
  else if op = 4 then decide (len = 0 ∧ k ≠ 0 ∧ side = 0 ∧ n = 0)
  else if op = 5 then decide (len = 0 ∧ (k = 1 ∨ k = 2) ∧ sideB side = true ∧ r = true)
  else if op = 6 then decide (len = 0 ∧ k = 1 ∧ sideB side = true ∧ r = true)
  else if op = 7 then decide (len = 1 ∧ attr = 0 ∧ side = 0 ∧ n = 0)
  else if op = 8 ∨ op = 9 then decide (2 ≤ len ∧ attr = 0 ∧ side = 0 ∧ n = 0)
  else false
def nodeB (t : Tst) : Bool := nodeK t.op (kindZ t.attr) t.attr t.side t.n (rangeB t.attr t.n) t.of.length
mutual
def shapedT : Tst → Bool
  | .mk op attr side n A c of => nodeB (.mk op attr side n A c of) && shapedL of
def shapedL : List Tst → Bool
  | [] => true
  | x :: r => shapedT x && shapedL r
end
theorem shapedT_eq (t : Tst) : shapedT t = (nodeB t && shapedL t.of) := by cases t; rfl
theorem shapedL_all : ∀ (l : List Tst), shapedL l = l.all shapedT
  | [] => rfl
  | x :: r => by rw [shapedL, shapedL_all r]; rfl
theorem last4 {A1 A2 A3 : Prop} [Decidable A1] [Decidable A2] [Decidable A3] {b : Bool} (h1 : A1) (h2 : A2) (h3 : A3) : b = decide (A1 ∧ A2 ∧ A3 ∧ b = true) := by
  cases b
  · exact (decide_eq_false fun h => by cases h.2.2.2).symm
  · exact (decide_eq_true ⟨h1, h2, h3, rfl⟩).symm
section
variable {k attr side n : Int} {r : Bool} {len : Nat}
theorem node1 : nodeK 1 k attr side n r len = decide (len = 0 ∧ attr = 0 ∧ side = 0 ∧ n = 0) := rfl
theorem node2 : nodeK 2 k attr side n r len = decide (len = 0 ∧ (k = 1 ∨ k = 3) ∧ side = 0 ∧ n = 0) := rfl
theorem node3 : nodeK 3 k attr side n r len = decide (len = 0 ∧ (k = 1 ∨ k = 3) ∧ side = 0 ∧ n = 0) := rfl
theorem node4 : nodeK 4 k attr side n r len = decide (len = 0 ∧ k ≠ 0 ∧ side = 0 ∧ n = 0) := rfl
theorem node5 : nodeK 5 k attr side n r len = decide (len = 0 ∧ (k = 1 ∨ k = 2) ∧ sideB side = true ∧ r = true) := rfl
theorem node6 : nodeK 6 k attr side n r len = decide (len = 0 ∧ k = 1 ∧ sideB side = true ∧ r = true) := rfl
theorem node7 : nodeK 7 k attr side n r len = decide (len = 1 ∧ attr = 0 ∧ side = 0 ∧ n = 0) := rfl
theorem node8 : nodeK 8 k attr side n r len = decide (2 ≤ len ∧ attr = 0 ∧ side = 0 ∧ n = 0) := rfl
theorem node9 : nodeK 9 k attr side n r len = decide (2 ≤ len ∧ attr = 0 ∧ side = 0 ∧ n = 0) := rfl
end
theorem node_off {op k attr side n : Int} {r : Bool} {len : Nat} (h1 : ¬ op = 1) (h2 : ¬ op = 2) (h3 : ¬ op = 3) (h4 : ¬ op = 4) (h5 : ¬ op = 5) (h6 : ¬ op = 6) (h7 : ¬ op = 7) (h8 : ¬ op = 8) (h9 : ¬ op = 9) : nodeK op k attr side n r len = false := by
  unfold nodeK
  rw [if_neg h1, if_neg (by omega), if_neg h4, if_neg h5, if_neg h6, if_neg h7, if_neg (by omega)]
theorem num_range {a n : Int} (h : kindZ a = 1 ∨ kindZ a = 2) : numB a n = rangeB a n := by
  unfold numB rangeB
  by_cases h1 : a = 1
  · rw [if_pos h1, if_pos h1]
  · rw [if_neg h1, if_neg h1]
    by_cases h2 : a = 2
    · rw [if_pos h2, if_pos h2]
    · rw [if_neg h2, if_neg h2]
      have hk : kindZ a = 2 := by
        rcases h with h | h
        · unfold kindZ at h
          rw [if_neg (by omega)] at h
          split at h
          · cases h
          · split at h <;> cases h
        · exact h
      exact decide_eq_decide.2 ⟨fun hn => ⟨hk, hn⟩, fun hn => hn.2⟩
theorem kind1 {a : Int} : (a = 1 ∨ a = 2) ↔ kindZ a = 1 := by unfold kindZ; (repeat' split) <;> omega
theorem kind2 {a : Int} : (3 ≤ a ∧ a ≤ 5) ↔ kindZ a = 2 := by unfold kindZ; (repeat' split) <;> omega
theorem kind3 {a : Int} : (a = 6 ∨ a = 7) ↔ kindZ a = 3 := by unfold kindZ; (repeat' split) <;> omega
theorem kind_cases (a : Int) : kindZ a = 0 ∨ kindZ a = 1 ∨ kindZ a = 2 ∨ kindZ a = 3 := by unfold kindZ; (repeat' split) <;> omega
theorem index_unshaped {w0 : World} {of : List Tst} {A : Option Addr} {c : Nat} (hr : Reads w0 A (of.flatMap Tst.cells)) (hl : of.length ≤ 9223372036854775807)
    (ih : ∀ x ∈ of, ∀ {w : World}, Ext w0 w → CallsV C.P 134 #[x.val] w fun v w' => v = .bool (shapedT x) ∧ Ext w w') {w : World} (e0 : Ext w0 w) :
    CallsV C.P 202 #[.slice A of.length c, .func (.func 203) #[] #[]] w fun v w' => v = .bool (!shapedL of) ∧ Ext w w' := by
  refine callsV_of C_ok (args := [_, _]) (plans := []) Tryz.func202 rfl Tryz.ntmps202 (by kernel_rfl) (Nat.le_of_ble_eq_true rfl) ?_
  have hI : CallsV C.P 255 #[.slice A of.length c, .func (.func 203) #[] #[]] w fun v w' => (∃ z : Int, v = .int .i64 z ∧ (z ≥ 0 ↔ ¬ shapedL of = true)) ∧ Ext w w' := by
    refine callsV_of C_ok (args := [_, _]) (plans := []) Tryz.func255 rfl Tryz.ntmps255 (by kernel_rfl) (Nat.le_of_ble_eq_true rfl) ?_
    refine loopE C_ok (fun (i : Nat) => [(0, .slice A of.length c), (1, .func (.func 203) #[] #[]), (7, .int .i64 of.length), (8, .int .i64 (i : Nat))])
      (fun i w' => i ≤ of.length ∧ Ext w w' ∧ (of.take i).all shapedT = true) (fun i => of.length - i) 0 ⟨rfl, rfl, rfl, rfl, trivial⟩ ⟨Nat.zero_le _, Ext.refl _, rfl⟩ ?_
    rintro i w1 ⟨hi, e1, hall⟩
    refine brE_dec (fun hlt => ?_) (fun hge => ?_)
    · have hlti : i < of.length := by have : (i : Int) < (of.length : Nat) := hlt; omega
      have next : IntKind.i64.wrap ((i : Int) + 1) = ((i + 1 : Nat) : Int) := fit ⟨by omega, by omega⟩
      obtain ⟨b, o, hA, hc5⟩ := Reads.elem Tst.len (by omega) (hr.ext (e0.trans e1)) hlti
      obtain ⟨x, hx⟩ : ∃ x, x = of[i] := ⟨_, rfl⟩
      have hxm : x ∈ of := by rw [hx]; exact List.getElem_mem hlti
      have hst : (of.take (i + 1)).all shapedT = ((of.take i).all shapedT && shapedT x) := by rw [List.take_succ_eq_append_getElem hlti, List.all_append, ← hx]; simp
      rw [← hx] at hc5
      refine ⟨i, b, o, rfl, hlti, hA, ?_⟩
      refine ⟨x.cells, rfl, hc5, ?_⟩
      have hS : CallsV C.P 203 #[x.val] w1 fun v w' => v = .bool (!shapedT x) ∧ Ext w1 w' := by
        refine callsV_of C_ok (args := [_]) (plans := []) Tryz.func203 rfl Tryz.ntmps203 (by kernel_rfl) (Nat.le_of_ble_eq_true rfl) ?_
        intro g w2 h2
        refine ⟨x.cells, rfl, Rd.of_block h2.here, ?_⟩
        refine (ih x hxm ((e0.trans e1).trans h2.ext)).mono ?_
        rintro v w3 ⟨rfl, e3⟩
        exact ⟨rfl, h2.ext.trans e3⟩
      refine hS.mono ?_
      rintro v w2 ⟨rfl, e2⟩
      refine brE_mk (fun hb => ?_) (fun hb => ?_)
      · have hb : shapedT x = false := by simpa using hb
        refine ⟨⟨(i : Nat), rfl, ⟨fun _ hh => ?_, fun _ => Int.natCast_nonneg _⟩⟩, e1.trans e2⟩
        rw [shapedL_all, List.all_eq_true] at hh
        rw [hh x hxm] at hb
        cases hb
      · have hb : shapedT x = true := by simpa using hb
        refine ⟨_, next, ?_⟩
        exact ⟨i + 1, ⟨rfl, rfl, rfl, rfl, trivial⟩, ⟨hlti, e1.trans e2, by rw [hst, hall, hb]; rfl⟩, by show of.length - (i + 1) < of.length - i; omega⟩
    · have hie : i = of.length := by have : ¬ (i : Int) < (of.length : Nat) := hge; omega
      rw [hie, List.take_length] at hall
      exact ⟨⟨-1, rfl, ⟨fun h => absurd h (by decide), fun h => absurd (by rw [shapedL_all]; exact hall) h⟩⟩, e1⟩
  refine hI.mono ?_
  rintro v w' ⟨⟨z, rfl, hz⟩, e⟩
  refine ⟨congrArg Value.bool ?_, e⟩
  cases hs : shapedL of with
  | true => exact decide_eq_false fun h => hz.1 h hs
  | false => exact decide_eq_true (hz.2 (by rw [hs]; decide))
set_option maxRecDepth 100000 in
set_option maxHeartbeats 8000000 in
theorem shaped_spec {w0 : World} {t : Tst} (h : TestIs w0 t) : ∀ {w : World}, Ext w0 w → CallsV C.P 134 #[t.val] w fun v w' => v = .bool (shapedT t) ∧ Ext w w' := by
  induction h with
  | @mk t hn hr hc hl hk ih =>
  intro w e0
  obtain ⟨op, attr, side, n, A, c, of⟩ := t
  rw [shapedT_eq]
  obtain ⟨kd, hkd⟩ : ∃ kd, kd = kindZ attr := ⟨_, rfl⟩
  obtain ⟨nb, hnb⟩ : ∃ nb, nb = nodeB (.mk op attr side n A c of) := ⟨_, rfl⟩
  rw [← hnb]
  have hnb2 : nodeK op kd attr side n (rangeB attr n) of.length = nb := by rw [hkd]; exact hnb.symm
  have hl : of.length ≤ 9223372036854775807 := hl
  clear hnb hn
  refine callsV_ofS (args := [_]) Tryz.func134 rfl Tryz.ntmps134 C_ok (Nat.le_of_ble_eq_true rfl) ?_
  refine Snd.go C_ok [] (by kernel_rfl) ?_
  intro g1 w1 h1
  have HB : ∀ {i : Nat} {v : Value}, (Tst.mk op attr side n A c of).cells.toArray[i]? = some v → w1.cell? ⟨g1, i, none⟩ = some v := fun hv => cell_of_block h1.here hv
  have E1 : Ext w w1 := h1.ext
  clear h1
  refine ⟨Snd.go C_ok [] (by kernel_rfl) ?_⟩
  refine ⟨_, HB (i := 1) rfl, ?_⟩
  have X := kindOf_spec attr w1
  rw [← hkd] at X
  refine X.mono ?_
  clear X
  rintro v w1 ⟨rfl, rfl⟩
  refine ⟨Snd.go C_ok [] (by kernel_rfl) ?_⟩
  refine ⟨_, HB (i := 4) rfl, ?_⟩
  refine ⟨Snd.join C_ok [] (fun _ : Unit => [(1, .pointer (some ⟨g1, 0, none⟩)), (3, .int .i64 kd), (4, .bool (decide (((of.length : Nat) : Int) = 0))), (5, .bool (sideB side))]) (fun _ w' => w' = w1) (by kernel_rfl) ?_ ?_⟩
  · refine ⟨_, HB (i := 2) rfl, ?_⟩
    refine brE_dec (fun s1 => ?_) (fun s1 => ?_)
    · have s1 : side = 1 := s1
      exact ⟨(), ⟨rfl, rfl, rfl, congrArg (fun x => some (Value.bool x)) (decide_eq_true (.inl s1)).symm, trivial⟩, rfl⟩
    · have s1 : ¬ side = 1 := s1
      refine ⟨_, HB (i := 2) rfl, ?_⟩
      exact ⟨(), ⟨rfl, rfl, rfl, congrArg (fun x => some (Value.bool x)) (decide_eq_decide.2 ⟨fun x => .inr x, fun h => h.resolve_left s1⟩), trivial⟩, rfl⟩
  rintro _ w1 rfl
  refine Snd.go C_ok [] (by kernel_rfl) ?_
  refine ⟨Snd.join C_ok [] (fun _ : Unit => [(1, .pointer (some ⟨g1, 0, none⟩)), (6, .bool nb)]) (fun _ w' => w' = w1) (by kernel_rfl) ?_ ?_⟩
  · refine ⟨_, HB (i := 0) rfl, ?_⟩
    refine brE_dec (fun o1 => ?_) (fun o1 => ?_)
    · have o1 : op = 1 := o1
      subst o1
      refine brE_dec (fun l0 => ?_) (fun l0 => ?_)
      · have l0 : of.length = 0 := by have l0 : ((of.length : Nat) : Int) = 0 := l0; omega
        refine ⟨_, HB (i := 1) rfl, ?_⟩
        refine brE_dec (fun a0 => ?_) (fun a0 => ?_)
        · have a0 : attr = 0 := a0
          refine ⟨_, HB (i := 2) rfl, ?_⟩
          refine brE_dec (fun s0 => ?_) (fun s0 => ?_)
          · have s0 : side = 0 := s0
            refine ⟨_, HB (i := 3) rfl, ?_⟩
            exact ⟨(), ⟨rfl, congrArg (fun x => some (Value.bool x)) (((decide_eq_decide.2 ⟨fun x => ⟨l0, a0, s0, x⟩, fun h => h.2.2.2⟩).trans node1.symm).trans hnb2), trivial⟩, rfl⟩
          · have s0 : ¬ (side = 0) := s0
            exact ⟨(), ⟨rfl, congrArg (fun x => some (Value.bool x)) (((node1.trans (decide_eq_false fun h => s0 h.2.2.1)).symm).trans hnb2), trivial⟩, rfl⟩
        · have a0 : ¬ (attr = 0) := a0
          exact ⟨(), ⟨rfl, congrArg (fun x => some (Value.bool x)) (((node1.trans (decide_eq_false fun h => a0 h.2.1)).symm).trans hnb2), trivial⟩, rfl⟩
      · have l0 : ¬ (of.length = 0) := by have l0 : ¬ ((of.length : Nat) : Int) = 0 := l0; omega
        exact ⟨(), ⟨rfl, congrArg (fun x => some (Value.bool x)) (((node1.trans (decide_eq_false fun h => l0 h.1)).symm).trans hnb2), trivial⟩, rfl⟩
    have o1 : ¬ op = 1 := o1
    refine brE_dec (fun o2 => ?_) (fun o2 => ?_)
    · have o2 : op = 2 := o2
      refine brE_true (decide_eq_true o2) ?_
      subst o2
      refine brE_dec (fun l0 => ?_) (fun l0 => ?_)
      · have l0 : of.length = 0 := by have l0 : ((of.length : Nat) : Int) = 0 := l0; omega
        refine brE_dec (fun k1 => ?_) (fun k1 => ?_)
        · have k1 : kd = 1 := k1
          refine ⟨_, HB (i := 2) rfl, ?_⟩
          refine brE_dec (fun s0 => ?_) (fun s0 => ?_)
          · have s0 : side = 0 := s0
            refine ⟨_, HB (i := 3) rfl, ?_⟩
            exact ⟨(), ⟨rfl, congrArg (fun x => some (Value.bool x)) (((decide_eq_decide.2 ⟨fun x => ⟨l0, .inl k1, s0, x⟩, fun h => h.2.2.2⟩).trans node2.symm).trans hnb2), trivial⟩, rfl⟩
          · have s0 : ¬ (side = 0) := s0
            exact ⟨(), ⟨rfl, congrArg (fun x => some (Value.bool x)) (((node2.trans (decide_eq_false fun h => s0 h.2.2.1)).symm).trans hnb2), trivial⟩, rfl⟩
        · have k1 : ¬ (kd = 1) := k1
          refine brE_dec (fun k3 => ?_) (fun k3 => ?_)
          · have k3 : kd = 3 := k3
            refine ⟨_, HB (i := 2) rfl, ?_⟩
            refine brE_dec (fun s0 => ?_) (fun s0 => ?_)
            · have s0 : side = 0 := s0
              refine ⟨_, HB (i := 3) rfl, ?_⟩
              exact ⟨(), ⟨rfl, congrArg (fun x => some (Value.bool x)) (((decide_eq_decide.2 ⟨fun x => ⟨l0, .inr k3, s0, x⟩, fun h => h.2.2.2⟩).trans node2.symm).trans hnb2), trivial⟩, rfl⟩
            · have s0 : ¬ (side = 0) := s0
              exact ⟨(), ⟨rfl, congrArg (fun x => some (Value.bool x)) (((node2.trans (decide_eq_false fun h => s0 h.2.2.1)).symm).trans hnb2), trivial⟩, rfl⟩
          · have k3 : ¬ (kd = 3) := k3
            exact ⟨(), ⟨rfl, congrArg (fun x => some (Value.bool x)) (((node2.trans (decide_eq_false fun h => (fun e => e.elim k1 k3) h.2.1)).symm).trans hnb2), trivial⟩, rfl⟩
      · have l0 : ¬ (of.length = 0) := by have l0 : ¬ ((of.length : Nat) : Int) = 0 := l0; omega
        exact ⟨(), ⟨rfl, congrArg (fun x => some (Value.bool x)) (((node2.trans (decide_eq_false fun h => l0 h.1)).symm).trans hnb2), trivial⟩, rfl⟩
    have o2 : ¬ op = 2 := o2
    refine brE_dec (fun o3 => ?_) (fun o3 => ?_)
    · have o3 : op = 3 := o3
      subst o3
      refine brE_dec (fun l0 => ?_) (fun l0 => ?_)
      · have l0 : of.length = 0 := by have l0 : ((of.length : Nat) : Int) = 0 := l0; omega
        refine brE_dec (fun k1 => ?_) (fun k1 => ?_)
        · have k1 : kd = 1 := k1
          refine ⟨_, HB (i := 2) rfl, ?_⟩
          refine brE_dec (fun s0 => ?_) (fun s0 => ?_)
          · have s0 : side = 0 := s0
            refine ⟨_, HB (i := 3) rfl, ?_⟩
            exact ⟨(), ⟨rfl, congrArg (fun x => some (Value.bool x)) (((decide_eq_decide.2 ⟨fun x => ⟨l0, .inl k1, s0, x⟩, fun h => h.2.2.2⟩).trans node3.symm).trans hnb2), trivial⟩, rfl⟩
          · have s0 : ¬ (side = 0) := s0
            exact ⟨(), ⟨rfl, congrArg (fun x => some (Value.bool x)) (((node3.trans (decide_eq_false fun h => s0 h.2.2.1)).symm).trans hnb2), trivial⟩, rfl⟩
        · have k1 : ¬ (kd = 1) := k1
          refine brE_dec (fun k3 => ?_) (fun k3 => ?_)
          · have k3 : kd = 3 := k3
            refine ⟨_, HB (i := 2) rfl, ?_⟩
            refine brE_dec (fun s0 => ?_) (fun s0 => ?_)
            · have s0 : side = 0 := s0
              refine ⟨_, HB (i := 3) rfl, ?_⟩
              exact ⟨(), ⟨rfl, congrArg (fun x => some (Value.bool x)) (((decide_eq_decide.2 ⟨fun x => ⟨l0, .inr k3, s0, x⟩, fun h => h.2.2.2⟩).trans node3.symm).trans hnb2), trivial⟩, rfl⟩
            · have s0 : ¬ (side = 0) := s0
              exact ⟨(), ⟨rfl, congrArg (fun x => some (Value.bool x)) (((node3.trans (decide_eq_false fun h => s0 h.2.2.1)).symm).trans hnb2), trivial⟩, rfl⟩
          · have k3 : ¬ (kd = 3) := k3
            exact ⟨(), ⟨rfl, congrArg (fun x => some (Value.bool x)) (((node3.trans (decide_eq_false fun h => (fun e => e.elim k1 k3) h.2.1)).symm).trans hnb2), trivial⟩, rfl⟩
      · have l0 : ¬ (of.length = 0) := by have l0 : ¬ ((of.length : Nat) : Int) = 0 := l0; omega
        exact ⟨(), ⟨rfl, congrArg (fun x => some (Value.bool x)) (((node3.trans (decide_eq_false fun h => l0 h.1)).symm).trans hnb2), trivial⟩, rfl⟩
    have o3 : ¬ op = 3 := o3
    refine brE_dec (fun o4 => ?_) (fun o4 => ?_)
    · have o4 : op = 4 := o4
      subst o4
      refine brE_dec (fun l0 => ?_) (fun l0 => ?_)
      · have l0 : of.length = 0 := by have l0 : ((of.length : Nat) : Int) = 0 := l0; omega
        refine brE_ndec (fun k0 => ?_) (fun k0 => ?_)
        · have k0 : ¬ (kd = 0) := k0
          refine ⟨_, HB (i := 2) rfl, ?_⟩
          refine brE_dec (fun s0 => ?_) (fun s0 => ?_)
          · have s0 : side = 0 := s0
            refine ⟨_, HB (i := 3) rfl, ?_⟩
            exact ⟨(), ⟨rfl, congrArg (fun x => some (Value.bool x)) (((decide_eq_decide.2 ⟨fun x => ⟨l0, k0, s0, x⟩, fun h => h.2.2.2⟩).trans node4.symm).trans hnb2), trivial⟩, rfl⟩
          · have s0 : ¬ (side = 0) := s0
            exact ⟨(), ⟨rfl, congrArg (fun x => some (Value.bool x)) (((node4.trans (decide_eq_false fun h => s0 h.2.2.1)).symm).trans hnb2), trivial⟩, rfl⟩
        · have k0 : kd = 0 := k0
          exact ⟨(), ⟨rfl, congrArg (fun x => some (Value.bool x)) (((node4.trans (decide_eq_false fun h => (fun e => e k0) h.2.1)).symm).trans hnb2), trivial⟩, rfl⟩
      · have l0 : ¬ (of.length = 0) := by have l0 : ¬ ((of.length : Nat) : Int) = 0 := l0; omega
        exact ⟨(), ⟨rfl, congrArg (fun x => some (Value.bool x)) (((node4.trans (decide_eq_false fun h => l0 h.1)).symm).trans hnb2), trivial⟩, rfl⟩
    have o4 : ¬ op = 4 := o4
    refine brE_dec (fun o5 => ?_) (fun o5 => ?_)
    · have o5 : op = 5 := o5
      subst o5
      refine brE_dec (fun l0 => ?_) (fun l0 => ?_)
      · have l0 : of.length = 0 := by have l0 : ((of.length : Nat) : Int) = 0 := l0; omega
        refine brE_dec (fun k1 => ?_) (fun k1 => ?_)
        · have k1 : kd = 1 := k1
          refine brE_mk (fun sb => ?_) (fun sb => ?_)
          · have sb : sideB side = true := sb
            refine ⟨_, HB (i := 1) rfl, ?_⟩
            refine ⟨_, HB (i := 3) rfl, ?_⟩
            refine (inRange_spec _ _ _).mono ?_
            rintro v w2 ⟨rfl, rfl⟩
            exact ⟨(), ⟨rfl, congrArg (fun x => some (Value.bool x)) (((last4 l0 (.inl k1) sb).trans node5.symm).trans hnb2), trivial⟩, rfl⟩
          · have sb : sideB side = false := sb
            exact ⟨(), ⟨rfl, congrArg (fun x => some (Value.bool x)) (((node5.trans (decide_eq_false fun h => by rw [h.2.2.1] at sb; cases sb)).symm).trans hnb2), trivial⟩, rfl⟩
        · have k1 : ¬ (kd = 1) := k1
          refine brE_dec (fun k2 => ?_) (fun k2 => ?_)
          · have k2 : kd = 2 := k2
            refine brE_mk (fun sb => ?_) (fun sb => ?_)
            · have sb : sideB side = true := sb
              refine ⟨_, HB (i := 1) rfl, ?_⟩
              refine ⟨_, HB (i := 3) rfl, ?_⟩
              refine (inRange_spec _ _ _).mono ?_
              rintro v w2 ⟨rfl, rfl⟩
              exact ⟨(), ⟨rfl, congrArg (fun x => some (Value.bool x)) (((last4 l0 (.inr k2) sb).trans node5.symm).trans hnb2), trivial⟩, rfl⟩
            · have sb : sideB side = false := sb
              exact ⟨(), ⟨rfl, congrArg (fun x => some (Value.bool x)) (((node5.trans (decide_eq_false fun h => by rw [h.2.2.1] at sb; cases sb)).symm).trans hnb2), trivial⟩, rfl⟩
          · have k2 : ¬ (kd = 2) := k2
            exact ⟨(), ⟨rfl, congrArg (fun x => some (Value.bool x)) (((node5.trans (decide_eq_false fun h => (fun e => e.elim k1 k2) h.2.1)).symm).trans hnb2), trivial⟩, rfl⟩
      · have l0 : ¬ (of.length = 0) := by have l0 : ¬ ((of.length : Nat) : Int) = 0 := l0; omega
        exact ⟨(), ⟨rfl, congrArg (fun x => some (Value.bool x)) (((node5.trans (decide_eq_false fun h => l0 h.1)).symm).trans hnb2), trivial⟩, rfl⟩
    have o5 : ¬ op = 5 := o5
    refine brE_dec (fun o6 => ?_) (fun o6 => ?_)
    · have o6 : op = 6 := o6
      subst o6
      refine brE_dec (fun l0 => ?_) (fun l0 => ?_)
      · have l0 : of.length = 0 := by have l0 : ((of.length : Nat) : Int) = 0 := l0; omega
        refine brE_dec (fun k1 => ?_) (fun k1 => ?_)
        · have k1 : kd = 1 := k1
          refine brE_mk (fun sb => ?_) (fun sb => ?_)
          · have sb : sideB side = true := sb
            refine ⟨_, HB (i := 1) rfl, ?_⟩
            refine ⟨_, HB (i := 3) rfl, ?_⟩
            refine (inRange_spec _ _ _).mono ?_
            rintro v w2 ⟨rfl, rfl⟩
            exact ⟨(), ⟨rfl, congrArg (fun x => some (Value.bool x)) (((last4 l0 (k1) sb).trans node6.symm).trans hnb2), trivial⟩, rfl⟩
          · have sb : sideB side = false := sb
            exact ⟨(), ⟨rfl, congrArg (fun x => some (Value.bool x)) (((node6.trans (decide_eq_false fun h => by rw [h.2.2.1] at sb; cases sb)).symm).trans hnb2), trivial⟩, rfl⟩
        · have k1 : ¬ (kd = 1) := k1
          exact ⟨(), ⟨rfl, congrArg (fun x => some (Value.bool x)) (((node6.trans (decide_eq_false fun h => k1 h.2.1)).symm).trans hnb2), trivial⟩, rfl⟩
      · have l0 : ¬ (of.length = 0) := by have l0 : ¬ ((of.length : Nat) : Int) = 0 := l0; omega
        exact ⟨(), ⟨rfl, congrArg (fun x => some (Value.bool x)) (((node6.trans (decide_eq_false fun h => l0 h.1)).symm).trans hnb2), trivial⟩, rfl⟩
    have o6 : ¬ op = 6 := o6
    refine brE_dec (fun o7 => ?_) (fun o7 => ?_)
    · have o7 : op = 7 := o7
      subst o7
      refine ⟨_, HB (i := 4) rfl, ?_⟩
      refine brE_dec (fun l0 => ?_) (fun l0 => ?_)
      · have l0 : of.length = 1 := by have l0 : ((of.length : Nat) : Int) = 1 := l0; omega
        refine ⟨_, HB (i := 1) rfl, ?_⟩
        refine brE_dec (fun a0 => ?_) (fun a0 => ?_)
        · have a0 : attr = 0 := a0
          refine ⟨_, HB (i := 2) rfl, ?_⟩
          refine brE_dec (fun s0 => ?_) (fun s0 => ?_)
          · have s0 : side = 0 := s0
            refine ⟨_, HB (i := 3) rfl, ?_⟩
            exact ⟨(), ⟨rfl, congrArg (fun x => some (Value.bool x)) (((decide_eq_decide.2 ⟨fun x => ⟨l0, a0, s0, x⟩, fun h => h.2.2.2⟩).trans node7.symm).trans hnb2), trivial⟩, rfl⟩
          · have s0 : ¬ (side = 0) := s0
            exact ⟨(), ⟨rfl, congrArg (fun x => some (Value.bool x)) (((node7.trans (decide_eq_false fun h => s0 h.2.2.1)).symm).trans hnb2), trivial⟩, rfl⟩
        · have a0 : ¬ (attr = 0) := a0
          exact ⟨(), ⟨rfl, congrArg (fun x => some (Value.bool x)) (((node7.trans (decide_eq_false fun h => a0 h.2.1)).symm).trans hnb2), trivial⟩, rfl⟩
      · have l0 : ¬ (of.length = 1) := by have l0 : ¬ ((of.length : Nat) : Int) = 1 := l0; omega
        exact ⟨(), ⟨rfl, congrArg (fun x => some (Value.bool x)) (((node7.trans (decide_eq_false fun h => l0 h.1)).symm).trans hnb2), trivial⟩, rfl⟩
    have o7 : ¬ op = 7 := o7
    refine brE_dec (fun o8 => ?_) (fun o8 => ?_)
    · have o8 : op = 8 := o8
      refine brE_true (decide_eq_true o8) ?_
      subst o8
      refine ⟨_, HB (i := 4) rfl, ?_⟩
      refine brE_dec (fun l0 => ?_) (fun l0 => ?_)
      · have l0 : 2 ≤ of.length := by have l0 : ((of.length : Nat) : Int) ≥ 2 := l0; omega
        refine ⟨_, HB (i := 1) rfl, ?_⟩
        refine brE_dec (fun a0 => ?_) (fun a0 => ?_)
        · have a0 : attr = 0 := a0
          refine ⟨_, HB (i := 2) rfl, ?_⟩
          refine brE_dec (fun s0 => ?_) (fun s0 => ?_)
          · have s0 : side = 0 := s0
            refine ⟨_, HB (i := 3) rfl, ?_⟩
            exact ⟨(), ⟨rfl, congrArg (fun x => some (Value.bool x)) (((decide_eq_decide.2 ⟨fun x => ⟨l0, a0, s0, x⟩, fun h => h.2.2.2⟩).trans node8.symm).trans hnb2), trivial⟩, rfl⟩
          · have s0 : ¬ (side = 0) := s0
            exact ⟨(), ⟨rfl, congrArg (fun x => some (Value.bool x)) (((node8.trans (decide_eq_false fun h => s0 h.2.2.1)).symm).trans hnb2), trivial⟩, rfl⟩
        · have a0 : ¬ (attr = 0) := a0
          exact ⟨(), ⟨rfl, congrArg (fun x => some (Value.bool x)) (((node8.trans (decide_eq_false fun h => a0 h.2.1)).symm).trans hnb2), trivial⟩, rfl⟩
      · have l0 : ¬ (2 ≤ of.length) := by have l0 : ¬ ((of.length : Nat) : Int) ≥ 2 := l0; omega
        exact ⟨(), ⟨rfl, congrArg (fun x => some (Value.bool x)) (((node8.trans (decide_eq_false fun h => l0 h.1)).symm).trans hnb2), trivial⟩, rfl⟩
    have o8 : ¬ op = 8 := o8
    refine brE_dec (fun o9 => ?_) (fun o9 => ?_)
    · have o9 : op = 9 := o9
      subst o9
      refine ⟨_, HB (i := 4) rfl, ?_⟩
      refine brE_dec (fun l0 => ?_) (fun l0 => ?_)
      · have l0 : 2 ≤ of.length := by have l0 : ((of.length : Nat) : Int) ≥ 2 := l0; omega
        refine ⟨_, HB (i := 1) rfl, ?_⟩
        refine brE_dec (fun a0 => ?_) (fun a0 => ?_)
        · have a0 : attr = 0 := a0
          refine ⟨_, HB (i := 2) rfl, ?_⟩
          refine brE_dec (fun s0 => ?_) (fun s0 => ?_)
          · have s0 : side = 0 := s0
            refine ⟨_, HB (i := 3) rfl, ?_⟩
            exact ⟨(), ⟨rfl, congrArg (fun x => some (Value.bool x)) (((decide_eq_decide.2 ⟨fun x => ⟨l0, a0, s0, x⟩, fun h => h.2.2.2⟩).trans node9.symm).trans hnb2), trivial⟩, rfl⟩
          · have s0 : ¬ (side = 0) := s0
            exact ⟨(), ⟨rfl, congrArg (fun x => some (Value.bool x)) (((node9.trans (decide_eq_false fun h => s0 h.2.2.1)).symm).trans hnb2), trivial⟩, rfl⟩
        · have a0 : ¬ (attr = 0) := a0
          exact ⟨(), ⟨rfl, congrArg (fun x => some (Value.bool x)) (((node9.trans (decide_eq_false fun h => a0 h.2.1)).symm).trans hnb2), trivial⟩, rfl⟩
      · have l0 : ¬ (2 ≤ of.length) := by have l0 : ¬ ((of.length : Nat) : Int) ≥ 2 := l0; omega
        exact ⟨(), ⟨rfl, congrArg (fun x => some (Value.bool x)) (((node9.trans (decide_eq_false fun h => l0 h.1)).symm).trans hnb2), trivial⟩, rfl⟩
    have o9 : ¬ op = 9 := o9
    exact ⟨(), ⟨rfl, congrArg (fun x => some (Value.bool x)) (((node_off o1 o2 o3 o4 o5 o6 o7 o8 o9).symm).trans hnb2), trivial⟩, rfl⟩
  rintro _ w1 rfl
  refine Snd.fin C_ok (plans := []) (by kernel_rfl) ?_
  refine brE_mk (fun b => ?_) (fun b => ?_)
  · have b : nb = true := b
    refine ⟨_, HB (i := 4) rfl, ?_⟩
    refine (index_unshaped hr hl (fun x hx {w} e => ih x hx e) (e0.trans E1)).mono ?_
    rintro v w3 ⟨rfl, e3⟩
    exact ⟨congrArg Value.bool (by rw [b, Bool.not_not, Bool.true_and]), E1.trans e3⟩
  · have b : nb = false := b
    exact ⟨congrArg Value.bool (by rw [b]; rfl), E1⟩
set_option maxRecDepth 100000 in
set_option maxHeartbeats 8000000 in
theorem node_spec {w0 : World} {t : Tst} (h : TestIs w0 t) : ∀ {w : World}, Ext w0 w → CallsV C.P 108 #[t.val] w fun v w' => v = .bool (shapedT t) ∧ Ext w w' := by
  induction h with
  | @mk t hn hr hc hl hk ih =>
  intro w e0
  obtain ⟨op, attr, side, n, A, c, of⟩ := t
  rw [shapedT_eq]
  obtain ⟨kd, hkd⟩ : ∃ kd, kd = kindZ attr := ⟨_, rfl⟩
  obtain ⟨nb, hnb⟩ : ∃ nb, nb = nodeB (.mk op attr side n A c of) := ⟨_, rfl⟩
  rw [← hnb]
  have hnb2 : nodeK op kd attr side n (rangeB attr n) of.length = nb := by rw [hkd]; exact hnb.symm
  have hl : of.length ≤ 9223372036854775807 := hl
  clear hnb hn
  refine callsV_ofS (args := [_]) Tryz.func108 rfl Tryz.ntmps108 C_ok (Nat.le_of_ble_eq_true rfl) ?_
  refine Snd.go C_ok [] (by kernel_rfl) ?_
  intro g1 w1 h1
  have HB : ∀ {i : Nat} {v : Value}, (Tst.mk op attr side n A c of).cells.toArray[i]? = some v → w1.cell? ⟨g1, i, none⟩ = some v := fun hv => cell_of_block h1.here hv
  have E1 : Ext w w1 := h1.ext
  clear h1
  obtain ⟨mk, hmk⟩ : ∃ mk, mk = decide (kd = 2) := ⟨_, rfl⟩
  obtain ⟨lo, hlo⟩ : ∃ lo, lo = decide (kd = 1) := ⟨_, rfl⟩
  obtain ⟨od, hod⟩ : ∃ od, od = decide (kd = 3) := ⟨_, rfl⟩
  obtain ⟨nu, hnu⟩ : ∃ nu, nu = numB attr n := ⟨_, rfl⟩
  obtain ⟨pl, hpl⟩ : ∃ pl, pl = decide (side = 0 ∧ n = 0) := ⟨_, rfl⟩
  refine ⟨Snd.go C_ok [] (by kernel_rfl) ?_⟩
  refine ⟨_, HB (i := 1) rfl, ?_⟩
  have X := refMark_spec attr w1
  rw [show decide (3 ≤ attr ∧ attr ≤ 5) = mk from by rw [hmk, hkd]; exact decide_eq_decide.2 kind2] at X
  refine X.mono ?_
  clear X
  rintro v w1 ⟨rfl, rfl⟩
  refine ⟨Snd.go C_ok [] (by kernel_rfl) ?_⟩
  refine ⟨_, HB (i := 1) rfl, ?_⟩
  have X := refSmall_spec attr w1
  rw [show decide (attr = 1 ∨ attr = 2) = lo from by rw [hlo, hkd]; exact decide_eq_decide.2 kind1] at X
  refine X.mono ?_
  clear X
  rintro v w1 ⟨rfl, rfl⟩
  refine ⟨Snd.go C_ok [] (by kernel_rfl) ?_⟩
  refine ⟨_, HB (i := 1) rfl, ?_⟩
  have X := refOrd_spec attr w1
  rw [show decide (attr = 6 ∨ attr = 7) = od from by rw [hod, hkd]; exact decide_eq_decide.2 kind3] at X
  refine X.mono ?_
  clear X
  rintro v w1 ⟨rfl, rfl⟩
  refine ⟨Snd.go C_ok [] (by kernel_rfl) ?_⟩
  refine ⟨_, HB (i := 1) rfl, ?_⟩
  refine ⟨_, HB (i := 3) rfl, ?_⟩
  have X := refValue_spec attr n w1
  rw [← hnu] at X
  refine X.mono ?_
  clear X
  rintro v w1 ⟨rfl, rfl⟩
  refine ⟨Snd.join C_ok [] (fun _ : Unit => [(1, .pointer (some ⟨g1, 0, none⟩)), (3, .bool mk), (4, .bool lo), (5, .bool od), (6, .bool nu), (7, .bool pl)]) (fun _ w' => w' = w1) (by kernel_rfl) ?_ ?_⟩
  · refine ⟨_, HB (i := 2) rfl, ?_⟩
    refine brE_dec (fun s1 => ?_) (fun s1 => ?_)
    · have s1 : side = 0 := s1
      refine ⟨_, HB (i := 3) rfl, ?_⟩
      exact ⟨(), ⟨rfl, rfl, rfl, rfl, rfl, congrArg (fun x => some (Value.bool x)) ((decide_eq_decide.2 ⟨fun x => ⟨s1, x⟩, fun h => h.2⟩).trans hpl.symm), trivial⟩, rfl⟩
    · have s1 : ¬ side = 0 := s1
      exact ⟨(), ⟨rfl, rfl, rfl, rfl, rfl, congrArg (fun x => some (Value.bool x)) ((decide_eq_false fun h => s1 h.1).symm.trans hpl.symm), trivial⟩, rfl⟩
  rintro _ w1 rfl
  refine Snd.join C_ok [] (fun _ : Unit => [(1, .pointer (some ⟨g1, 0, none⟩)), (3, .bool mk), (4, .bool lo), (5, .bool od), (6, .bool nu), (7, .bool pl), (8, .bool (sideB side))]) (fun _ w' => w' = w1) (by kernel_rfl) ?_ ?_
  · refine ⟨_, HB (i := 2) rfl, ?_⟩
    refine brE_dec (fun s1 => ?_) (fun s1 => ?_)
    · have s1 : side = 1 := s1
      exact ⟨(), ⟨rfl, rfl, rfl, rfl, rfl, rfl, congrArg (fun x => some (Value.bool x)) (decide_eq_true (.inl s1)).symm, trivial⟩, rfl⟩
    · have s1 : ¬ side = 1 := s1
      refine ⟨_, HB (i := 2) rfl, ?_⟩
      exact ⟨(), ⟨rfl, rfl, rfl, rfl, rfl, rfl, congrArg (fun x => some (Value.bool x)) (decide_eq_decide.2 ⟨fun x => .inr x, fun h => h.resolve_left s1⟩), trivial⟩, rfl⟩
  rintro _ w1 rfl
  refine Snd.go C_ok [] (by kernel_rfl) ?_
  refine ⟨Snd.join C_ok [] (fun _ : Unit => [(1, .pointer (some ⟨g1, 0, none⟩)), (9, .bool nb)]) (fun _ w' => w' = w1) (by kernel_rfl) ?_ ?_⟩
  · refine ⟨_, HB (i := 0) rfl, ?_⟩
    refine brE_dec (fun o1 => ?_) (fun o1 => ?_)
    · have o1 : op = 1 := o1
      subst o1
      refine ⟨_, HB (i := 1) rfl, ?_⟩
      refine brE_dec (fun a0 => ?_) (fun a0 => ?_)
      · have a0 : attr = 0 := a0
        refine brE_mk (fun p0 => ?_) (fun p0 => ?_)
        · have p0 : pl = true := p0
          obtain ⟨s0, n0⟩ := of_decide_eq_true (hpl.symm.trans p0)
          refine ⟨_, HB (i := 4) rfl, ?_⟩
          exact ⟨(), ⟨rfl, congrArg (fun x => some (Value.bool x)) (((decide_eq_decide.2 ⟨fun x => ⟨(by have x : ((of.length : Nat) : Int) = 0 := x; omega), a0, s0, n0⟩, fun h => by have h := h.1; show ((of.length : Nat) : Int) = 0; omega⟩).trans node1.symm).trans hnb2), trivial⟩, rfl⟩
        · have p0 : pl = false := p0
          exact ⟨(), ⟨rfl, congrArg (fun x => some (Value.bool x)) (((node1.trans (decide_eq_false fun h => of_decide_eq_false (hpl.symm.trans p0) ⟨h.2.2.1, h.2.2.2⟩)).symm).trans hnb2), trivial⟩, rfl⟩
      · have a0 : ¬ (attr = 0) := a0
        exact ⟨(), ⟨rfl, congrArg (fun x => some (Value.bool x)) (((node1.trans (decide_eq_false fun h => a0 h.2.1)).symm).trans hnb2), trivial⟩, rfl⟩
    have o1 : ¬ op = 1 := o1
    refine brE_dec (fun o2 => ?_) (fun o2 => ?_)
    · have o2 : op = 2 := o2
      refine brE_true (decide_eq_true o2) ?_
      subst o2
      refine brE_mk (fun k1 => ?_) (fun k1 => ?_)
      · have k1 : lo = true := k1
        have k1 : kd = 1 := of_decide_eq_true (hlo.symm.trans k1)
        refine brE_mk (fun p0 => ?_) (fun p0 => ?_)
        · have p0 : pl = true := p0
          obtain ⟨s0, n0⟩ := of_decide_eq_true (hpl.symm.trans p0)
          refine ⟨_, HB (i := 4) rfl, ?_⟩
          exact ⟨(), ⟨rfl, congrArg (fun x => some (Value.bool x)) (((decide_eq_decide.2 ⟨fun x => ⟨(by have x : ((of.length : Nat) : Int) = 0 := x; omega), .inl k1, s0, n0⟩, fun h => by have h := h.1; show ((of.length : Nat) : Int) = 0; omega⟩).trans node2.symm).trans hnb2), trivial⟩, rfl⟩
        · have p0 : pl = false := p0
          exact ⟨(), ⟨rfl, congrArg (fun x => some (Value.bool x)) (((node2.trans (decide_eq_false fun h => of_decide_eq_false (hpl.symm.trans p0) ⟨h.2.2.1, h.2.2.2⟩)).symm).trans hnb2), trivial⟩, rfl⟩
      · have k1 : lo = false := k1
        have k1 : ¬ kd = 1 := of_decide_eq_false (hlo.symm.trans k1)
        refine brE_mk (fun k3 => ?_) (fun k3 => ?_)
        · have k3 : od = true := k3
          have k3 : kd = 3 := of_decide_eq_true (hod.symm.trans k3)
          refine brE_mk (fun p0 => ?_) (fun p0 => ?_)
          · have p0 : pl = true := p0
            obtain ⟨s0, n0⟩ := of_decide_eq_true (hpl.symm.trans p0)
            refine ⟨_, HB (i := 4) rfl, ?_⟩
            exact ⟨(), ⟨rfl, congrArg (fun x => some (Value.bool x)) (((decide_eq_decide.2 ⟨fun x => ⟨(by have x : ((of.length : Nat) : Int) = 0 := x; omega), .inr k3, s0, n0⟩, fun h => by have h := h.1; show ((of.length : Nat) : Int) = 0; omega⟩).trans node2.symm).trans hnb2), trivial⟩, rfl⟩
          · have p0 : pl = false := p0
            exact ⟨(), ⟨rfl, congrArg (fun x => some (Value.bool x)) (((node2.trans (decide_eq_false fun h => of_decide_eq_false (hpl.symm.trans p0) ⟨h.2.2.1, h.2.2.2⟩)).symm).trans hnb2), trivial⟩, rfl⟩
        · have k3 : od = false := k3
          have k3 : ¬ kd = 3 := of_decide_eq_false (hod.symm.trans k3)
          exact ⟨(), ⟨rfl, congrArg (fun x => some (Value.bool x)) (((node2.trans (decide_eq_false fun h => (fun e => e.elim k1 k3) h.2.1)).symm).trans hnb2), trivial⟩, rfl⟩
    have o2 : ¬ op = 2 := o2
    refine brE_dec (fun o3 => ?_) (fun o3 => ?_)
    · have o3 : op = 3 := o3
      subst o3
      refine brE_mk (fun k1 => ?_) (fun k1 => ?_)
      · have k1 : lo = true := k1
        have k1 : kd = 1 := of_decide_eq_true (hlo.symm.trans k1)
        refine brE_mk (fun p0 => ?_) (fun p0 => ?_)
        · have p0 : pl = true := p0
          obtain ⟨s0, n0⟩ := of_decide_eq_true (hpl.symm.trans p0)
          refine ⟨_, HB (i := 4) rfl, ?_⟩
          exact ⟨(), ⟨rfl, congrArg (fun x => some (Value.bool x)) (((decide_eq_decide.2 ⟨fun x => ⟨(by have x : ((of.length : Nat) : Int) = 0 := x; omega), .inl k1, s0, n0⟩, fun h => by have h := h.1; show ((of.length : Nat) : Int) = 0; omega⟩).trans node3.symm).trans hnb2), trivial⟩, rfl⟩
        · have p0 : pl = false := p0
          exact ⟨(), ⟨rfl, congrArg (fun x => some (Value.bool x)) (((node3.trans (decide_eq_false fun h => of_decide_eq_false (hpl.symm.trans p0) ⟨h.2.2.1, h.2.2.2⟩)).symm).trans hnb2), trivial⟩, rfl⟩
      · have k1 : lo = false := k1
        have k1 : ¬ kd = 1 := of_decide_eq_false (hlo.symm.trans k1)
        refine brE_mk (fun k3 => ?_) (fun k3 => ?_)
        · have k3 : od = true := k3
          have k3 : kd = 3 := of_decide_eq_true (hod.symm.trans k3)
          refine brE_mk (fun p0 => ?_) (fun p0 => ?_)
          · have p0 : pl = true := p0
            obtain ⟨s0, n0⟩ := of_decide_eq_true (hpl.symm.trans p0)
            refine ⟨_, HB (i := 4) rfl, ?_⟩
            exact ⟨(), ⟨rfl, congrArg (fun x => some (Value.bool x)) (((decide_eq_decide.2 ⟨fun x => ⟨(by have x : ((of.length : Nat) : Int) = 0 := x; omega), .inr k3, s0, n0⟩, fun h => by have h := h.1; show ((of.length : Nat) : Int) = 0; omega⟩).trans node3.symm).trans hnb2), trivial⟩, rfl⟩
          · have p0 : pl = false := p0
            exact ⟨(), ⟨rfl, congrArg (fun x => some (Value.bool x)) (((node3.trans (decide_eq_false fun h => of_decide_eq_false (hpl.symm.trans p0) ⟨h.2.2.1, h.2.2.2⟩)).symm).trans hnb2), trivial⟩, rfl⟩
        · have k3 : od = false := k3
          have k3 : ¬ kd = 3 := of_decide_eq_false (hod.symm.trans k3)
          exact ⟨(), ⟨rfl, congrArg (fun x => some (Value.bool x)) (((node3.trans (decide_eq_false fun h => (fun e => e.elim k1 k3) h.2.1)).symm).trans hnb2), trivial⟩, rfl⟩
    have o3 : ¬ op = 3 := o3
    refine brE_dec (fun o4 => ?_) (fun o4 => ?_)
    · have o4 : op = 4 := o4
      subst o4
      refine brE_mk (fun k1 => ?_) (fun k1 => ?_)
      · have k1 : lo = true := k1
        have k1 : kd = 1 := of_decide_eq_true (hlo.symm.trans k1)
        refine brE_mk (fun p0 => ?_) (fun p0 => ?_)
        · have p0 : pl = true := p0
          obtain ⟨s0, n0⟩ := of_decide_eq_true (hpl.symm.trans p0)
          refine ⟨_, HB (i := 4) rfl, ?_⟩
          exact ⟨(), ⟨rfl, congrArg (fun x => some (Value.bool x)) (((decide_eq_decide.2 ⟨fun x => ⟨(by have x : ((of.length : Nat) : Int) = 0 := x; omega), (show kd ≠ 0 by omega), s0, n0⟩, fun h => by have h := h.1; show ((of.length : Nat) : Int) = 0; omega⟩).trans node4.symm).trans hnb2), trivial⟩, rfl⟩
        · have p0 : pl = false := p0
          exact ⟨(), ⟨rfl, congrArg (fun x => some (Value.bool x)) (((node4.trans (decide_eq_false fun h => of_decide_eq_false (hpl.symm.trans p0) ⟨h.2.2.1, h.2.2.2⟩)).symm).trans hnb2), trivial⟩, rfl⟩
      · have k1 : lo = false := k1
        have k1 : ¬ kd = 1 := of_decide_eq_false (hlo.symm.trans k1)
        refine brE_mk (fun k3 => ?_) (fun k3 => ?_)
        · have k3 : od = true := k3
          have k3 : kd = 3 := of_decide_eq_true (hod.symm.trans k3)
          refine brE_mk (fun p0 => ?_) (fun p0 => ?_)
          · have p0 : pl = true := p0
            obtain ⟨s0, n0⟩ := of_decide_eq_true (hpl.symm.trans p0)
            refine ⟨_, HB (i := 4) rfl, ?_⟩
            exact ⟨(), ⟨rfl, congrArg (fun x => some (Value.bool x)) (((decide_eq_decide.2 ⟨fun x => ⟨(by have x : ((of.length : Nat) : Int) = 0 := x; omega), (show kd ≠ 0 by omega), s0, n0⟩, fun h => by have h := h.1; show ((of.length : Nat) : Int) = 0; omega⟩).trans node4.symm).trans hnb2), trivial⟩, rfl⟩
          · have p0 : pl = false := p0
            exact ⟨(), ⟨rfl, congrArg (fun x => some (Value.bool x)) (((node4.trans (decide_eq_false fun h => of_decide_eq_false (hpl.symm.trans p0) ⟨h.2.2.1, h.2.2.2⟩)).symm).trans hnb2), trivial⟩, rfl⟩
        · have k3 : od = false := k3
          have k3 : ¬ kd = 3 := of_decide_eq_false (hod.symm.trans k3)
          refine brE_mk (fun k2 => ?_) (fun k2 => ?_)
          · have k2 : mk = true := k2
            have k2 : kd = 2 := of_decide_eq_true (hmk.symm.trans k2)
            refine brE_mk (fun p0 => ?_) (fun p0 => ?_)
            · have p0 : pl = true := p0
              obtain ⟨s0, n0⟩ := of_decide_eq_true (hpl.symm.trans p0)
              refine ⟨_, HB (i := 4) rfl, ?_⟩
              exact ⟨(), ⟨rfl, congrArg (fun x => some (Value.bool x)) (((decide_eq_decide.2 ⟨fun x => ⟨(by have x : ((of.length : Nat) : Int) = 0 := x; omega), (show kd ≠ 0 by omega), s0, n0⟩, fun h => by have h := h.1; show ((of.length : Nat) : Int) = 0; omega⟩).trans node4.symm).trans hnb2), trivial⟩, rfl⟩
            · have p0 : pl = false := p0
              exact ⟨(), ⟨rfl, congrArg (fun x => some (Value.bool x)) (((node4.trans (decide_eq_false fun h => of_decide_eq_false (hpl.symm.trans p0) ⟨h.2.2.1, h.2.2.2⟩)).symm).trans hnb2), trivial⟩, rfl⟩
          · have k2 : mk = false := k2
            have k2 : ¬ kd = 2 := of_decide_eq_false (hmk.symm.trans k2)
            exact ⟨(), ⟨rfl, congrArg (fun x => some (Value.bool x)) (((node4.trans (decide_eq_false fun h => (fun e => by rcases kind_cases attr with kc | kc | kc | kc <;> omega) h.2.1)).symm).trans hnb2), trivial⟩, rfl⟩
    have o4 : ¬ op = 4 := o4
    refine brE_dec (fun o5 => ?_) (fun o5 => ?_)
    · have o5 : op = 5 := o5
      subst o5
      refine brE_mk (fun k1 => ?_) (fun k1 => ?_)
      · have k1 : lo = true := k1
        have k1 : kd = 1 := of_decide_eq_true (hlo.symm.trans k1)
        refine brE_mk (fun sb => ?_) (fun sb => ?_)
        · have sb : sideB side = true := sb
          refine brE_mk (fun r1 => ?_) (fun r1 => ?_)
          · have r1 : nu = true := r1
            have r2 : rangeB attr n = true := ((num_range (.inl (hkd.symm.trans k1))).symm.trans hnu.symm).trans r1
            refine ⟨_, HB (i := 4) rfl, ?_⟩
            exact ⟨(), ⟨rfl, congrArg (fun x => some (Value.bool x)) (((decide_eq_decide.2 ⟨fun x => ⟨(by have x : ((of.length : Nat) : Int) = 0 := x; omega), .inl k1, sb, r2⟩, fun h => by have h := h.1; show ((of.length : Nat) : Int) = 0; omega⟩).trans node5.symm).trans hnb2), trivial⟩, rfl⟩
          · have r1 : nu = false := r1
            have r2 : rangeB attr n = false := ((num_range (.inl (hkd.symm.trans k1))).symm.trans hnu.symm).trans r1
            exact ⟨(), ⟨rfl, congrArg (fun x => some (Value.bool x)) (((node5.trans (decide_eq_false fun h => by rw [h.2.2.2] at r2; cases r2)).symm).trans hnb2), trivial⟩, rfl⟩
        · have sb : sideB side = false := sb
          exact ⟨(), ⟨rfl, congrArg (fun x => some (Value.bool x)) (((node5.trans (decide_eq_false fun h => by rw [h.2.2.1] at sb; cases sb)).symm).trans hnb2), trivial⟩, rfl⟩
      · have k1 : lo = false := k1
        have k1 : ¬ kd = 1 := of_decide_eq_false (hlo.symm.trans k1)
        refine brE_mk (fun k2 => ?_) (fun k2 => ?_)
        · have k2 : mk = true := k2
          have k2 : kd = 2 := of_decide_eq_true (hmk.symm.trans k2)
          refine brE_mk (fun sb => ?_) (fun sb => ?_)
          · have sb : sideB side = true := sb
            refine brE_mk (fun r1 => ?_) (fun r1 => ?_)
            · have r1 : nu = true := r1
              have r2 : rangeB attr n = true := ((num_range (.inr (hkd.symm.trans k2))).symm.trans hnu.symm).trans r1
              refine ⟨_, HB (i := 4) rfl, ?_⟩
              exact ⟨(), ⟨rfl, congrArg (fun x => some (Value.bool x)) (((decide_eq_decide.2 ⟨fun x => ⟨(by have x : ((of.length : Nat) : Int) = 0 := x; omega), .inr k2, sb, r2⟩, fun h => by have h := h.1; show ((of.length : Nat) : Int) = 0; omega⟩).trans node5.symm).trans hnb2), trivial⟩, rfl⟩
            · have r1 : nu = false := r1
              have r2 : rangeB attr n = false := ((num_range (.inr (hkd.symm.trans k2))).symm.trans hnu.symm).trans r1
              exact ⟨(), ⟨rfl, congrArg (fun x => some (Value.bool x)) (((node5.trans (decide_eq_false fun h => by rw [h.2.2.2] at r2; cases r2)).symm).trans hnb2), trivial⟩, rfl⟩
          · have sb : sideB side = false := sb
            exact ⟨(), ⟨rfl, congrArg (fun x => some (Value.bool x)) (((node5.trans (decide_eq_false fun h => by rw [h.2.2.1] at sb; cases sb)).symm).trans hnb2), trivial⟩, rfl⟩
        · have k2 : mk = false := k2
          have k2 : ¬ kd = 2 := of_decide_eq_false (hmk.symm.trans k2)
          exact ⟨(), ⟨rfl, congrArg (fun x => some (Value.bool x)) (((node5.trans (decide_eq_false fun h => (fun e => e.elim k1 k2) h.2.1)).symm).trans hnb2), trivial⟩, rfl⟩
    have o5 : ¬ op = 5 := o5
    refine brE_dec (fun o6 => ?_) (fun o6 => ?_)
    · have o6 : op = 6 := o6
      subst o6
      refine brE_mk (fun k1 => ?_) (fun k1 => ?_)
      · have k1 : lo = true := k1
        have k1 : kd = 1 := of_decide_eq_true (hlo.symm.trans k1)
        refine brE_mk (fun sb => ?_) (fun sb => ?_)
        · have sb : sideB side = true := sb
          refine brE_mk (fun r1 => ?_) (fun r1 => ?_)
          · have r1 : nu = true := r1
            have r2 : rangeB attr n = true := ((num_range (.inl (hkd.symm.trans k1))).symm.trans hnu.symm).trans r1
            refine ⟨_, HB (i := 4) rfl, ?_⟩
            exact ⟨(), ⟨rfl, congrArg (fun x => some (Value.bool x)) (((decide_eq_decide.2 ⟨fun x => ⟨(by have x : ((of.length : Nat) : Int) = 0 := x; omega), k1, sb, r2⟩, fun h => by have h := h.1; show ((of.length : Nat) : Int) = 0; omega⟩).trans node6.symm).trans hnb2), trivial⟩, rfl⟩
          · have r1 : nu = false := r1
            have r2 : rangeB attr n = false := ((num_range (.inl (hkd.symm.trans k1))).symm.trans hnu.symm).trans r1
            exact ⟨(), ⟨rfl, congrArg (fun x => some (Value.bool x)) (((node6.trans (decide_eq_false fun h => by rw [h.2.2.2] at r2; cases r2)).symm).trans hnb2), trivial⟩, rfl⟩
        · have sb : sideB side = false := sb
          exact ⟨(), ⟨rfl, congrArg (fun x => some (Value.bool x)) (((node6.trans (decide_eq_false fun h => by rw [h.2.2.1] at sb; cases sb)).symm).trans hnb2), trivial⟩, rfl⟩
      · have k1 : lo = false := k1
        have k1 : ¬ kd = 1 := of_decide_eq_false (hlo.symm.trans k1)
        exact ⟨(), ⟨rfl, congrArg (fun x => some (Value.bool x)) (((node6.trans (decide_eq_false fun h => k1 h.2.1)).symm).trans hnb2), trivial⟩, rfl⟩
    have o6 : ¬ op = 6 := o6
    refine brE_dec (fun o7 => ?_) (fun o7 => ?_)
    · have o7 : op = 7 := o7
      subst o7
      refine ⟨_, HB (i := 1) rfl, ?_⟩
      refine brE_dec (fun a0 => ?_) (fun a0 => ?_)
      · have a0 : attr = 0 := a0
        refine brE_mk (fun p0 => ?_) (fun p0 => ?_)
        · have p0 : pl = true := p0
          obtain ⟨s0, n0⟩ := of_decide_eq_true (hpl.symm.trans p0)
          refine ⟨_, HB (i := 4) rfl, ?_⟩
          exact ⟨(), ⟨rfl, congrArg (fun x => some (Value.bool x)) (((decide_eq_decide.2 ⟨fun x => ⟨(by have x : ((of.length : Nat) : Int) = 1 := x; omega), a0, s0, n0⟩, fun h => by have h := h.1; show ((of.length : Nat) : Int) = 1; omega⟩).trans node7.symm).trans hnb2), trivial⟩, rfl⟩
        · have p0 : pl = false := p0
          exact ⟨(), ⟨rfl, congrArg (fun x => some (Value.bool x)) (((node7.trans (decide_eq_false fun h => of_decide_eq_false (hpl.symm.trans p0) ⟨h.2.2.1, h.2.2.2⟩)).symm).trans hnb2), trivial⟩, rfl⟩
      · have a0 : ¬ (attr = 0) := a0
        exact ⟨(), ⟨rfl, congrArg (fun x => some (Value.bool x)) (((node7.trans (decide_eq_false fun h => a0 h.2.1)).symm).trans hnb2), trivial⟩, rfl⟩
    have o7 : ¬ op = 7 := o7
    refine brE_dec (fun o8 => ?_) (fun o8 => ?_)
    · have o8 : op = 8 := o8
      refine brE_true (decide_eq_true o8) ?_
      subst o8
      refine ⟨_, HB (i := 1) rfl, ?_⟩
      refine brE_dec (fun a0 => ?_) (fun a0 => ?_)
      · have a0 : attr = 0 := a0
        refine brE_mk (fun p0 => ?_) (fun p0 => ?_)
        · have p0 : pl = true := p0
          obtain ⟨s0, n0⟩ := of_decide_eq_true (hpl.symm.trans p0)
          refine ⟨_, HB (i := 4) rfl, ?_⟩
          exact ⟨(), ⟨rfl, congrArg (fun x => some (Value.bool x)) (((decide_eq_decide.2 ⟨fun x => ⟨(by have x : ((of.length : Nat) : Int) ≥ 2 := x; omega), a0, s0, n0⟩, fun h => by have h := h.1; show ((of.length : Nat) : Int) ≥ 2; omega⟩).trans node8.symm).trans hnb2), trivial⟩, rfl⟩
        · have p0 : pl = false := p0
          exact ⟨(), ⟨rfl, congrArg (fun x => some (Value.bool x)) (((node8.trans (decide_eq_false fun h => of_decide_eq_false (hpl.symm.trans p0) ⟨h.2.2.1, h.2.2.2⟩)).symm).trans hnb2), trivial⟩, rfl⟩
      · have a0 : ¬ (attr = 0) := a0
        exact ⟨(), ⟨rfl, congrArg (fun x => some (Value.bool x)) (((node8.trans (decide_eq_false fun h => a0 h.2.1)).symm).trans hnb2), trivial⟩, rfl⟩
    have o8 : ¬ op = 8 := o8
    refine brE_dec (fun o9 => ?_) (fun o9 => ?_)
    · have o9 : op = 9 := o9
      subst o9
      refine ⟨_, HB (i := 1) rfl, ?_⟩
      refine brE_dec (fun a0 => ?_) (fun a0 => ?_)
      · have a0 : attr = 0 := a0
        refine brE_mk (fun p0 => ?_) (fun p0 => ?_)
        · have p0 : pl = true := p0
          obtain ⟨s0, n0⟩ := of_decide_eq_true (hpl.symm.trans p0)
          refine ⟨_, HB (i := 4) rfl, ?_⟩
          exact ⟨(), ⟨rfl, congrArg (fun x => some (Value.bool x)) (((decide_eq_decide.2 ⟨fun x => ⟨(by have x : ((of.length : Nat) : Int) ≥ 2 := x; omega), a0, s0, n0⟩, fun h => by have h := h.1; show ((of.length : Nat) : Int) ≥ 2; omega⟩).trans node9.symm).trans hnb2), trivial⟩, rfl⟩
        · have p0 : pl = false := p0
          exact ⟨(), ⟨rfl, congrArg (fun x => some (Value.bool x)) (((node9.trans (decide_eq_false fun h => of_decide_eq_false (hpl.symm.trans p0) ⟨h.2.2.1, h.2.2.2⟩)).symm).trans hnb2), trivial⟩, rfl⟩
      · have a0 : ¬ (attr = 0) := a0
        exact ⟨(), ⟨rfl, congrArg (fun x => some (Value.bool x)) (((node9.trans (decide_eq_false fun h => a0 h.2.1)).symm).trans hnb2), trivial⟩, rfl⟩
    have o9 : ¬ op = 9 := o9
    exact ⟨(), ⟨rfl, congrArg (fun x => some (Value.bool x)) (((node_off o1 o2 o3 o4 o5 o6 o7 o8 o9).symm).trans hnb2), trivial⟩, rfl⟩
  rintro _ w1 rfl
  refine Snd.fin C_ok (plans := []) (by kernel_rfl) ?_
  refine loopE C_ok (fun (s : Nat × Bool) => [(1, .pointer (some ⟨g1, 0, none⟩)), (9, .bool s.2), (10, .int .i64 (s.1 : Nat))])
    (fun s w' => s.1 ≤ of.length ∧ Ext w1 w' ∧ s.2 = (nb && (of.take s.1).all shapedT)) (fun s => of.length - s.1) (0, nb) ⟨rfl, rfl, rfl, trivial⟩ ⟨Nat.zero_le _, Ext.refl _, by simp⟩ ?_
  rintro ⟨i, ok⟩ w2 ⟨hi', e2, hok'⟩
  have hi : i ≤ of.length := hi'
  have hok : ok = (nb && (of.take i).all shapedT) := hok'
  clear hi' hok'
  refine ⟨_, e2.cell (HB (i := 4) rfl), ?_⟩
  refine brE_dec (fun hlt => ?_) (fun hge => ?_)
  · have hlti : i < of.length := by have : (i : Int) < (of.length : Nat) := hlt; omega
    obtain ⟨x, hx⟩ : ∃ x, x = of[i] := ⟨_, rfl⟩
    have hxm : x ∈ of := by rw [hx]; exact List.getElem_mem hlti
    have hst : (of.take (i + 1)).all shapedT = ((of.take i).all shapedT && shapedT x) := by rw [List.take_succ_eq_append_getElem hlti, List.all_append, ← hx]; simp
    refine brE_mk (fun b => ?_) (fun b => ?_)
    · have b : ok = true := b
      have next : IntKind.i64.wrap ((i : Int) + 1) = ((i + 1 : Nat) : Int) := fit ⟨by omega, by omega⟩
      obtain ⟨bb, o, hA, hc5⟩ := Reads.elem Tst.len (by omega) (Reads.ext hr ((e0.trans E1).trans e2)) hlti
      have hc5 : Rd w2 bb (o + i * 5) x.cells := by rw [hx]; exact hc5
      refine ⟨_, e2.cell (HB (i := 4) rfl), ?_⟩
      refine ⟨i, bb, o, rfl, hlti, hA, ?_⟩
      refine ⟨x.cells, rfl, hc5, ?_⟩
      refine (ih x hxm ((e0.trans E1).trans e2)).mono ?_
      rintro v w3 ⟨rfl, e3⟩
      refine ⟨_, next, ?_⟩
      refine ⟨(i + 1, shapedT x), ⟨rfl, rfl, rfl, trivial⟩, ⟨hlti, e2.trans e3, ?_⟩, by show of.length - (i + 1) < of.length - i; omega⟩
      show shapedT x = (nb && (of.take (i + 1)).all shapedT)
      rw [hst, ← Bool.and_assoc, ← hok, b, Bool.true_and]
    · have b : ok = false := b
      refine ⟨congrArg Value.bool ?_, E1.trans e2⟩
      show ok = (nb && shapedL of)
      have hall : shapedL of = ((of.take i).all shapedT && (of.drop i).all shapedT) := by rw [shapedL_all, ← List.all_append, List.take_append_drop]
      rw [hall, ← Bool.and_assoc, ← hok, b]
      rfl
  · have hie : i = of.length := by have : ¬ (i : Int) < (of.length : Nat) := hge; omega
    refine ⟨congrArg Value.bool ?_, E1.trans e2⟩
    show ok = (nb && shapedL of)
    rw [hok, hie, List.take_length, shapedL_all]
end Go.Proofs.YtdpdjcopkehdjaaGreat.Rk
