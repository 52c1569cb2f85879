/- a part of the proof: steps, walks and plain laws that the law below stands on; no condition. -/
import Derived.Test.YtcnbpfecgokhiaaGreatDoorDBc
set_option linter.unusedVariables false
set_option linter.unusedSimpArgs false
set_option linter.unnecessarySimpa false
set_option linter.unusedSectionVars false
namespace Go.Proofs.YtcnbpfecgokhiaaGreatDoor
open Go.Eng Go.RowKit

def ptrs (g : Nat) (os : List Nat) : List Value := os.map fun o => Value.pointer (some ⟨g, o, none⟩)
/-- The pointers to a fact's fields. -/
def OffsPost (g : Nat) (os : List Nat) (w : World) (v : Value) (w' : World) : Prop := (∃ h, v = .slice (some ⟨h, 0, none⟩) os.length os.length ∧ w'.heap[h]? = some (.cells (ptrs g os).toArray 167 (0, 0)) ∧ w.heap.size ≤ h) ∧ Ext w w'

theorem forms1_spec (g : Nat) (w : World) : CallsV C.P 210 (#[] ++ [.pointer (some ⟨g, 0, none⟩)].toArray ++ #[]) w (OffsPost g [3, 4, 5, 6, 7] w) := by
  refine callsV_of C_ok (args := [_]) (plans := plans210) Tryz.func210 rfl Tryz.ntmps210 (by kernel_rfl) (Nat.le_of_ble_eq_true rfl) ?_
  intro h w1 h1
  exact ⟨⟨h, rfl, h1.here, by rw [h1.new]; exact Nat.le_refl _⟩, h1.ext⟩
theorem forms2_spec (g : Nat) (w : World) : CallsV C.P 211 (#[] ++ [.pointer (some ⟨g, 0, none⟩)].toArray ++ #[]) w (OffsPost g [3, 5, 6, 7] w) := by
  refine callsV_of C_ok (args := [_]) (plans := plans211) Tryz.func211 rfl Tryz.ntmps211 (by kernel_rfl) (Nat.le_of_ble_eq_true rfl) ?_
  intro h w1 h1
  exact ⟨⟨h, rfl, h1.here, by rw [h1.new]; exact Nat.le_refl _⟩, h1.ext⟩
theorem forms7_spec (g : Nat) (w : World) : CallsV C.P 219 (#[] ++ [.pointer (some ⟨g, 0, none⟩)].toArray ++ #[]) w (OffsPost g [3, 4, 6, 7] w) := by
  refine callsV_of C_ok (args := [_]) (plans := plans219) Tryz.func219 rfl Tryz.ntmps219 (by kernel_rfl) (Nat.le_of_ble_eq_true rfl) ?_
  intro h w1 h1
  exact ⟨⟨h, rfl, h1.here, by rw [h1.new]; exact Nat.le_refl _⟩, h1.ext⟩
theorem forms9_spec (g : Nat) (w : World) : CallsV C.P 221 (#[] ++ [.pointer (some ⟨g, 0, none⟩)].toArray ++ #[]) w (OffsPost g [3, 6, 7] w) := by
  refine callsV_of C_ok (args := [_]) (plans := plans221) Tryz.func221 rfl Tryz.ntmps221 (by kernel_rfl) (Nat.le_of_ble_eq_true rfl) ?_
  intro h w1 h1
  exact ⟨⟨h, rfl, h1.here, by rw [h1.new]; exact Nat.le_refl _⟩, h1.ext⟩
theorem forms12_spec (g : Nat) (w : World) : CallsV C.P 224 (#[] ++ [.pointer (some ⟨g, 0, none⟩)].toArray ++ #[]) w (OffsPost g [3, 6] w) := by
  refine callsV_of C_ok (args := [_]) (plans := plans224) Tryz.func224 rfl Tryz.ntmps224 (by kernel_rfl) (Nat.le_of_ble_eq_true rfl) ?_
  intro h w1 h1
  exact ⟨⟨h, rfl, h1.here, by rw [h1.new]; exact Nat.le_refl _⟩, h1.ext⟩
theorem forms14_spec (g : Nat) (w : World) : CallsV C.P 226 (#[] ++ [.pointer (some ⟨g, 0, none⟩)].toArray ++ #[]) w (OffsPost g [4] w) := by
  refine callsV_of C_ok (args := [_]) (plans := []) Tryz.func226 rfl Tryz.ntmps226 (by kernel_rfl) (Nat.le_of_ble_eq_true rfl) ?_
  intro h w1 h1
  exact ⟨⟨h, rfl, h1.here, by rw [h1.new]; exact Nat.le_refl _⟩, h1.ext⟩

theorem none_spec (x : Fact) (w : World) : CallsV C.P 216 (#[] ++ [x.val].toArray ++ #[]) w fun v w' => NewInts w.heap.size w' v [] ∧ Ext w w' := by
  refine callsV_of C_ok (args := [_]) (plans := []) Tryz.func216 rfl Tryz.ntmps216 (by kernel_rfl) (Nat.le_of_ble_eq_true rfl) ?_
  intro g w1 h1
  exact ⟨newInts_nil _ _, h1.ext⟩
theorem what_spec (x : Fact) (w : World) : CallsV C.P 217 (#[] ++ [x.val].toArray ++ #[]) w fun v w' => NewInts w.heap.size w' v [x.what] ∧ Ext w w' := by
  refine callsV_of C_ok (args := [_]) (plans := []) Tryz.func217 rfl Tryz.ntmps217 (by kernel_rfl) (Nat.le_of_ble_eq_true rfl) ?_
  intro g w1 h1
  have M1 := (Mem.start w).alloc h1
  refine ⟨_, M1.cell 0 rfl rfl, ?_⟩
  intro g2 w2 h2
  have M2 := M1.alloc h2
  exact ⟨owns_block (cs := ints [x.what]) (M2.get 0 rfl) (M2.new 0 rfl) rfl (Nat.le_of_ble_eq_true rfl), M2.ext⟩
theorem forms11_spec (x : Fact) (w : World) : CallsV C.P 223 (#[] ++ [x.val].toArray ++ #[]) w fun v w' => NewInts w.heap.size w' v [x.who] ∧ Ext w w' := by
  refine callsV_of C_ok (args := [_]) (plans := []) Tryz.func223 rfl Tryz.ntmps223 (by kernel_rfl) (Nat.le_of_ble_eq_true rfl) ?_
  intro g w1 h1
  have M1 := (Mem.start w).alloc h1
  refine ⟨_, M1.cell 0 rfl rfl, ?_⟩
  intro g2 w2 h2
  have M2 := M1.alloc h2
  exact ⟨owns_block (cs := ints [x.who]) (M2.get 0 rfl) (M2.new 0 rfl) rfl (Nat.le_of_ble_eq_true rfl), M2.ext⟩
theorem forms6_spec (x : Fact) (w : World) : CallsV C.P 218 (#[] ++ [x.val].toArray ++ #[]) w fun v w' => NewInts w.heap.size w' v [x.who, x.what] ∧ Ext w w' := by
  refine callsV_of C_ok (args := [_]) (plans := []) Tryz.func218 rfl Tryz.ntmps218 (by kernel_rfl) (Nat.le_of_ble_eq_true rfl) ?_
  intro g w1 h1
  have M1 := (Mem.start w).alloc h1
  refine ⟨_, M1.cell 0 rfl rfl, ?_⟩
  refine ⟨_, M1.cell 0 rfl rfl, ?_⟩
  intro g2 w2 h2
  have M2 := M1.alloc h2
  exact ⟨owns_block (cs := ints [x.who, x.what]) (M2.get 0 rfl) (M2.new 0 rfl) rfl (Nat.le_of_ble_eq_true rfl), M2.ext⟩

/-! ### what is right -/
theorem classed_spec (x : Fact) (w : World) {g : Nat} {m : Int} (hc : w.heap[g]? = some (.cells #[.int .i64 m] 3 (0, 0))) :
    CallsV C.P 213 (#[] ++ [x.val].toArray ++ #[.pointer (some ⟨g, 0, none⟩)]) w fun v w' => v = .bool (idB x.who && idB x.what && decide (1 ≤ x.other ∧ x.other ≤ m)) ∧ Ext w w' := by
  refine callsV_of C_ok (args := [_, _]) (plans := []) Tryz.func213 rfl Tryz.ntmps213 (by kernel_rfl) (Nat.le_of_ble_eq_true rfl) ?_
  intro g2 w1 h1
  have M1 := (Mem.start w).alloc h1
  refine ⟨_, M1.cell 0 rfl rfl, ?_⟩
  refine (id_spec x.who w1).mono ?_
  rintro v w2 ⟨rfl, rfl⟩
  refine brE_mk (fun a1 => ?_) (fun a1 => ?_)
  case' refine_2 => exact ⟨by rw [a1]; rfl, M1.ext⟩
  refine ⟨_, M1.cell 0 rfl rfl, ?_⟩
  refine (id_spec x.what w2).mono ?_
  rintro v w3 ⟨rfl, rfl⟩
  refine brE_mk (fun a2 => ?_) (fun a2 => ?_)
  case' refine_2 => exact ⟨by rw [a1, a2]; rfl, M1.ext⟩
  refine ⟨_, M1.cell 0 rfl rfl, ?_⟩
  rw [a1, a2]
  refine brE_dec (fun a3 => ?_) (fun a3 => ?_)
  case' refine_2 =>
    have a3 : ¬ x.other ≥ 1 := a3
    exact ⟨by rw [decide_eq_false (fun h : 1 ≤ x.other ∧ x.other ≤ m => a3 h.1)]; rfl, M1.ext⟩
  have a3 : x.other ≥ 1 := a3
  refine ⟨_, M1.cell 0 rfl rfl, ?_⟩
  refine ⟨_, cell_of_block (h1.ext.heap hc) rfl, ?_⟩
  refine ⟨congrArg Value.bool ?_, M1.ext⟩
  rw [Bool.eq_iff_iff]
  simp only [Bool.true_and, decide_eq_true_eq]
  omega

theorem forms4_spec (x : Fact) (w : World) : CallsV C.P 214 (#[] ++ [x.val].toArray ++ #[]) w fun v w' => v = .bool (idB x.who && idB x.other && !decide (x.who = x.other)) ∧ Ext w w' := by
  refine callsV_of C_ok (args := [_]) (plans := []) Tryz.func214 rfl Tryz.ntmps214 (by kernel_rfl) (Nat.le_of_ble_eq_true rfl) ?_
  intro g2 w1 h1
  have M1 := (Mem.start w).alloc h1
  refine ⟨_, M1.cell 0 rfl rfl, ?_⟩
  refine (id_spec x.who w1).mono ?_
  rintro v w2 ⟨rfl, rfl⟩
  refine brE_mk (fun a1 => ?_) (fun a1 => ?_)
  case' refine_2 => exact ⟨by rw [a1]; rfl, M1.ext⟩
  refine ⟨_, M1.cell 0 rfl rfl, ?_⟩
  refine (id_spec x.other w2).mono ?_
  rintro v w3 ⟨rfl, rfl⟩
  refine brE_mk (fun a2 => ?_) (fun a2 => ?_)
  case' refine_2 => exact ⟨by rw [a1, a2]; rfl, M1.ext⟩
  refine ⟨_, M1.cell 0 rfl rfl, ?_⟩
  refine ⟨_, M1.cell 0 rfl rfl, ?_⟩
  exact ⟨by rw [a1, a2]; rfl, M1.ext⟩

theorem forms5_spec (x : Fact) (w : World) : CallsV C.P 215 (#[] ++ [x.val].toArray ++ #[]) w fun v w' => v = .bool (idB x.who && decide (1 ≤ x.other ∧ x.other ≤ 3)) ∧ Ext w w' := by
  refine callsV_of C_ok (args := [_]) (plans := []) Tryz.func215 rfl Tryz.ntmps215 (by kernel_rfl) (Nat.le_of_ble_eq_true rfl) ?_
  intro g2 w1 h1
  have M1 := (Mem.start w).alloc h1
  refine ⟨_, M1.cell 0 rfl rfl, ?_⟩
  refine (id_spec x.who w1).mono ?_
  rintro v w2 ⟨rfl, rfl⟩
  refine brE_mk (fun a1 => ?_) (fun a1 => ?_)
  case' refine_2 => exact ⟨by rw [a1]; rfl, M1.ext⟩
  refine ⟨_, M1.cell 0 rfl rfl, ?_⟩
  rw [a1]
  refine brE_dec (fun a3 => ?_) (fun a3 => ?_)
  case' refine_2 =>
    have a3 : ¬ x.other ≥ 1 := a3
    exact ⟨by rw [decide_eq_false (fun h : 1 ≤ x.other ∧ x.other ≤ 3 => a3 h.1)]; rfl, M1.ext⟩
  have a3 : x.other ≥ 1 := a3
  refine ⟨_, M1.cell 0 rfl rfl, ?_⟩
  refine ⟨congrArg Value.bool ?_, M1.ext⟩
  rw [Bool.eq_iff_iff]
  simp only [Bool.true_and, decide_eq_true_eq]
  omega

theorem forms8_spec (x : Fact) (w : World) : CallsV C.P 220 (#[] ++ [x.val].toArray ++ #[]) w fun v w' => v = .bool (idB x.who && idB x.what) ∧ Ext w w' := by
  refine callsV_of C_ok (args := [_]) (plans := []) Tryz.func220 rfl Tryz.ntmps220 (by kernel_rfl) (Nat.le_of_ble_eq_true rfl) ?_
  intro g2 w1 h1
  have M1 := (Mem.start w).alloc h1
  refine ⟨_, M1.cell 0 rfl rfl, ?_⟩
  refine (id_spec x.who w1).mono ?_
  rintro v w2 ⟨rfl, rfl⟩
  refine brE_mk (fun a1 => ?_) (fun a1 => ?_)
  case' refine_2 => exact ⟨by rw [a1]; rfl, M1.ext⟩
  refine ⟨_, M1.cell 0 rfl rfl, ?_⟩
  refine (id_spec x.what w2).mono ?_
  rintro v w3 ⟨rfl, rfl⟩
  exact ⟨by rw [a1]; rfl, M1.ext⟩
theorem forms10_spec (x : Fact) (w : World) : CallsV C.P 222 (#[] ++ [x.val].toArray ++ #[]) w fun v w' => v = .bool (idB x.who) ∧ Ext w w' := by
  refine callsV_of C_ok (args := [_]) (plans := []) Tryz.func222 rfl Tryz.ntmps222 (by kernel_rfl) (Nat.le_of_ble_eq_true rfl) ?_
  intro g2 w1 h1
  have M1 := (Mem.start w).alloc h1
  refine ⟨_, M1.cell 0 rfl rfl, ?_⟩
  refine (id_spec x.who w1).mono ?_
  rintro v w2 ⟨rfl, rfl⟩
  exact ⟨rfl, M1.ext⟩
theorem forms13_spec (x : Fact) (w : World) : CallsV C.P 225 (#[] ++ [x.val].toArray ++ #[]) w fun v w' => v = .bool (idB x.who) ∧ Ext w w' := by
  refine callsV_of C_ok (args := [_]) (plans := []) Tryz.func225 rfl Tryz.ntmps225 (by kernel_rfl) (Nat.le_of_ble_eq_true rfl) ?_
  intro g2 w1 h1
  have M1 := (Mem.start w).alloc h1
  refine ⟨_, M1.cell 0 rfl rfl, ?_⟩
  refine (id_spec x.who w1).mono ?_
  rintro v w2 ⟨rfl, rfl⟩
  exact ⟨rfl, M1.ext⟩
theorem forms15_spec (x : Fact) (w : World) : CallsV C.P 227 (#[] ++ [x.val].toArray ++ #[]) w fun v w' => v = .bool (idB x.what && !decide (x.what = x.id)) ∧ Ext w w' := by
  refine callsV_of C_ok (args := [_]) (plans := []) Tryz.func227 rfl Tryz.ntmps227 (by kernel_rfl) (Nat.le_of_ble_eq_true rfl) ?_
  intro g2 w1 h1
  have M1 := (Mem.start w).alloc h1
  refine ⟨_, M1.cell 0 rfl rfl, ?_⟩
  refine (id_spec x.what w1).mono ?_
  rintro v w2 ⟨rfl, rfl⟩
  refine brE_mk (fun a1 => ?_) (fun a1 => ?_)
  case' refine_2 => exact ⟨by rw [a1]; rfl, M1.ext⟩
  refine ⟨_, M1.cell 0 rfl rfl, ?_⟩
  refine ⟨_, M1.cell 0 rfl rfl, ?_⟩
  exact ⟨by rw [a1]; rfl, M1.ext⟩

end Go.Proofs.YtcnbpfecgokhiaaGreatDoor

namespace Go.Proofs.YtcnbpfecgokhiaaGreatDoor
open Go.Eng Go.RowKit

theorem forms3_spec (m : Int) (w : World) : CallsV C.P 212 (#[] ++ [.int .i64 m].toArray ++ #[]) w fun v w' => (∃ g, v = .func (.func 213) #[] #[.pointer (some ⟨g, 0, none⟩)] ∧ w'.heap[g]? = some (.cells #[.int .i64 m] 3 (0, 0))) ∧ Ext w w' := by
  refine callsV_of C_ok (args := [_]) (plans := []) Tryz.func212 rfl Tryz.ntmps212 (by kernel_rfl) (Nat.le_of_ble_eq_true rfl) ?_
  intro g w1 h1
  refine ⟨[], [.pointer (some ⟨g, 0, none⟩)], rfl, rfl, ?_⟩
  exact ⟨⟨g, rfl, h1.here⟩, h1.ext⟩

def form88 (wd : ByteArray) (a b c : Value) (n : Bool) : List Value := [.string wd, a, b, c, .bool n]
def fv (f : Nat) : Value := .func (.func f) #[] #[]
def clV (g : Nat) : Value := .func (.func 213) #[] #[.pointer (some ⟨g, 0, none⟩)]

def wordA (k : Nat) : ByteArray := match k with
  | 1 => ⟨#[110, 97, 109, 101]⟩
  | 2 => ⟨#[111, 102, 102, 105, 99, 101]⟩
  | 3 => ⟨#[97, 99, 116, 105, 110, 103]⟩
  | 4 => ⟨#[114, 101, 99, 111, 103, 110, 105, 115, 101]⟩
  | 5 => ⟨#[99, 114, 101, 100, 101, 110, 116, 105, 97, 108, 115]⟩
  | 6 => ⟨#[109, 97, 114, 114, 105, 101, 100]⟩
  | 7 => ⟨#[109, 111, 117, 114, 110, 105, 110, 103]⟩
  | 8 => ⟨#[118, 105, 115, 105, 116]⟩
  | 9 => ⟨#[100, 101, 112, 117, 116, 121]⟩
  | 10 => ⟨#[100, 101, 97, 116, 104]⟩
  | 11 => ⟨#[118, 111, 105, 100]⟩
  | _ => ⟨#[]⟩

def formK (p2 p3 p4 p8 : Nat) (k : Nat) : List Value := match k with
  | 1 => form88 (wordA 1) (fv 211) (fv 215) (fv 216) true
  | 2 => form88 (wordA 2) (fv 210) (clV p2) (fv 217) false
  | 3 => form88 (wordA 3) (fv 210) (clV p3) (fv 217) false
  | 4 => form88 (wordA 4) (fv 210) (clV p4) (fv 218) false
  | 5 => form88 (wordA 5) (fv 219) (fv 220) (fv 217) false
  | 6 => form88 (wordA 6) (fv 211) (fv 214) (fv 216) false
  | 7 => form88 (wordA 7) (fv 221) (fv 222) (fv 223) false
  | 8 => form88 (wordA 8) (fv 210) (clV p8) (fv 217) false
  | 9 => form88 (wordA 9) (fv 211) (fv 214) (fv 216) false
  | 10 => form88 (wordA 10) (fv 224) (fv 225) (fv 216) false
  | 11 => form88 (wordA 11) (fv 226) (fv 227) (fv 216) false
  | _ => [.string ⟨#[]⟩, .nilFunc, .nilFunc, .nilFunc, .bool false]
def formsL (p2 p3 p4 p8 : Nat) : List Value := (List.range 12).flatMap (formK p2 p3 p4 p8)

theorem put_eq {w w' : World} {g : Nat} {o o' : Obj} (h : Put w g o w') (e : o = o') : Put w g o' w' := e ▸ h

set_option maxRecDepth 100000 in
theorem forms_spec (w : World) : CallsV C.P 186 #[] w fun v w' => (∃ p2 p3 p4 p8, v = .agg (formsL p2 p3 p4 p8).toArray ∧ w'.heap[p2]? = some (.cells #[.int .i64 4] 3 (0, 0)) ∧ w'.heap[p3]? = some (.cells #[.int .i64 4] 3 (0, 0)) ∧ w'.heap[p4]? = some (.cells #[.int .i64 1000000] 3 (0, 0)) ∧ w'.heap[p8]? = some (.cells #[.int .i64 2] 3 (0, 0))) ∧ Ext w w' := by
  refine callsV_of C_ok (args := []) (plans := []) Tryz.func186 rfl Tryz.ntmps186 (by kernel_rfl) (Nat.le_of_ble_eq_true rfl) ?_
  intro g0 w1 h1
  have M1 := (Mem.start w).alloc h1
  refine (forms3_spec 4 w1).mono ?_
  rintro v w2 ⟨⟨p2, rfl, c2⟩, e2⟩
  refine (forms3_spec 4 w2).mono ?_
  rintro v w3 ⟨⟨p3, rfl, c3⟩, e3⟩
  refine (forms3_spec 1000000 w3).mono ?_
  rintro v w4 ⟨⟨p4, rfl, c4⟩, e4⟩
  refine (forms3_spec 2 w4).mono ?_
  rintro v w5 ⟨⟨p8, rfl, c8⟩, e5⟩
  have M5 := (((M1.grow e2).grow e3).grow e4).grow e5
  refine ⟨by kernel_rfl, _, _, M5.get 0 rfl, Nat.le_of_ble_eq_true (by kernel_rfl), by kernel_rfl, ?_⟩
  intro w6 h6
  have h6 := put_eq h6 (o' := .cells (formsL p2 p3 p4 p8).toArray 227 (0, 0)) (by kernel_rfl)
  have M6 := M5.put 0 rfl h6
  have hE : Ext w1 w5 := ((e2.trans e3).trans e4).trans e5
  have hne : ∀ {p : Nat} {m : Int}, w5.heap[p]? = some (.cells #[.int .i64 m] 3 (0, 0)) → p ≠ g0 := fun hp e => by
    subst e
    have := M5.get 0 rfl
    rw [hp] at this
    cases this
  have keep : ∀ {p : Nat} {m : Int}, w5.heap[p]? = some (.cells #[.int .i64 m] 3 (0, 0)) → w6.heap[p]? = some (.cells #[.int .i64 m] 3 (0, 0)) := fun hp => (h6.there _ (hne hp)).trans hp
  refine ⟨formsL p2 p3 p4 p8, by kernel_rfl, Rd.of_block h6.here, ?_⟩
  exact ⟨⟨p2, p3, p4, p8, rfl, keep (e5.heap (e4.heap (e3.heap c2))), keep (e5.heap (e4.heap c3)), keep (e5.heap c4), keep c8⟩, M6.ext⟩

end Go.Proofs.YtcnbpfecgokhiaaGreatDoor

namespace Go.Proofs.YtcnbpfecgokhiaaGreatDoor
open Go.Eng Go.RowKit

abbrev inRng (n : Nat) : Prop := C.can n = true

/-- What a form of a kind does. -/
def FormOk (w : World) (k : Nat) (v : Value) : Prop :=
  ∃ n1 n2 n3 c2, v = .agg #[.string (wordA k), .func (.func n1) #[] #[], .func (.func n2) #[] c2, .func (.func n3) #[] #[], .bool (Nat.beq k 1)] ∧ inRng n1 ∧ inRng n2 ∧ inRng n3 ∧
    (∀ g w', CallsV C.P n1 (#[] ++ [.pointer (some ⟨g, 0, none⟩)].toArray ++ #[]) w' (OffsPost g (offs k) w')) ∧
    (∀ (x : Fact) w', x.kind = k → Ext w w' → CallsV C.P n2 (#[] ++ [x.val].toArray ++ c2) w' fun r w'' => r = .bool (rightB x) ∧ Ext w' w'') ∧
    (∀ (x : Fact) w', x.kind = k → Ext w w' → CallsV C.P n3 (#[] ++ [x.val].toArray ++ #[]) w' fun r w'' => NewInts w'.heap.size w'' r (speaks x) ∧ Ext w' w'')

theorem FormOk.ext {w w' : World} {k : Nat} {v : Value} (h : FormOk w k v) (e : Ext w w') : FormOk w' k v := by
  obtain ⟨n1, n2, n3, c2, h0, r1, r2, r3, a1, a2, a3⟩ := h
  exact ⟨n1, n2, n3, c2, h0, r1, r2, r3, a1, fun x w2 hk e2 => a2 x w2 hk (e.trans e2), fun x w2 hk e2 => a3 x w2 hk (e.trans e2)⟩

theorem form_ok {w : World} {p2 p3 p4 p8 : Nat} (h2 : w.heap[p2]? = some (.cells #[.int .i64 4] 3 (0, 0))) (h3 : w.heap[p3]? = some (.cells #[.int .i64 4] 3 (0, 0))) (h4 : w.heap[p4]? = some (.cells #[.int .i64 1000000] 3 (0, 0))) (h8 : w.heap[p8]? = some (.cells #[.int .i64 2] 3 (0, 0))) {k : Nat} (h1 : 1 ≤ k) (hk : k ≤ 11) :
    FormOk w k (.agg (formK p2 p3 p4 p8 k).toArray) := by
  have cases : k = 1 ∨ k = 2 ∨ k = 3 ∨ k = 4 ∨ k = 5 ∨ k = 6 ∨ k = 7 ∨ k = 8 ∨ k = 9 ∨ k = 10 ∨ k = 11 := by omega
  rcases cases with rfl | rfl | rfl | rfl | rfl | rfl | rfl | rfl | rfl | rfl | rfl
  · exact ⟨_, _, _, _, rfl, rfl, rfl, rfl, fun g w' => forms2_spec g w', fun x w' hk e => by
      have : rightB x = (idB x.who && decide (1 ≤ x.other ∧ x.other ≤ 3)) := by simp [rightB, hk]
      rw [this]; exact forms5_spec x w', fun x w' hk e => by
      have : speaks x = [] := by simp [speaks, hk]
      rw [this]; exact none_spec x w'⟩
  · exact ⟨_, _, _, _, rfl, rfl, rfl, rfl, fun g w' => forms1_spec g w', fun x w' hk e => by
      have : rightB x = (idB x.who && idB x.what && decide (1 ≤ x.other ∧ x.other ≤ 4)) := by simp [rightB, hk]
      rw [this]; exact classed_spec x w' (e.heap h2), fun x w' hk e => by
      have : speaks x = [x.what] := by simp [speaks, hk]
      rw [this]; exact what_spec x w'⟩
  · exact ⟨_, _, _, _, rfl, rfl, rfl, rfl, fun g w' => forms1_spec g w', fun x w' hk e => by
      have : rightB x = (idB x.who && idB x.what && decide (1 ≤ x.other ∧ x.other ≤ 4)) := by simp [rightB, hk]
      rw [this]; exact classed_spec x w' (e.heap h3), fun x w' hk e => by
      have : speaks x = [x.what] := by simp [speaks, hk]
      rw [this]; exact what_spec x w'⟩
  · exact ⟨_, _, _, _, rfl, rfl, rfl, rfl, fun g w' => forms1_spec g w', fun x w' hk e => by
      have : rightB x = (idB x.who && idB x.what && decide (1 ≤ x.other ∧ x.other ≤ 1000000)) := by simp [rightB, hk]
      rw [this]; exact classed_spec x w' (e.heap h4), fun x w' hk e => by
      have : speaks x = [x.who, x.what] := by simp [speaks, hk]
      rw [this]; exact forms6_spec x w'⟩
  · exact ⟨_, _, _, _, rfl, rfl, rfl, rfl, fun g w' => forms7_spec g w', fun x w' hk e => by
      have : rightB x = (idB x.who && idB x.what) := by simp [rightB, hk]
      rw [this]; exact forms8_spec x w', fun x w' hk e => by
      have : speaks x = [x.what] := by simp [speaks, hk]
      rw [this]; exact what_spec x w'⟩
  · exact ⟨_, _, _, _, rfl, rfl, rfl, rfl, fun g w' => forms2_spec g w', fun x w' hk e => by
      have : rightB x = (idB x.who && idB x.other && !decide (x.who = x.other)) := by simp [rightB, hk]
      rw [this]; exact forms4_spec x w', fun x w' hk e => by
      have : speaks x = [] := by simp [speaks, hk]
      rw [this]; exact none_spec x w'⟩
  · exact ⟨_, _, _, _, rfl, rfl, rfl, rfl, fun g w' => forms9_spec g w', fun x w' hk e => by
      have : rightB x = idB x.who := by simp [rightB, hk]
      rw [this]; exact forms10_spec x w', fun x w' hk e => by
      have : speaks x = [x.who] := by simp [speaks, hk]
      rw [this]; exact forms11_spec x w'⟩
  · exact ⟨_, _, _, _, rfl, rfl, rfl, rfl, fun g w' => forms1_spec g w', fun x w' hk e => by
      have : rightB x = (idB x.who && idB x.what && decide (1 ≤ x.other ∧ x.other ≤ 2)) := by simp [rightB, hk]
      rw [this]; exact classed_spec x w' (e.heap h8), fun x w' hk e => by
      have : speaks x = [x.what] := by simp [speaks, hk]
      rw [this]; exact what_spec x w'⟩
  · exact ⟨_, _, _, _, rfl, rfl, rfl, rfl, fun g w' => forms2_spec g w', fun x w' hk e => by
      have : rightB x = (idB x.who && idB x.other && !decide (x.who = x.other)) := by simp [rightB, hk]
      rw [this]; exact forms4_spec x w', fun x w' hk e => by
      have : speaks x = [] := by simp [speaks, hk]
      rw [this]; exact none_spec x w'⟩
  · exact ⟨_, _, _, _, rfl, rfl, rfl, rfl, fun g w' => forms12_spec g w', fun x w' hk e => by
      have : rightB x = idB x.who := by simp [rightB, hk]
      rw [this]; exact forms13_spec x w', fun x w' hk e => by
      have : speaks x = [] := by simp [speaks, hk]
      rw [this]; exact none_spec x w'⟩
  · exact ⟨_, _, _, _, rfl, rfl, rfl, rfl, fun g w' => forms14_spec g w', fun x w' hk e => by
      have : rightB x = (idB x.what && !decide (x.what = x.id)) := by simp [rightB, hk]
      rw [this]; exact forms15_spec x w', fun x w' hk e => by
      have : speaks x = [] := by simp [speaks, hk]
      rw [this]; exact none_spec x w'⟩

end Go.Proofs.YtcnbpfecgokhiaaGreatDoor

namespace Go.Proofs.YtcnbpfecgokhiaaGreatDoor
open Go.Eng Go.RowKit

theorem formK_len (p2 p3 p4 p8 k : Nat) : (formK p2 p3 p4 p8 k).length = 5 := by unfold formK; split <;> rfl
theorem formK_one (p2 p3 p4 p8 k : Nat) : (formK p2 p3 p4 p8 k).all (·.oneCell') = true := by unfold formK; split <;> rfl
theorem splice_whole {cs vs : List Value} (h : cs.length ≤ vs.length) : splice cs 0 vs = vs := by
  unfold splice
  rw [List.take_zero, List.nil_append, List.drop_eq_nil_of_le (by omega), List.append_nil]
theorem forms_at {p2 p3 p4 p8 : Nat} : ∀ {k : Nat}, 1 ≤ k → k ≤ 11 → (formsL p2 p3 p4 p8).toArray.extract (k * 5) (k * 5 + 5) = (formK p2 p3 p4 p8 k).toArray
  | 0, h, _ => absurd h (by decide)
  | 1, _, _ => by kernel_rfl
  | 2, _, _ => by kernel_rfl
  | 3, _, _ => by kernel_rfl
  | 4, _, _ => by kernel_rfl
  | 5, _, _ => by kernel_rfl
  | 6, _, _ => by kernel_rfl
  | 7, _, _ => by kernel_rfl
  | 8, _, _ => by kernel_rfl
  | 9, _, _ => by kernel_rfl
  | 10, _, _ => by kernel_rfl
  | 11, _, _ => by kernel_rfl
  | n + 12, _, h => absurd h (by omega)

set_option maxRecDepth 100000 in
theorem formOf_spec (k : Nat) (w : World) : CallsV C.P 163 #[.int .u8 k] w fun v w' =>
    (if 1 ≤ k ∧ k ≤ 11 then ∃ cs : List Value, v = .tuple #[.agg cs.toArray, .bool true] ∧ cs.length = 5 ∧ cs.all (·.oneCell') = true ∧ FormOk w' k (.agg cs.toArray) else v = .tuple #[.agg (formK 0 0 0 0 0).toArray, .bool false]) ∧ Ext w w' := by
  refine callsV_of C_ok (args := [_]) (plans := []) Tryz.func163 rfl Tryz.ntmps163 (by kernel_rfl) (Nat.le_of_ble_eq_true rfl) ?_
  intro g2 w1 h1
  have M1 := (Mem.start w).alloc h1
  have no : ¬ (1 ≤ k ∧ k ≤ 11) → ∀ {w' : World}, Put w1 g2 (.cells (formK 0 0 0 0 0).toArray 203 (0, 0)) w' → Ext w w' := fun _ w' h => (M1.put 0 rfl h).ext
  refine brE_dec (fun a1 => ?_) (fun a1 => ?_)
  · have a1 : (k : Int) < 1 := a1
    refine ⟨rfl, _, _, M1.get 0 rfl, Nat.le_of_ble_eq_true rfl, rfl, ?_⟩
    intro w2 h2
    have h2 : Put w1 g2 (.cells (formK 0 0 0 0 0).toArray 203 (0, 0)) w2 := h2
    refine ⟨formK 0 0 0 0 0, rfl, Rd.of_block h2.here, ?_⟩
    refine ⟨?_, no (by omega) h2⟩
    rw [if_neg (by omega)]
  have a1 : ¬ (k : Int) < 1 := a1
  refine brE_dec (fun a2 => ?_) (fun a2 => ?_)
  · have a2 : (k : Int) > 11 := a2
    refine ⟨rfl, _, _, M1.get 0 rfl, Nat.le_of_ble_eq_true rfl, rfl, ?_⟩
    intro w2 h2
    have h2 : Put w1 g2 (.cells (formK 0 0 0 0 0).toArray 203 (0, 0)) w2 := h2
    refine ⟨formK 0 0 0 0 0, rfl, Rd.of_block h2.here, ?_⟩
    refine ⟨?_, no (by omega) h2⟩
    rw [if_neg (by omega)]
  have a2 : ¬ (k : Int) > 11 := a2
  refine (forms_spec w1).mono ?_
  rintro v w2 ⟨⟨p2, p3, p4, p8, rfl, c2, c3, c4, c8⟩, e2⟩
  have M2 := M1.grow e2
  have hx := forms_at (p2 := p2) (p3 := p3) (p4 := p4) (p8 := p8) (k := k) (by omega) (by omega)
  have hlen := formK_len p2 p3 p4 p8 k
  refine ⟨k, rfl, by omega, ?_⟩
  refine ⟨?s, _, _, M2.get 0 rfl, Nat.le_of_ble_eq_true rfl, ?o, ?_⟩
  case s =>
    show ((formsL p2 p3 p4 p8).toArray.extract (k * 5) (k * 5 + 5)).size = 5
    rw [hx]; exact hlen
  case o =>
    show ((formsL p2 p3 p4 p8).toArray.extract (k * 5) (k * 5 + 5)).toList.all (·.oneCell') = true
    rw [hx]; exact formK_one p2 p3 p4 p8 k
  intro w3 h3
  have h3 := put_eq h3 (o' := .cells (formK p2 p3 p4 p8 k).toArray 203 (0, 0)) (by
    show Obj.cells (splice _ 0 ((formsL p2 p3 p4 p8).toArray.extract (k * 5) (k * 5 + 5)).toList).toArray _ _ = _
    rw [hx]
    congr 2
    exact splice_whole (by rw [hlen]; exact Nat.le_of_ble_eq_true rfl))
  have M3 := M2.put 0 rfl h3
  have keep : ∀ {p : Nat} {m : Int}, w2.heap[p]? = some (.cells #[.int .i64 m] 3 (0, 0)) → w3.heap[p]? = some (.cells #[.int .i64 m] 3 (0, 0)) := fun hp => (h3.there _ (fun e => by
    subst e
    have := M2.get 0 rfl
    rw [hp] at this
    cases this)).trans hp
  refine ⟨formK p2 p3 p4 p8 k, hlen, Rd.of_block h3.here, ?_⟩
  refine ⟨?_, M3.ext⟩
  rw [if_pos ⟨by omega, by omega⟩]
  exact ⟨_, rfl, hlen, formK_one _ _ _ _ _, form_ok (keep c2) (keep c3) (keep c4) (keep c8) (by omega) (by omega)⟩

end Go.Proofs.YtcnbpfecgokhiaaGreatDoor

namespace Go.Proofs.YtcnbpfecgokhiaaGreatDoor
open Go.Eng Go.RowKit

theorem formE_head {x : Fact} (h : headB x = false) : formE x = 1 := by unfold formE; rw [h]; rfl
theorem headB_iff {x : Fact} : headB x = true ↔ (1 ≤ x.kind ∧ x.kind ≤ 11) ∧ idB x.id = true ∧ (0 ≤ x.known ∧ x.known ≤ 100000) ∧ (0 ≤ x.since ∧ x.since ≤ 100000) ∧ (x.til = 0 ∨ x.since < x.til ∧ x.til ≤ 100000) := by
  simp only [headB, Bool.and_eq_true, Bool.or_eq_true, decide_eq_true_eq]
  constructor
  · rintro ⟨⟨⟨⟨a, b⟩, c⟩, d⟩, e⟩; exact ⟨a, b, c, d, e⟩
  · rintro ⟨a, b, c, d, e⟩; exact ⟨⟨⟨⟨a, b⟩, c⟩, d⟩, e⟩
theorem headB_no {x : Fact} (h : headB x = true → False) : headB x = false := by
  cases hh : headB x with
  | false => rfl
  | true => exact (h hh).elim

/-- A fact some of whose fields are struck. -/
def zeroAt (x : Fact) : List Nat → List Value := fun os => os.foldl (fun cs o => splice cs o [.int .i64 0]) x.cells

theorem zeroAt_snoc (x : Fact) (os : List Nat) (o : Nat) : zeroAt x (os ++ [o]) = splice (zeroAt x os) o [.int .i64 0] := by simp [zeroAt]
theorem zeroAt_length (x : Fact) : ∀ (os : List Nat), (∀ o ∈ os, o < 9) → (zeroAt x os).length = 9 := by
  suffices h : ∀ (os : List Nat) (cs : List Value), cs.length = 9 → (∀ o ∈ os, o < 9) → (os.foldl (fun cs o => splice cs o [.int .i64 0]) cs).length = 9 from fun os ho => h os _ rfl ho
  intro os
  induction os with
  | nil => intro cs h _; exact h
  | cons o r ih =>
    intro cs h ho
    have := ho o (by simp)
    exact ih _ (by rw [splice_length (by rw [h]; simp; omega)]; exact h) fun o' h' => ho o' (by simp [h'])

/-- What is left of a fact when the fields that its kind uses are struck. -/
def restF (x : Fact) : Fact := ⟨0, 0, 0, if 3 ∈ offs x.kind then 0 else x.who, if 4 ∈ offs x.kind then 0 else x.what, if 5 ∈ offs x.kind then 0 else x.other, if 6 ∈ offs x.kind then 0 else x.since, if 7 ∈ offs x.kind then 0 else x.til, if x.kind = 1 then ⟨#[]⟩ else x.name⟩

theorem restF_zero (x : Fact) : restF x = factZ ↔ restB x = true := by
  unfold restF factZ restB
  simp only [Fact.mk.injEq, Bool.and_eq_true, Bool.or_eq_true, decide_eq_true_eq, true_and]
  have key : ∀ {p : Prop} [Decidable p] {a : Int}, (if p then 0 else a) = 0 ↔ p ∨ a = 0 := fun {p} _ {a} => by
    by_cases h : p <;> simp [h]
  have key2 : ∀ {p : Prop} [Decidable p] {a : ByteArray}, (if p then ⟨#[]⟩ else a) = ⟨#[]⟩ ↔ p ∨ a = ⟨#[]⟩ := fun {p} _ {a} => by
    by_cases h : p <;> simp [h]
  rw [key, key, key, key, key, key2]
  constructor
  · rintro ⟨a, b, c, d, e, f⟩; exact ⟨⟨⟨⟨⟨a, b⟩, c⟩, d⟩, e⟩, f⟩
  · rintro ⟨⟨⟨⟨⟨a, b⟩, c⟩, d⟩, e⟩, f⟩; exact ⟨a, b, c, d, e, f⟩

theorem struck {x : Fact} {k : Nat} (hk : x.kind = (k : Int)) (h1 : 1 ≤ k) (h2 : k ≤ 11) :
    (if k = 1 then splice (splice (splice (splice (zeroAt x (offs k)) 0 [.int .i64 0]) 1 [.int .i64 0]) 2 [.int .u8 0]) 8 [.string ⟨#[]⟩] else splice (splice (splice (zeroAt x (offs k)) 0 [.int .i64 0]) 1 [.int .i64 0]) 2 [.int .u8 0]) = (restF x).cells := by
  have cases : k = 1 ∨ k = 2 ∨ k = 3 ∨ k = 4 ∨ k = 5 ∨ k = 6 ∨ k = 7 ∨ k = 8 ∨ k = 9 ∨ k = 10 ∨ k = 11 := by omega
  obtain ⟨x0, x1, x2, x3, x4, x5, x6, x7, x8⟩ := x
  have hk : x2 = (k : Int) := hk
  subst hk
  rcases cases with rfl | rfl | rfl | rfl | rfl | rfl | rfl | rfl | rfl | rfl | rfl <;> simp [zeroAt, offs, restF, Fact.cells, splice]

end Go.Proofs.YtcnbpfecgokhiaaGreatDoor
