/- a part of the proof: steps, walks and plain laws that the law below stands on; no condition. -/
import Derived.Test.YtcnbpfecgokhiaaGreatDoorProg
import Derived.Shelf.SortM.Plain
import Derived.Shelf.SortM.SortNone
import Derived.KernelRfl
import Derived.Test.YtcnbpfecgokhiaaGreatDoorDBc
import Derived.Test.YtcnbpfecgokhiaaGreatDoorDBb
set_option linter.unusedVariables false
set_option linter.unusedSimpArgs false
set_option linter.unnecessarySimpa false
set_option linter.unusedSectionVars false
namespace Go.Proofs.YtcnbpfecgokhiaaGreatDoor
open Go.Proofs

def sortI_ren : Go.Shelf.Ren := ⟨fun | 5 => 234 | 8 => 255 | 7 => 254 | 19 => 269 | 20 => 241 | 10 => 260 | 11 => 261 | 12 => 262 | 13 => 263 | 14 => 264 | 15 => 265 | 16 => 266 | 17 => 267 | 18 => 268 | 30 => 271 | 31 => 272 | 32 => 273 | 33 => 274 | 34 => 275 | 35 => 174 | 40 => 276 | n => n, fun | 23 => 153 | 25 => 3 | 3 => 3 | 32 => 243 | 22 => 153 | 0 => 0 | 44 => 259 | 46 => 236 | 4 => 4 | 36 => 281 | 35 => 280 | 41 => 134 | 5 => 5 | 9 => 9 | 53 => 289 | 57 => 167 | 63 => 294 | 64 => 295 | n => n, fun | n => n⟩
theorem sortI : Go.Proofs.SlLaysM.n5 Tryz.prog sortI_ren := {
  mixed := by kernel_rfl,
  f5 := ⟨Tryz.f234.name, by decide, Tryz.func234.trans (congrArg some (by kernel_rfl))⟩,
  f7 := ⟨Tryz.f254.name, by decide, Tryz.func254.trans (congrArg some (by kernel_rfl))⟩,
  f8 := Tryz.func255.trans (congrArg some (by kernel_rfl)),
  f10 := ⟨Tryz.f260.name, by decide, Tryz.func260.trans (congrArg some (by kernel_rfl))⟩,
  f11 := ⟨Tryz.f261.name, by decide, Tryz.func261.trans (congrArg some (by kernel_rfl))⟩,
  f12 := ⟨Tryz.f262.name, by decide, Tryz.func262.trans (congrArg some (by kernel_rfl))⟩,
  f13 := ⟨Tryz.f263.name, by decide, Tryz.func263.trans (congrArg some (by kernel_rfl))⟩,
  f14 := ⟨Tryz.f264.name, by decide, Tryz.func264.trans (congrArg some (by kernel_rfl))⟩,
  f15 := ⟨Tryz.f265.name, by decide, Tryz.func265.trans (congrArg some (by kernel_rfl))⟩,
  f16 := ⟨Tryz.f266.name, by decide, Tryz.func266.trans (congrArg some (by kernel_rfl))⟩,
  f17 := ⟨Tryz.f267.name, by decide, Tryz.func267.trans (congrArg some (by kernel_rfl))⟩,
  f18 := ⟨Tryz.f268.name, by decide, Tryz.func268.trans (congrArg some (by kernel_rfl))⟩,
  f19 := Tryz.func269.trans (congrArg some (by kernel_rfl)),
  f20 := Tryz.func241.trans (congrArg some (by kernel_rfl)),
  f30 := ⟨Tryz.f271.name, by decide, Tryz.func271.trans (congrArg some (by kernel_rfl))⟩,
  f31 := Tryz.func272.trans (congrArg some (by kernel_rfl)),
  f32 := Tryz.func273.trans (congrArg some (by kernel_rfl)),
  f33 := ⟨Tryz.f274.name, by decide, Tryz.func274.trans (congrArg some (by kernel_rfl))⟩,
  f34 := ⟨Tryz.f275.name, by decide, Tryz.func275.trans (congrArg some (by kernel_rfl))⟩,
  f35 := ⟨Tryz.f174.name, by decide, Tryz.func174.trans (congrArg some (by kernel_rfl))⟩,
  f40 := ⟨Tryz.f276.name, by decide, Tryz.func276.trans (congrArg some (by kernel_rfl))⟩,
  t0 := Tryz.underlying0,
  a0 := Tryz.isAgg0,
  z0 := Tryz.sizeOf0,
  v0 := Tryz.zeroValue0,
  t3 := Tryz.underlying3,
  a3 := Tryz.isAgg3,
  z3 := Tryz.sizeOf3,
  v3 := Tryz.zeroValue3,
  t4 := Tryz.underlying4,
  a4 := Tryz.isAgg4,
  z4 := Tryz.sizeOf4,
  v4 := Tryz.zeroValue4,
  t5 := Tryz.underlying5,
  a5 := Tryz.isAgg5,
  z5 := Tryz.sizeOf5,
  v5 := Tryz.zeroValue5,
  t9 := Tryz.underlying9,
  a9 := Tryz.isAgg9,
  z9 := Tryz.sizeOf9,
  v9 := Tryz.zeroValue9,
  t22 := Tryz.underlying153,
  a22 := Tryz.isAgg153,
  z22 := Tryz.sizeOf153,
  v22 := Tryz.zeroValue153,
  t23 := Tryz.underlying153,
  a23 := Tryz.isAgg153,
  z23 := Tryz.sizeOf153,
  v23 := Tryz.zeroValue153,
  t25 := Tryz.underlying3,
  a25 := Tryz.isAgg3,
  z25 := Tryz.sizeOf3,
  v25 := Tryz.zeroValue3,
  t32 := Tryz.underlying243,
  a32 := Tryz.isAgg243,
  z32 := Tryz.sizeOf243,
  v32 := Tryz.zeroValue243,
  t35 := Tryz.underlying280,
  a35 := Tryz.isAgg280,
  z35 := Tryz.sizeOf280,
  v35 := Tryz.zeroValue280,
  t36 := Tryz.underlying281,
  a36 := Tryz.isAgg281,
  z36 := Tryz.sizeOf281,
  v36 := Tryz.zeroValue281,
  t41 := Tryz.underlying134,
  a41 := Tryz.isAgg134,
  z41 := Tryz.sizeOf134,
  v41 := Tryz.zeroValue134,
  t44 := Tryz.underlying259,
  a44 := Tryz.isAgg259,
  z44 := Tryz.sizeOf259,
  v44 := Tryz.zeroValue259,
  t46 := Tryz.underlying236,
  a46 := Tryz.isAgg236,
  z46 := Tryz.sizeOf236,
  v46 := Tryz.zeroValue236,
  t53 := Tryz.underlying289,
  a53 := Tryz.isAgg289,
  z53 := Tryz.sizeOf289,
  v53 := Tryz.zeroValue289,
  t57 := Tryz.underlying167,
  a57 := Tryz.isAgg167,
  z57 := Tryz.sizeOf167,
  v57 := Tryz.zeroValue167,
  t63 := Tryz.underlying294,
  a63 := Tryz.isAgg294,
  z63 := Tryz.sizeOf294,
  v63 := Tryz.zeroValue294,
  t64 := Tryz.underlying295,
  a64 := Tryz.isAgg295,
  z64 := Tryz.sizeOf295,
  v64 := Tryz.zeroValue295 }

end Go.Proofs.YtcnbpfecgokhiaaGreatDoor

namespace Go.Proofs.YtcnbpfecgokhiaaGreatDoor
open Go.Eng Go.RowKit

/-- A number in a box. -/
abbrev BoxI (w : World) (p : Nat) (n : Int) : Prop := w.heap[p]? = some (.cells #[.int .i64 n] 3 (0, 0))
theorem BoxI.ext {w w' : World} {p : Nat} {n : Int} (h : BoxI w p n) (e : Ext w w') : BoxI w' p n := e.heap h

theorem dead1_spec (x : Fact) {n : Int} {p0 : Nat} (w : World) (hp0 : BoxI w p0 n) :
    CallsV C.P 233 (#[] ++ [x.val].toArray ++ #[.pointer (some ⟨p0, 0, none⟩)]) w fun v w' => v = .bool (deathB n x) ∧ Ext w w' := by
  refine callsV_of C_ok (args := [_, _]) (plans := []) Tryz.func233 rfl Tryz.ntmps233 (by kernel_rfl) (Nat.le_of_ble_eq_true rfl) ?_
  intro g w1 h1
  have M1 := (Mem.start w).alloc h1
  unfold deathB
  refine ⟨_, M1.cell 0 rfl rfl, ?_⟩
  refine brE_dec (fun a0 => ?_) (fun a0 => ?_)
  case' refine_2 =>
    have a0 : ¬ x.kind = 10 := a0
    exact ⟨congrArg Value.bool (decide_eq_false fun h => a0 h.1).symm, M1.ext⟩
  have a0 : x.kind = 10 := a0
  refine ⟨_, M1.cell 0 rfl rfl, ?_⟩
  refine ⟨_, cell_of_block (h1.ext.heap hp0) rfl, ?_⟩
  refine ⟨congrArg Value.bool ?_, M1.ext⟩
  show decide (x.who = n) = _
  rw [Bool.eq_iff_iff, decide_eq_true_eq, decide_eq_true_eq]
  exact ⟨fun h => ⟨a0, h⟩, fun h => h.2⟩

abbrev TestV (w : World) (gd : Nat) (cb : Array Value) (p : Fact → Bool) : Prop := ∀ (x : Fact) (w' : World), Ext w w' → CallsV C.P gd (#[] ++ [x.val].toArray ++ cb) w' fun v w'' => v = .bool (p x) ∧ Ext w' w''

theorem IndexFuncV_spec {w : World} {A : Option Addr} {l : List Fact} {c gd : Nat} {cb : Array Value} {p : Fact → Bool} (hr : Reads w A (fcells l)) (hl : l.length ≤ 2 ^ 20) (hgd : C.can gd = true) (hp : TestV w gd cb p) :
    CallsV C.P 259 #[.slice A l.length c, .func (.func gd) #[] cb] w fun v w' => (∃ i : Int, v = .int .i64 i ∧ decide (i ≥ 0) = l.any p) ∧ Ext w w' := by
  refine callsV_of C_ok (args := [_, _]) (plans := []) Tryz.func259 rfl Tryz.ntmps259 (by kernel_rfl) (Nat.le_of_ble_eq_true rfl) ?_
  refine loopE C_ok (fun (i : Nat) => [(0, .slice A l.length c), (1, .func (.func gd) #[] cb), (7, .int .i64 l.length), (8, .int .i64 i)])
    (fun i w' => Ext w w' ∧ i ≤ l.length ∧ (l.take i).any p = false) (fun i => l.length - i) 0 ⟨rfl, rfl, rfl, rfl, trivial⟩
    ⟨Ext.refl _, Nat.zero_le _, rfl⟩ ?_
  rintro i w1 ⟨e1, hi, hall⟩
  refine brE_dec (fun hlt => ?_) (fun hge => ?_)
  · have hlt : i < l.length := by have : (i : Int) < (l.length : Nat) := hlt; omega
    obtain ⟨b, o, hA, hc⟩ := Reads.fact (hr.ext e1) hlt
    refine ⟨i, b, o, rfl, hlt, hA, ?_⟩
    refine ⟨l[i].cells, rfl, hc, ?_⟩
    refine brE_true hgd ?_
    refine (hp l[i] w1 e1).mono ?_
    rintro v w2 ⟨rfl, e2⟩
    refine brE_mk (fun h2 => ?_) (fun h2 => ?_)
    · refine ⟨⟨i, rfl, ?_⟩, e1.trans e2⟩
      rw [decide_eq_true (by omega), eq_comm, List.any_eq_true]
      exact ⟨_, List.getElem_mem hlt, h2⟩
    · refine ⟨((i + 1 : Nat) : Int), fit ⟨by omega, by omega⟩, ?_⟩
      refine ⟨i + 1, ⟨rfl, rfl, rfl, rfl, trivial⟩, ⟨e1.trans e2, hlt, ?_⟩, by omega⟩
      rw [List.take_succ_eq_append_getElem hlt, List.any_append, hall]
      simp [h2]
  · have : i = l.length := by have : ¬ (i : Int) < (l.length : Nat) := hge; omega
    subst this
    rw [List.take_length] at hall
    exact ⟨⟨-1, rfl, by rw [hall]; rfl⟩, e1⟩

theorem some_spec {w : World} {A : Option Addr} {l : List Fact} {c gd : Nat} {cb : Array Value} {p : Fact → Bool} (hr : Reads w A (fcells l)) (hl : l.length ≤ 2 ^ 20) (hgd : C.can gd = true) (hp : TestV w gd cb p) :
    CallsV C.P 232 #[.slice A l.length c, .func (.func gd) #[] cb] w fun v w' => v = .bool (l.any p) ∧ Ext w w' := by
  have inner : CallsV C.P 253 #[.slice A l.length c, .func (.func gd) #[] cb] w fun v w' => v = .bool (l.any p) ∧ Ext w w' := by
    refine callsV_of C_ok (args := [_, _]) (plans := []) Tryz.func253 rfl Tryz.ntmps253 (by kernel_rfl) (Nat.le_of_ble_eq_true rfl) ?_
    refine (IndexFuncV_spec hr hl hgd hp).mono ?_
    rintro v w1 ⟨⟨i, rfl, hi⟩, e1⟩
    exact ⟨congrArg Value.bool hi, e1⟩
  refine callsV_of C_ok (args := [_, _]) (plans := []) Tryz.func232 rfl Tryz.ntmps232 (by kernel_rfl) (Nat.le_of_ble_eq_true rfl) ?_
  refine inner.mono ?_
  rintro v w1 ⟨rfl, e1⟩
  exact ⟨rfl, e1⟩

theorem vdead_spec {w : World} {A : Option Addr} {l : List Fact} {c : Nat} (hr : Reads w A (fcells l)) (hl : l.length ≤ 2 ^ 20) (n : Int) :
    CallsV C.P 189 #[.slice A l.length c, .int .i64 n] w fun v w' => v = .bool (deadB l n) ∧ Ext w w' := by
  refine callsV_of C_ok (args := [_, _]) (plans := []) Tryz.func189 rfl Tryz.ntmps189 (by kernel_rfl) (Nat.le_of_ble_eq_true rfl) ?_
  intro g w1 h1
  refine ⟨[], [.pointer (some ⟨g, 0, none⟩)], rfl, rfl, ?_⟩
  refine (some_spec (p := deathB n) (hr.ext h1.ext) hl rfl fun x w' e => dead1_spec x w' (e.heap h1.here)).mono ?_
  rintro v w2 ⟨rfl, e2⟩
  exact ⟨rfl, h1.ext.trans e2⟩

theorem look_spec {w : World} {A : Option Addr} {l : List Fact} {c : Nat} (h : HF w A l c) (hl : l.length ≤ 2 ^ 20) (k day : Int) :
    CallsV C.P 164 #[.slice A l.length c, .int .i64 k, .int .i64 day] w fun v w' => NewF w.heap.size w' v (atL k day l) ∧ Ext w w' := by
  refine callsV_of C_ok (args := [_, _, _]) (plans := []) Tryz.func164 rfl Tryz.ntmps164 (by kernel_rfl) (Nat.le_of_ble_eq_true rfl) ?_
  refine (At_spec h hl k day).mono ?_
  rintro v w1 h1
  exact h1

end Go.Proofs.YtcnbpfecgokhiaaGreatDoor
