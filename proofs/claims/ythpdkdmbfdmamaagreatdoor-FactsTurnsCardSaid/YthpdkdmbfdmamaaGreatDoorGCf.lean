/- a part of the proof: steps, walks and plain laws that the law below stands on; no condition. -/
import Derived.Test.YthpdkdmbfdmamaaGreatDoorGCd
import Derived.Test.YthpdkdmbfdmamaaGreatDoorGBb
import Derived.Test.YthpdkdmbfdmamaaGreatDoorGEd
import Derived.Ground.SlsfProg
set_option linter.unusedVariables false
set_option linter.unusedSimpArgs false
set_option linter.unnecessarySimpa false
set_option linter.unusedSectionVars false
namespace Go.Proofs.YthpdkdmbfdmamaaGreatDoor
open Go.Eng Go.RowKit

theorem ltStr (t : Nat) (a b : ByteArray) (w : World) : (binOp .lss t (.string a) (.string b)).run C.P w = .ok (.bool (Op.bytesLess a.data.toList b.data.toList)) w := by
  show (Op.stringOp .lss a b).run C.P w = _
  simp [Op.stringOp, ByteArray.toList_eq]
theorem gtStr (t : Nat) (a b : ByteArray) (w : World) : (binOp .gtr t (.string a) (.string b)).run C.P w = .ok (.bool (!(Op.bytesLess a.data.toList b.data.toList || decide (a = b)))) w := by
  show (pure (Value.bool !(Op.bytesLess a.toList b.toList || a.toList == b.toList)) : Sem Value).run C.P w = _
  rw [ba_beq, ByteArray.toList_eq, ByteArray.toList_eq, Sem.run_pure]

def cmpS (a b : ByteArray) : Int := if Op.bytesLess a.data.toList b.data.toList = true then -1 else if a = b then 0 else 1
def cmpI (a b : Int) : Int := if a < b then -1 else if a = b then 0 else 1

theorem isNaNS_spec (a : ByteArray) (w : World) : CallsV C.P 152 #[.string a] w fun v w' => v = .bool false ∧ w' = w := by
  refine callsV_of C_ok (args := [_]) (plans := []) Tryz.func152 rfl Tryz.ntmps152 (by kernel_rfl) (Nat.le_of_ble_eq_true rfl) ?_
  refine ⟨_, neqStr _ _ a a, ?_⟩
  exact ⟨by simp, rfl⟩
theorem isNaNI_spec (a : Int) (w : World) : CallsV C.P 153 #[.int .i64 a] w fun v w' => v = .bool false ∧ w' = w := by
  refine callsV_of C_ok (args := [_]) (plans := []) Tryz.func153 rfl Tryz.ntmps153 (by kernel_rfl) (Nat.le_of_ble_eq_true rfl) ?_
  exact ⟨by simp, rfl⟩
theorem CompareS_spec (a b : ByteArray) (w : World) : CallsV C.P 111 #[.string a, .string b] w fun v w' => v = .int .i64 (cmpS a b) ∧ w' = w := by
  refine callsV_of C_ok (args := [_, _]) (plans := []) Tryz.func111 rfl Tryz.ntmps111 (by kernel_rfl) (Nat.le_of_ble_eq_true rfl) ?_
  refine (isNaNS_spec a w).mono ?_
  rintro v w1 ⟨rfl, rfl⟩
  refine (isNaNS_spec b w1).mono ?_
  rintro v w2 ⟨rfl, rfl⟩
  unfold cmpS
  refine ⟨_, ltStr _ a b, ⟨by decide, by decide⟩, ?_⟩
  refine brE_mk (fun h1 => ?_) (fun h1 => ?_)
  · rw [if_pos h1]; exact ⟨rfl, rfl⟩
  rw [if_neg (by rw [h1]; decide)]
  refine ⟨_, gtStr _ a b, ⟨by decide, by decide⟩, ?_⟩
  refine brE_mk (fun h2 => ?_) (fun h2 => ?_)
  · have h2 : ¬ a = b := by rw [h1] at h2; simpa using h2
    rw [if_neg h2]; exact ⟨rfl, rfl⟩
  · have h2 : a = b := by rw [h1] at h2; simpa using h2
    rw [if_pos h2]; exact ⟨rfl, rfl⟩
theorem CompareI_spec (a b : Int) (w : World) : CallsV C.P 112 #[.int .i64 a, .int .i64 b] w fun v w' => v = .int .i64 (cmpI a b) ∧ w' = w := by
  refine callsV_of C_ok (args := [_, _]) (plans := []) Tryz.func112 rfl Tryz.ntmps112 (by kernel_rfl) (Nat.le_of_ble_eq_true rfl) ?_
  refine (isNaNI_spec a w).mono ?_
  rintro v w1 ⟨rfl, rfl⟩
  refine (isNaNI_spec b w1).mono ?_
  rintro v w2 ⟨rfl, rfl⟩
  unfold cmpI
  refine brE_dec (fun h1 => ?_) (fun h1 => ?_)
  · have h1 : a < b := h1
    rw [if_pos h1]; exact ⟨rfl, rfl⟩
  have h1 : ¬ a < b := h1
  rw [if_neg h1]
  refine brE_dec (fun h2 => ?_) (fun h2 => ?_)
  · have h2 : a > b := h2
    rw [if_neg (by omega)]; exact ⟨rfl, rfl⟩
  · have h2 : ¬ a > b := h2
    rw [if_pos (by omega)]; exact ⟨rfl, rfl⟩

def orI : List Int → Int
  | [] => 0
  | x :: r => if x ≠ 0 then x else orI r
theorem orI_drop {xs : List Int} {i : Nat} (h : i < xs.length) : orI (xs.drop i) = if xs[i] ≠ 0 then xs[i] else orI (xs.drop (i + 1)) := by
  rw [List.drop_eq_getElem_cons h]; rfl
theorem Or_spec {w : World} {A : Option Addr} {xs : List Int} {c : Nat} (hr : Reads w A (ints xs)) (hl : xs.length ≤ 2 ^ 20) :
    CallsV C.P 110 #[.slice A xs.length c] w fun v w' => v = .int .i64 (orI xs) ∧ w' = w := by
  refine callsV_of C_ok (args := [_]) (plans := []) Tryz.func110 rfl Tryz.ntmps110 (by kernel_rfl) (Nat.le_of_ble_eq_true rfl) ?_
  refine loopE C_ok (fun (i : Nat) => [(3, .int .i64 0), (6, .slice A xs.length c), (7, .int .i64 xs.length), (8, .int .i64 i)])
    (fun i w' => w' = w ∧ i ≤ xs.length ∧ orI xs = orI (xs.drop i)) (fun i => xs.length - i) 0 ⟨rfl, rfl, rfl, rfl, trivial⟩ ⟨rfl, Nat.zero_le _, rfl⟩ ?_
  rintro i w1 ⟨rfl, hi, hor⟩
  refine brE_dec (fun hlt => ?_) (fun hge => ?_)
  · have hlt : i < xs.length := by have : (i : Int) < (xs.length : Nat) := hlt; omega
    obtain ⟨b, o, hA, hc⟩ := Reads.int hr hlt
    have hd := orI_drop hlt
    refine ⟨i, b, o, rfl, hlt, hA, ?_⟩
    refine ⟨_, by simpa using hc, ?_⟩
    refine brE_ndec (fun h2 => ?_) (fun h2 => ?_)
    · have h2 : ¬ xs[i] = 0 := h2
      rw [if_pos h2] at hd
      exact ⟨by rw [hor, hd], rfl⟩
    · have h2 : xs[i] = 0 := h2
      rw [if_neg (by simpa using h2)] at hd
      refine ⟨((i + 1 : Nat) : Int), fit ⟨by omega, by omega⟩, ?_⟩
      exact ⟨i + 1, ⟨rfl, rfl, rfl, rfl, trivial⟩, ⟨rfl, hlt, by rw [hor, hd]⟩, by omega⟩
  · have : i = xs.length := by have : ¬ (i : Int) < (xs.length : Nat) := hge; omega
    subst this
    rw [List.drop_length] at hor
    exact ⟨by rw [hor]; rfl, rfl⟩

structure Entry where
  state : Int
  has : Bool
  name : ByteArray
def Entry.cells (e : Entry) : List Value := [.int .i64 e.state, .bool e.has, .string e.name]
def entries (l : List Entry) : List Value := l.flatMap Entry.cells
theorem Entry.len (x : Entry) : x.cells.length = 3 := rfl
instance : Inhabited Entry := ⟨⟨0, false, ⟨#[]⟩⟩⟩
def cmpE (a b : Entry) : Int := if a.has ≠ b.has then (if a.has = true then -1 else 1) else orI [cmpS a.name b.name, cmpI a.state b.state]

theorem Alphabet1_spec (a b : Entry) (w : World) : CallsV C.P 109 #[.agg a.cells.toArray, .agg b.cells.toArray] w fun v w' => v = .int .i64 (cmpE a b) ∧ Ext w w' := by
  refine callsV_of C_ok (args := [_, _]) (plans := plans109) Tryz.func109 rfl Tryz.ntmps109 (by kernel_rfl) (Nat.le_of_ble_eq_true rfl) ?_
  intro g2 w1 h1
  have M1 := (Mem.start w).alloc h1
  intro g3 w2 h2
  have M2 := M1.alloc h2
  unfold cmpE
  refine ⟨_, M2.cell 1 rfl rfl, ?_⟩
  refine ⟨_, M2.cell 0 rfl rfl, ?_⟩
  refine ⟨_, neqBool _ _ a.has b.has, ?_⟩
  refine brE_mk (fun h1 => ?_) (fun h1 => ?_)
  · have h1 : a.has ≠ b.has := by simpa using h1
    rw [if_pos h1]
    refine ⟨_, M2.cell 1 rfl rfl, ?_⟩
    refine brE_mk (fun h2 => ?_) (fun h2 => ?_)
    · have h2 : a.has = true := h2
      rw [if_pos h2]; exact ⟨rfl, M2.ext⟩
    · have h2 : a.has = false := h2
      rw [if_neg (by rw [h2]; decide)]; exact ⟨rfl, M2.ext⟩
  have h1 : a.has = b.has := by simpa using h1
  rw [if_neg (fun h => h h1)]
  refine ⟨_, M2.cell 1 rfl rfl, ?_⟩
  refine ⟨_, M2.cell 0 rfl rfl, ?_⟩
  refine ⟨_, M2.cell 1 rfl rfl, ?_⟩
  refine ⟨_, M2.cell 0 rfl rfl, ?_⟩
  refine (CompareS_spec a.name b.name w2).mono ?_
  rintro v w3 ⟨rfl, rfl⟩
  refine ⟨Ext.refl _, ?_⟩
  refine (CompareI_spec a.state b.state w3).mono ?_
  rintro v w4 ⟨rfl, rfl⟩
  intro g5 w5 h5
  refine (Or_spec (xs := [cmpS a.name b.name, cmpI a.state b.state]) (.inr ⟨g5, 0, rfl, Rd.of_block h5.here⟩) (by show 2 ≤ 2 ^ 20; decide)).mono ?_
  rintro v w6 ⟨rfl, rfl⟩
  exact ⟨rfl, M2.ext.trans h5.ext⟩

theorem cmpS_cases (a b : ByteArray) : (cmpS a b = -1 ∧ Op.bytesLess a.data.toList b.data.toList = true) ∨ (cmpS a b = 0 ∧ a = b) ∨ (cmpS a b = 1 ∧ a ≠ b ∧ Op.bytesLess a.data.toList b.data.toList = false) := by
  unfold cmpS
  split
  · rename_i h; exact .inl ⟨rfl, h⟩
  · rename_i h
    split
    · rename_i e; exact .inr (.inl ⟨rfl, e⟩)
    · rename_i e; exact .inr (.inr ⟨rfl, e, by simpa using h⟩)
theorem cmpI_lt (a b : Int) : cmpI a b < 0 ↔ a < b := by
  unfold cmpI
  split
  · simp; assumption
  · split <;> simp <;> omega
theorem or_lt {x y : Int} : orI [x, y] < 0 ↔ x < 0 ∨ x = 0 ∧ y < 0 := by
  unfold orI
  by_cases h : x = 0
  · subst h
    simp only [ne_eq, not_true, if_false, Int.lt_irrefl, true_and, false_or]
    unfold orI
    by_cases h2 : y = 0
    · subst h2; simp [orI]
    · rw [if_pos h2]
  · rw [if_pos h]; omega
/-- Whom the comparison puts first. -/
theorem cmpE_lt (a b : Entry) : cmpE a b < 0 ↔ (a.has = true ∧ b.has = false) ∨ (a.has = b.has ∧ (Op.bytesLess a.name.data.toList b.name.data.toList = true ∨ a.name = b.name ∧ a.state < b.state)) := by
  unfold cmpE
  by_cases h : a.has = b.has
  · rw [if_neg (fun e => e h), or_lt, cmpI_lt]
    have hn : ¬ (a.has = true ∧ b.has = false) := fun e => by rw [e.1, e.2] at h; cases h
    simp only [hn, false_or, h, true_and]
    rcases cmpS_cases a.name b.name with ⟨h1, h2⟩ | ⟨h1, h2⟩ | ⟨h1, h2, h3⟩
    · rw [h1, h2]; simp
    · rw [h1, h2, bl_irrefl]; simp
    · rw [h1, h3]; simp [h2]
  · rw [if_pos h]
    cases ha : a.has <;> cases hb : b.has <;> simp [ha, hb] at h ⊢
theorem name_eq {a b : ByteArray} : a.data.toList = b.data.toList ↔ a = b := ⟨fun h => ByteArray.ext (Array.toList_inj.1 h), fun h => by rw [h]⟩
theorem bl_asymm {s t : List UInt8} (h1 : Op.bytesLess s t = true) (h2 : Op.bytesLess t s = true) : False := by
  have := bl_trans h1 h2
  rw [bl_irrefl] at this; cases this

def ltE (a b : Entry) : Bool := decide (cmpE a b < 0)
theorem ltE_iff (a b : Entry) : ltE a b = true ↔ (a.has = true ∧ b.has = false) ∨ (a.has = b.has ∧ (Op.bytesLess a.name.data.toList b.name.data.toList = true ∨ a.name = b.name ∧ a.state < b.state)) := by
  unfold ltE
  rw [decide_eq_true_eq, cmpE_lt]
theorem ltE_total (a b : Entry) : ltE a b = true ∨ (a.has = b.has ∧ a.name = b.name ∧ a.state = b.state) ∨ ltE b a = true := by
  rw [ltE_iff, ltE_iff]
  cases ha : a.has <;> cases hb : b.has <;> simp
  all_goals
    rcases bl_total a.name.data.toList b.name.data.toList with h | h | h
    · exact .inl (.inl h)
    · have e := name_eq.1 h
      rw [e, bl_irrefl]
      simp; omega
    · exact .inr (.inr (.inl h))
theorem ltE_trans {a b c : Entry} (h1 : ltE a b = true) (h2 : ltE b c = true) : ltE a c = true := by
  rw [ltE_iff] at *
  rcases h1 with ⟨p, q⟩ | ⟨e1, h1⟩
  · rcases h2 with ⟨p2, q2⟩ | ⟨e2, h2⟩
    · rw [q] at p2; cases p2
    · exact .inl ⟨p, by rw [← e2]; exact q⟩
  · rcases h2 with ⟨p2, q2⟩ | ⟨e2, h2⟩
    · exact .inl ⟨by rw [e1]; exact p2, q2⟩
    · refine .inr ⟨e1.trans e2, ?_⟩
      rcases h1 with h1 | ⟨n1, h1⟩
      · rcases h2 with h2 | ⟨n2, h2⟩
        · exact .inl (bl_trans h1 h2)
        · exact .inl (by rw [← n2]; exact h1)
      · rcases h2 with h2 | ⟨n2, h2⟩
        · exact .inl (by rw [n1]; exact h2)
        · exact .inr ⟨n1.trans n2, by omega⟩
theorem ltE_irrefl (a : Entry) : ltE a a = false := by
  cases h : ltE a a with
  | false => rfl
  | true =>
    rw [ltE_iff] at h
    rcases h with ⟨p, q⟩ | ⟨_, h | ⟨_, h⟩⟩
    · rw [p] at q; cases q
    · rw [bl_irrefl] at h; cases h
    · omega

/-- An entry tells whether its state has a name. -/
def Entry.Ok (e : Entry) : Prop := e.has = !decide (e.name = ⟨#[]⟩)
theorem nil_name {a : ByteArray} : a.data.toList = [] ↔ a = ⟨#[]⟩ := name_eq (b := ⟨#[]⟩)
theorem ltE_eq {a b : Entry} (ha : a.Ok) (hb : b.Ok) : ltE a b = aheadK a.name.data.toList a.state b.name.data.toList b.state := by
  rw [Bool.eq_iff_iff, ltE_iff, aheadK_iff]
  unfold Entry.Ok at ha hb
  rw [ha, hb, ← name_eq (a := a.name) (b := b.name)]
  by_cases hs : a.name.data.toList = [] <;> by_cases ht : b.name.data.toList = []
  · rw [decide_eq_true (nil_name.1 hs), decide_eq_true (nil_name.1 ht), hs, ht, bl_irrefl]
    simp
  · rw [decide_eq_true (nil_name.1 hs), decide_eq_false (fun e => ht (nil_name.2 e)), hs]
    simp [ht]
  · rw [decide_eq_false (fun e => hs (nil_name.2 e)), decide_eq_true (nil_name.1 ht), ht]
    simp [hs]
  · rw [decide_eq_false (fun e => hs (nil_name.2 e)), decide_eq_false (fun e => ht (nil_name.2 e))]
    simp only [hs, ht, ne_eq, not_false_eq_true, not_true, and_false, false_or, iff_self, true_and, Bool.not_false, Bool.true_eq_false]
    constructor
    · rintro (h | h)
      · exact .inr ⟨fun e => (by rw [e, bl_irrefl] at h; cases h), h⟩
      · exact .inl h
    · rintro (h | ⟨_, h⟩)
      · exact .inr h
      · exact .inl h

end Go.Proofs.YthpdkdmbfdmamaaGreatDoor

namespace Go.Proofs.YthpdkdmbfdmamaaGreatDoor
open Go.Eng Go.RowKit Go.Sort

def sortE_ren : Go.Shelf.Ren := ⟨fun | 6 => 108 | 15 => 151 | 14 => 150 | 28 => 195 | 29 => 196 | 20 => 187 | 21 => 188 | 22 => 189 | 23 => 190 | 24 => 191 | 25 => 192 | 26 => 193 | 27 => 194 | 46 => 221 | 47 => 222 | 48 => 223 | 49 => 224 | 50 => 225 | 57 => 237 | n => n, fun | 22 => 119 | 24 => 123 | 25 => 128 | 3 => 3 | 39 => 156 | 0 => 0 | 53 => 177 | 55 => 179 | 4 => 4 | 46 => 171 | 45 => 170 | 50 => 52 | 5 => 5 | 9 => 9 | 66 => 203 | 70 => 95 | 76 => 219 | 77 => 220 | n => n, fun | n => n⟩
theorem sortE : Go.Proofs.SlLaysF0.n6 Tryz.prog sortE_ren := {
  mixed := by kernel_rfl,
  f6 := ⟨Tryz.f108.name, by decide, Tryz.func108.trans (congrArg some (by kernel_rfl))⟩,
  f14 := ⟨Tryz.f150.name, by decide, Tryz.func150.trans (congrArg some (by kernel_rfl))⟩,
  f15 := Tryz.func151.trans (congrArg some (by kernel_rfl)),
  f20 := ⟨Tryz.f187.name, by decide, Tryz.func187.trans (congrArg some (by kernel_rfl))⟩,
  f21 := ⟨Tryz.f188.name, by decide, Tryz.func188.trans (congrArg some (by kernel_rfl))⟩,
  f22 := ⟨Tryz.f189.name, by decide, Tryz.func189.trans (congrArg some (by kernel_rfl))⟩,
  f23 := ⟨Tryz.f190.name, by decide, Tryz.func190.trans (congrArg some (by kernel_rfl))⟩,
  f24 := ⟨Tryz.f191.name, by decide, Tryz.func191.trans (congrArg some (by kernel_rfl))⟩,
  f25 := ⟨Tryz.f192.name, by decide, Tryz.func192.trans (congrArg some (by kernel_rfl))⟩,
  f26 := ⟨Tryz.f193.name, by decide, Tryz.func193.trans (congrArg some (by kernel_rfl))⟩,
  f27 := ⟨Tryz.f194.name, by decide, Tryz.func194.trans (congrArg some (by kernel_rfl))⟩,
  f28 := Tryz.func195.trans (congrArg some (by kernel_rfl)),
  f29 := Tryz.func196.trans (congrArg some (by kernel_rfl)),
  f46 := ⟨Tryz.f221.name, by decide, Tryz.func221.trans (congrArg some (by kernel_rfl))⟩,
  f47 := Tryz.func222.trans (congrArg some (by kernel_rfl)),
  f48 := Tryz.func223.trans (congrArg some (by kernel_rfl)),
  f49 := ⟨Tryz.f224.name, by decide, Tryz.func224.trans (congrArg some (by kernel_rfl))⟩,
  f50 := ⟨Tryz.f225.name, by decide, Tryz.func225.trans (congrArg some (by kernel_rfl))⟩,
  f57 := ⟨Tryz.f237.name, by decide, Tryz.func237.trans (congrArg some (by kernel_rfl))⟩,
  t0 := Tryz.underlying0,
  a0 := Tryz.isAgg0,
  z0 := Tryz.sizeOf0,
  v0 := Tryz.zeroValue0,
  t3 := Tryz.underlying3,
  a3 := Tryz.isAgg3,
  z3 := Tryz.sizeOf3,
  v3 := Tryz.zeroValue3,
  t4 := Tryz.underlying4,
  a4 := Tryz.isAgg4,
  z4 := Tryz.sizeOf4,
  v4 := Tryz.zeroValue4,
  t5 := Tryz.underlying5,
  a5 := Tryz.isAgg5,
  z5 := Tryz.sizeOf5,
  v5 := Tryz.zeroValue5,
  t9 := Tryz.underlying9,
  a9 := Tryz.isAgg9,
  z9 := Tryz.sizeOf9,
  v9 := Tryz.zeroValue9,
  t22 := Tryz.underlying119,
  a22 := Tryz.isAgg119,
  z22 := Tryz.sizeOf119,
  v22 := Tryz.zeroValue119,
  t25 := Tryz.underlying128,
  a25 := Tryz.isAgg128,
  z25 := Tryz.sizeOf128,
  v25 := Tryz.zeroValue128,
  t39 := Tryz.underlying156,
  a39 := Tryz.isAgg156,
  z39 := Tryz.sizeOf156,
  v39 := Tryz.zeroValue156,
  t45 := Tryz.underlying170,
  a45 := Tryz.isAgg170,
  z45 := Tryz.sizeOf170,
  v45 := Tryz.zeroValue170,
  t46 := Tryz.underlying171,
  a46 := Tryz.isAgg171,
  z46 := Tryz.sizeOf171,
  v46 := Tryz.zeroValue171,
  t50 := Tryz.underlying52,
  a50 := Tryz.isAgg52,
  z50 := Tryz.sizeOf52,
  v50 := Tryz.zeroValue52,
  t53 := Tryz.underlying177,
  a53 := Tryz.isAgg177,
  z53 := Tryz.sizeOf177,
  v53 := Tryz.zeroValue177,
  t55 := Tryz.underlying179,
  a55 := Tryz.isAgg179,
  z55 := Tryz.sizeOf179,
  v55 := Tryz.zeroValue179,
  t66 := Tryz.underlying203,
  a66 := Tryz.isAgg203,
  z66 := Tryz.sizeOf203,
  v66 := Tryz.zeroValue203,
  t70 := Tryz.underlying95,
  a70 := Tryz.isAgg95,
  z70 := Tryz.sizeOf95,
  v70 := Tryz.zeroValue95,
  t76 := Tryz.underlying219,
  a76 := Tryz.isAgg219,
  z76 := Tryz.sizeOf219,
  v76 := Tryz.zeroValue219,
  t77 := Tryz.underlying220,
  a77 := Tryz.isAgg220,
  z77 := Tryz.sizeOf220,
  v77 := Tryz.zeroValue220 }

theorem swo_entry : SWO (ltOf cmpE) where
  irrefl x := ltE_irrefl x
  trans x y z h1 h2 := ltE_trans h1 h2
  ntrans x y z h1 h2 := by
    have h1 : ltE x y = false := h1
    have h2 : ltE y z = false := h2
    show ltE x z = false
    cases h : ltE x z with
    | false => rfl
    | true =>
      rcases ltE_total x y with a | ⟨e1, e2, e3⟩ | a
      · rw [a] at h1; cases h1
      · have e : ltE x z = ltE y z := by
          rw [Bool.eq_iff_iff, ltE_iff, ltE_iff, e1, e2, e3]
        rw [e, h2] at h; cases h
      · have := ltE_trans a h
        rw [h2] at this; cases this

theorem SortE_spec {w : World} {base : Nat} {v : Value} {l : List Entry} (h : w.ownsRow base 123 3 v l.length (entries l)) (hlen : l.length < 4611686018427387904) :
    CallsV C.P 108 #[v, .func (.func 109) #[] #[]] w fun r w' => r = .tuple #[] ∧ ∃ l' : List Entry, l'.Perm l ∧ (l'.Pairwise fun a b => ltE b a = false) ∧ w'.ownsRow base 123 3 v l'.length (entries l') ∧ w.grownBy w' v.ownBlock ∧ Only 123 w w' := by
  have eg : ∀ args w, (callFunc 109 args).run Tryz.prog w = .ok (.enter 109 args) w := enters_of Tryz.func109 (by kernel_rfl) rfl
  refine (sortV (P := C.P) (f := 108) (g := 109) (cb := #[]) (enc := Entry.cells) (k := 3) (fun _ => rfl) (lt := ltE) (fun W blk cap d hd hH hb => ?_) (fun A cap W => ?_) h hlen).mono ?_
  · exact AnyQ.slices_SortFunc sortE 3 Tryz.isAgg123 Tryz.sizeOf123 Entry.cells (fun _ => rfl) (fun x v hv => by simp [Entry.cells] at hv; rcases hv with rfl | rfl | rfl <;> rfl) cmpE swo_entry 109 #[] blk 0 cap d W eg (cmpLays_of fun x y W => Alphabet1_spec x y W) hH hb hd
  · exact AnyF.slices_SortFunc_none sortE A cap _ W
  · exact fun _ _ h => h

end Go.Proofs.YthpdkdmbfdmamaaGreatDoor
