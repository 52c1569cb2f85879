/- a part of the proof: steps, walks and plain laws that the law below stands on; no condition. -/
import Derived.Test.YtcnbpfecgokhiaaGreatDoorDSa
import Derived.Test.YtcnbpfecgokhiaaGreatDoorDSb
import Derived.Test.YtcnbpfecgokhiaaGreatDoorDSc
import Derived.Test.YtcnbpfecgokhiaaGreatDoorDSd
import Derived.Test.YtcnbpfecgokhiaaGreatDoorDSe
import Derived.Test.YtcnbpfecgokhiaaGreatDoorDSf
import Derived.Test.YtcnbpfecgokhiaaGreatDoorDSg
import Derived.Test.YtcnbpfecgokhiaaGreatDoorDSh
import Derived.Test.YtcnbpfecgokhiaaGreatDoorDSi
import Derived.Shelf.Strings.OnBuilder
import Derived.Shelf.Strconv.AtoiAll
import Derived.Shelf.Strconv.Itoa3
import Derived.Shelf.Strings.Search2
import Derived.KernelRfl
import Derived.Test.YtcnbpfecgokhiaaGreatDoorProg
import Derived.WideLaws
import Derived.Scope
import Derived.Laws.StructEq
import Derived.Sort.Walk0
import Derived.Ground.SlsfProg
set_option linter.unusedVariables false
set_option linter.unusedSimpArgs false
set_option linter.unnecessarySimpa false
set_option linter.unusedSectionVars false
namespace Go.Proofs.YtcnbpfecgokhiaaGreatDoor
open Go.Proofs Go.Shelf
def laysM171_ren : Go.Shelf.Ren := ⟨fun | 171 => 108 | 243 => 147 | 246 => 176 | 283 => 199 | 284 => 200 | 285 => 201 | 286 => 202 | 129 => 241 | 317 => 240 | 318 => 242 | 319 => 243 | 320 => 244 | 337 => 257 | 338 => 258 | n => n, fun | 3 => 3 | 9 => 9 | 2 => 2 | 4 => 4 | 171 => 235 | 0 => 0 | 53 => 236 | 37 => 216 | 5 => 5 | 173 => 239 | 212 => 258 | 51 => 259 | 20 => 20 | 213 => 260 | 46 => 243 | 232 => 287 | 233 => 288 | n => n, fun | 17 => 3 | 18 => 4 | 19 => 5 | n => n⟩
theorem laysM171 : Go.Proofs.LaysM.n171 Tryz.prog laysM171_ren := {
  mixed := by kernel_rfl
  f129 := Tryz.func241.trans (congrArg some (by kernel_rfl))
  f171 := Tryz.func108.trans (congrArg some (by kernel_rfl))
  f243 := Tryz.func147.trans (congrArg some (by kernel_rfl))
  f246 := Tryz.func176.trans (congrArg some (by kernel_rfl))
  f283 := Tryz.func199.trans (congrArg some (by kernel_rfl))
  f284 := Tryz.func200.trans (congrArg some (by kernel_rfl))
  f285 := Tryz.func201.trans (congrArg some (by kernel_rfl))
  f286 := Tryz.func202.trans (congrArg some (by kernel_rfl))
  f317 := Tryz.func240.trans (congrArg some (by kernel_rfl))
  f318 := Tryz.func242.trans (congrArg some (by kernel_rfl))
  f319 := Tryz.func243.trans (congrArg some (by kernel_rfl))
  f320 := Tryz.func244.trans (congrArg some (by kernel_rfl))
  f337 := Tryz.func257.trans (congrArg some (by kernel_rfl))
  f338 := Tryz.func258.trans (congrArg some (by kernel_rfl))
  t0 := Tryz.underlying0
  a0 := Tryz.isAgg0
  z0 := Tryz.sizeOf0
  v0 := Tryz.zeroValue0
  t2 := Tryz.underlying2
  a2 := Tryz.isAgg2
  z2 := Tryz.sizeOf2
  v2 := Tryz.zeroValue2
  t3 := Tryz.underlying3
  a3 := Tryz.isAgg3
  z3 := Tryz.sizeOf3
  v3 := Tryz.zeroValue3
  t4 := Tryz.underlying4
  a4 := Tryz.isAgg4
  z4 := Tryz.sizeOf4
  v4 := Tryz.zeroValue4
  t5 := Tryz.underlying5
  a5 := Tryz.isAgg5
  z5 := Tryz.sizeOf5
  v5 := Tryz.zeroValue5
  t9 := Tryz.underlying9
  a9 := Tryz.isAgg9
  z9 := Tryz.sizeOf9
  v9 := Tryz.zeroValue9
  t20 := Tryz.underlying20
  a20 := Tryz.isAgg20
  z20 := Tryz.sizeOf20
  v20 := Tryz.zeroValue20
  t37 := Tryz.underlying216
  a37 := Tryz.isAgg216
  z37 := Tryz.sizeOf216
  v37 := Tryz.zeroValue216
  t46 := Tryz.underlying243
  a46 := Tryz.isAgg243
  z46 := Tryz.sizeOf243
  v46 := Tryz.zeroValue243
  t51 := Tryz.underlying259
  a51 := Tryz.isAgg259
  z51 := Tryz.sizeOf259
  v51 := Tryz.zeroValue259
  t53 := Tryz.underlying236
  a53 := Tryz.isAgg236
  z53 := Tryz.sizeOf236
  v53 := Tryz.zeroValue236
  t171 := Tryz.underlying235
  a171 := Tryz.isAgg235
  z171 := Tryz.sizeOf235
  v171 := Tryz.zeroValue235
  t173 := Tryz.underlying239
  a173 := Tryz.isAgg239
  z173 := Tryz.sizeOf239
  v173 := Tryz.zeroValue239
  t212 := Tryz.underlying258
  a212 := Tryz.isAgg258
  z212 := Tryz.sizeOf258
  v212 := Tryz.zeroValue258
  t213 := Tryz.underlying260
  a213 := Tryz.isAgg260
  z213 := Tryz.sizeOf260
  t232 := Tryz.underlying287
  a232 := Tryz.isAgg287
  z232 := Tryz.sizeOf287
  v232 := Tryz.zeroValue287
  t233 := Tryz.underlying288
  a233 := Tryz.isAgg288
  z233 := Tryz.sizeOf288
  v233 := Tryz.zeroValue288
  g17 := by kernel_rfl
  g18 := by kernel_rfl
  g19 := by kernel_rfl
  i0 := by kernel_rfl
  i2 := by kernel_rfl
  i3 := by kernel_rfl
  i4 := by kernel_rfl
  i5 := by kernel_rfl
  i9 := by kernel_rfl
  i20 := by kernel_rfl
  i37 := by kernel_rfl
  i46 := by kernel_rfl
  i51 := by kernel_rfl
  i53 := by kernel_rfl
  i171 := by kernel_rfl
  i173 := by kernel_rfl
  i212 := by kernel_rfl
  i232 := by kernel_rfl
  i233 := by kernel_rfl
  m17 := by kernel_rfl
  m18 := by kernel_rfl
  m19 := by kernel_rfl }
end Go.Proofs.YtcnbpfecgokhiaaGreatDoor
namespace Go.Eng
open Go.RowKit
theorem var_ext {P : Program} {w w' : World} {n : String} {cs : Array Value} (h : w.var? P n = some cs) (e : Ext w w') : w'.var? P n = some cs := by
  unfold World.var? at h ⊢
  cases hg : P.globalNamed n with
  | none => simp [hg] at h
  | some g =>
    simp only [hg, Option.bind_some] at h ⊢
    cases hb : w.heap[g]? with
    | none => rw [hb] at h; cases h
    | some o => rw [e.heap hb]; rw [hb] at h; exact h
theorem var_same {P : Program} {w w' : World} {n : String} {cs : Array Value} (h : w.var? P n = some cs) (e : Same w w') : w'.var? P n = some cs := by
  unfold World.var? at h ⊢
  rw [e.heap]; exact h
theorem ext_grow (w : World) (n : Nat) (os : Array Obj) : Ext w (Go.Sort.grow (w.drewN n) os) := by
  refine ⟨rfl, rfl, rfl, ?_, fun k hk => ?_⟩
  · show w.heap.size ≤ (w.heap ++ os).size
    simp
  · show (w.heap ++ os)[k]? = w.heap[k]?
    exact Array.getElem?_append_left hk
end Go.Eng
namespace Go.Proofs.YtcnbpfecgokhiaaGreatDoor
open Go.Eng Go.RowKit
/-- The tables of the library lie where they belong. -/
structure Tabs (w : World) : Prop where
  pow : Lib.TabIs Tryz.prog w "internal/strconv.uint64pow10" .u64 Lib.pow10Tab
  syn : ∃ te pe, w.cell? ⟨1, 0, none⟩ = some (.iface te pe)
  rng : ∃ te pe, w.cell? ⟨2, 0, none⟩ = some (.iface te pe)
theorem Tabs.ext {w w' : World} (h : Tabs w) (e : Ext w w') : Tabs w' := ⟨var_ext h.pow e, let ⟨te, pe, hc⟩ := h.syn; ⟨te, pe, e.cell hc⟩, let ⟨te, pe, hc⟩ := h.rng; ⟨te, pe, e.cell hc⟩⟩
theorem Tabs.same {w w' : World} (h : Tabs w) (e : Same w w') : Tabs w' := h.ext e.ext
/-- A row of strings. -/
def strs (xs : List ByteArray) : List Value := xs.map (.string ·)
theorem Reads.str {w : World} {A : Option Addr} {xs : List ByteArray} (h : Reads w A (strs xs)) {i : Nat} (hi : i < xs.length) : ∃ b o, A = some ⟨b, o, none⟩ ∧ w.cell? ⟨b, o + i, none⟩ = some (.string xs[i]) := by
  rcases h with h | ⟨b, o, hA, hr⟩
  · have : xs.length = 0 := by have := congrArg List.length h; simpa [strs] using this
    omega
  · exact ⟨b, o, hA, hr i _ (by simp [strs, hi])⟩
end Go.Proofs.YtcnbpfecgokhiaaGreatDoor
namespace Go.Proofs.YtcnbpfecgokhiaaGreatDoor
open Go.Eng Go.RowKit
/-- The table that numbers are written by. -/
abbrev TabP (w : World) : Prop := Lib.TabIs Tryz.prog w "internal/strconv.uint64pow10" .u64 Lib.pow10Tab
theorem tabP_ext {w w' : World} (h : TabP w) (e : Ext w w') : TabP w' := var_ext h e
theorem Itoa6_spec (n : Int) (hn : In64 n) (w : World) (T : TabP w) : CallsV C.P 108 #[.int .i64 n] w fun v w' => v = .string ⟨(Lib.itoa n).toArray⟩ ∧ Ext w w' := by
  refine callsV_of_calls fun w₁ hs => ?_
  refine (Any.strconv_Itoa laysM171 n hn.1 hn.2 w₁ (var_same T hs)).mono ?_
  rintro e w' ⟨rfl, k, os, rfl⟩
  exact ⟨_, rfl, ⟨rfl, (ext_grow w₁ k os).same_left hs.symm⟩, Nat.le_add_right _ _⟩
abbrev tx (l : List UInt8) : ByteArray := ⟨l.toArray⟩
theorem tx_append (a b : List UInt8) : tx a ++ tx b = tx (a ++ b) := by
  apply ByteArray.ext
  simp
theorem addTx {t : Nat} (a b : List UInt8) (h : a.length + b.length ≤ 9223372036854775807) (w : World) : (binOp .add t (.string (tx a)) (.string (tx b))).run C.P w = .ok (.string (tx (a ++ b))) w := by
  have hs : (tx a).size + (tx b).size = a.length + b.length := by
    show a.toArray.size + b.toArray.size = _
    simp
  have hm : ¬ (((tx a).size + (tx b).size : Nat) : Int) > IntKind.i64.max := by
    rw [hs]
    show ¬ ((a.length + b.length : Nat) : Int) > 9223372036854775807
    omega
  show (Op.stringOp .add (tx a) (tx b)).run C.P w = _
  unfold Op.stringOp
  simp only [if_neg hm, tx_append, Sem.run_pure]
def verbL (k : Nat) : List UInt8 := match k with
  | 1 => [114, 97, 116, 101]
  | 2 => [99, 101, 105, 108, 105, 110, 103]
  | 3 => [103, 114, 97, 110, 116]
  | 4 => [101, 110, 100]
  | 5 => [111, 102, 102, 101, 114]
  | 6 => [116, 97, 107, 101]
  | 7 => [114, 101, 102, 117, 115, 101]
  | _ => []
theorem verbL_len (k : Nat) : (verbL k).length ≤ 7 := by
  unfold verbL
  split <;> decide
theorem verbs_spec (w : World) : CallsV C.P 109 #[] w fun v w' => ∃ g, v = .slice (some ⟨g, 0, none⟩) 8 8 ∧ w'.heap[g]? = some (.cells ((List.range 8).map fun k => Value.string (tx (verbL k))).toArray 9 (0, 0)) ∧ Ext w w' := by
  refine callsV_of C_ok (args := []) (plans := []) Tryz.func109 rfl Tryz.ntmps109 (by kernel_rfl) (Nat.le_of_ble_eq_true rfl) ?_
  intro g w1 h1
  have h1 : Alloc w g (.cells ((List.range 8).map fun k => Value.string (tx (verbL k))).toArray 9 (0, 0)) w1 := h1
  exact ⟨g, rfl, h1.here, h1.ext⟩
def valuesL (x : Entry) : List Int :=
  if x.kind = 1 ∨ x.kind = 2 then [x.a, x.n]
  else if x.kind = 3 then [x.w.id, x.w.signer, x.w.giver, x.w.taker, x.w.under, x.w.over, x.w.since, x.w.til]
  else if x.kind = 4 then [x.w.id]
  else if x.kind = 5 then [x.g.id, x.g.frm, x.g.to, x.g.cur, x.g.n, x.g.returns]
  else [x.g.id]
set_option maxRecDepth 100000 in
theorem values_spec (x : Entry) (hx : x.Nums) (w : World) : CallsV C.P 110 #[x.val] w fun v w' => (∃ g c, v = .slice (some ⟨g, 0, none⟩) (valuesL x).length c ∧ Reads w' (some ⟨g, 0, none⟩) (ints (valuesL x))) ∧ Ext w w' := by
  have hc := hx.g.cur
  refine callsV_of C_ok (args := [_]) (plans := plans110) Tryz.func110 rfl Tryz.ntmps110 (by kernel_rfl) (Nat.le_of_ble_eq_true rfl) ?_
  intro g1 w1 h1
  have M1 : Mem w w1 [(g1, .cells x.cells.toArray 39 (0, 0))] := (Mem.start w).alloc h1
  refine ⟨fun q => q = g1, ?_⟩
  refine ⟨x.w.cells, rfl, (M1.rd 0 rfl).part x.w_part, ?_⟩
  refine ⟨x.g.val, fun u hu => ⟨x.g.cells, rfl, hu.rd (D := fun q => q = g1) rfl ((M1.rd 0 rfl).part x.g_part), rfl⟩, ?_⟩
  refine ⟨?A, ?B⟩
  case' A =>
    intro g3 w2 h2
    refine ⟨h2.ext, ?_⟩
    have M2 := M1.alloc h2
    intro g4 w3 h3
    refine ⟨h3.ext, ?_⟩
    have M3 := M2.alloc h3
    have n31 : g3 ≠ g1 := by have := M2.nodup; simp at this; exact this
    refine ⟨rfl, _, _, M3.get 1 rfl, Nat.le_of_ble_eq_true rfl, rfl, ?_⟩
    intro w4 h4
    have M4 := M3.put 1 rfl h4
    refine ⟨(keep_ext (h2.ext.trans h3.ext)).put h4 n31, ?_⟩
    refine ⟨rfl, _, _, M4.get 0 rfl, Nat.le_of_ble_eq_true rfl, rfl, ?_⟩
    intro w5 h5
    have M5 : Mem w w5 [(g4, .cells x.g.cells.toArray 37 (0, 0)), (g3, .cells x.w.cells.toArray 35 (0, 0)), (g1, .cells x.cells.toArray 39 (0, 0))] := M4.put 0 rfl h5
    have hG := M5.get 0 rfl
    have hW := M5.get 1 rfl
    have hE := M5.get 2 rfl
    have ez := M5.ext
    clear M5 h5 M4 h4 M3 h3 M2 h2
  case' B =>
    intro g4 w2 h2
    refine ⟨h2.ext, ?_⟩
    have M2 := M1.alloc h2
    intro g3 w3 h3
    refine ⟨h3.ext, ?_⟩
    have M3 := M2.alloc h3
    have n31 : g3 ≠ g1 := by have := M3.nodup; simp at this; exact this.1.2
    refine ⟨rfl, _, _, M3.get 0 rfl, Nat.le_of_ble_eq_true rfl, rfl, ?_⟩
    intro w4 h4
    have M4 := M3.put 0 rfl h4
    refine ⟨(keep_ext (h2.ext.trans h3.ext)).put h4 n31, ?_⟩
    refine ⟨rfl, _, _, M4.get 1 rfl, Nat.le_of_ble_eq_true rfl, rfl, ?_⟩
    intro w5 h5
    have M5 : Mem w w5 [(g3, .cells x.w.cells.toArray 35 (0, 0)), (g4, .cells x.g.cells.toArray 37 (0, 0)), (g1, .cells x.cells.toArray 39 (0, 0))] := M4.put 1 rfl h5
    have hG := M5.get 1 rfl
    have hW := M5.get 0 rfl
    have hE := M5.get 2 rfl
    have ez := M5.ext
    clear M5 h5 M4 h4 M3 h3 M2 h2
  all_goals
    refine ⟨_, cell_of_block hE rfl, ?_⟩
    refine brE_dec (fun k1 => ?_) (fun k1 => ?_)
    · have hv : valuesL x = [x.a, x.n] := if_pos (.inl k1)
      refine brE_true (decide_eq_true k1) ?_
      refine ⟨_, cell_of_block (i := 21) hE rfl, ?_⟩
      refine ⟨_, cell_of_block (i := 23) hE rfl, ?_⟩
      intro g6 w6 h6
      rw [hv]
      exact ⟨⟨g6, 2, rfl, reads_block h6.here⟩, ez.trans h6.ext⟩
    have k1 : ¬ x.kind = 1 := k1
    refine brE_dec (fun k2 => ?_) (fun k2 => ?_)
    · have hv : valuesL x = [x.a, x.n] := if_pos (.inr k2)
      refine ⟨_, cell_of_block (i := 21) hE rfl, ?_⟩
      refine ⟨_, cell_of_block (i := 23) hE rfl, ?_⟩
      intro g6 w6 h6
      rw [hv]
      exact ⟨⟨g6, 2, rfl, reads_block h6.here⟩, ez.trans h6.ext⟩
    have k2 : ¬ x.kind = 2 := k2
    have k12 : ¬ (x.kind = 1 ∨ x.kind = 2) := fun h => h.elim k1 k2
    refine brE_dec (fun k3 => ?_) (fun k3 => ?_)
    · have k3 : x.kind = 3 := k3
      have hv : valuesL x = [x.w.id, x.w.signer, x.w.giver, x.w.taker, x.w.under, x.w.over, x.w.since, x.w.til] := by unfold valuesL; rw [if_neg k12, if_pos k3]
      refine ⟨_, cell_of_block (i := 0) hW rfl, ?_⟩
      refine ⟨_, cell_of_block (i := 2) hW rfl, ?_⟩
      refine ⟨_, cell_of_block (i := 3) hW rfl, ?_⟩
      refine ⟨_, cell_of_block (i := 4) hW rfl, ?_⟩
      refine ⟨_, cell_of_block (i := 5) hW rfl, ?_⟩
      refine ⟨_, cell_of_block (i := 6) hW rfl, ?_⟩
      refine ⟨_, cell_of_block (i := 7) hW rfl, ?_⟩
      refine ⟨_, cell_of_block (i := 8) hW rfl, ?_⟩
      intro g6 w6 h6
      rw [hv]
      exact ⟨⟨g6, 8, rfl, reads_block h6.here⟩, ez.trans h6.ext⟩
    have k3 : ¬ x.kind = 3 := k3
    refine brE_dec (fun k4 => ?_) (fun k4 => ?_)
    · have k4 : x.kind = 4 := k4
      have hv : valuesL x = [x.w.id] := by unfold valuesL; rw [if_neg k12, if_neg k3, if_pos k4]
      refine ⟨_, cell_of_block (i := 0) hW rfl, ?_⟩
      intro g6 w6 h6
      rw [hv]
      exact ⟨⟨g6, 1, rfl, reads_block h6.here⟩, ez.trans h6.ext⟩
    have k4 : ¬ x.kind = 4 := k4
    refine brE_dec (fun k5 => ?_) (fun k5 => ?_)
    · have k5 : x.kind = 5 := k5
      have hv : valuesL x = [x.g.id, x.g.frm, x.g.to, x.g.cur, x.g.n, x.g.returns] := by unfold valuesL; rw [if_neg k12, if_neg k3, if_neg k4, if_pos k5]
      refine ⟨_, cell_of_block (i := 0) hG rfl, ?_⟩
      refine ⟨_, cell_of_block (i := 2) hG rfl, ?_⟩
      refine ⟨_, cell_of_block (i := 3) hG rfl, ?_⟩
      refine ⟨_, cell_of_block (i := 4) hG rfl, ?_⟩
      refine ⟨x.g.cur, fit ⟨by omega, by omega⟩, ?_⟩
      refine ⟨_, cell_of_block (i := 5) hG rfl, ?_⟩
      refine ⟨_, cell_of_block (i := 9) hG rfl, ?_⟩
      intro g6 w6 h6
      rw [hv]
      exact ⟨⟨g6, 6, rfl, reads_block h6.here⟩, ez.trans h6.ext⟩
    have k5 : ¬ x.kind = 5 := k5
    have hv : valuesL x = [x.g.id] := by unfold valuesL; rw [if_neg k12, if_neg k3, if_neg k4, if_neg k5]
    refine ⟨_, cell_of_block (i := 0) hG rfl, ?_⟩
    intro g6 w6 h6
    rw [hv]
    exact ⟨⟨g6, 1, rfl, reads_block h6.here⟩, ez.trans h6.ext⟩
theorem values_nums {x : Entry} (hx : x.Nums) : ∀ n ∈ valuesL x, In64 n := by
  have hc := hx.g.cur
  have hc2 : In64 x.g.cur := ⟨by omega, by omega⟩
  intro n hn
  unfold valuesL at hn
  split at hn
  · simp at hn; rcases hn with rfl | rfl
    · exact hx.a
    · exact hx.n
  split at hn
  · simp at hn; rcases hn with rfl | rfl | rfl | rfl | rfl | rfl | rfl | rfl
    · exact hx.w.id
    · exact hx.w.signer
    · exact hx.w.giver
    · exact hx.w.taker
    · exact hx.w.under
    · exact hx.w.over
    · exact hx.w.since
    · exact hx.w.til
  split at hn
  · simp at hn; rw [hn]; exact hx.w.id
  split at hn
  · simp at hn; rcases hn with rfl | rfl | rfl | rfl | rfl | rfl
    · exact hx.g.id
    · exact hx.g.frm
    · exact hx.g.to
    · exact hc2
    · exact hx.g.n
    · exact hx.g.returns
  · simp at hn; rw [hn]; exact hx.g.id
theorem values_len (x : Entry) : (valuesL x).length ≤ 8 := by
  unfold valuesL
  split
  · simp
  split
  · simp
  split
  · simp
  split <;> simp
def numL (n : Int) : List UInt8 := 32 :: Lib.itoa n
def headL (x : Entry) : List UInt8 := Lib.itoa x.day ++ [32] ++ verbL x.kind.toNat
def entryL (x : Entry) : List UInt8 := headL x ++ (valuesL x).flatMap numL
theorem nums_len : ∀ (l : List Int), (∀ n ∈ l, In64 n) → (l.flatMap numL).length ≤ l.length * 22
  | [], _ => by simp
  | n :: r, h => by
    have h1 := h n (by simp)
    have := Lib.itoa_length_le n h1.1 h1.2
    have := nums_len r fun m hm => h m (by simp [hm])
    have hl : (numL n).length = (Lib.itoa n).length + 1 := rfl
    rw [List.flatMap_cons, List.length_append, List.length_cons, Nat.add_mul, hl]
    omega
set_option maxRecDepth 100000 in
theorem Write6_spec (x : Entry) (hx : x.Nums) (w : World) (T : TabP w) :
    CallsV C.P 60 #[x.val] w fun v w' => v = .tuple #[.string (tx (if formX x = true then entryL x else [])), .int .i64 (if formX x = true then 0 else 1)] ∧ Ext w w' := by
  refine callsV_of C_ok (args := [_]) (plans := plans60) Tryz.func60 rfl Tryz.ntmps60 (by kernel_rfl) (Nat.le_of_ble_eq_true rfl) ?_
  intro g1 w1 h1
  have M1 : Mem w w1 [(g1, .cells x.cells.toArray 39 (0, 0))] := (Mem.start w).alloc h1
  refine ⟨x.cells, rfl, M1.rd 0 rfl, ?_⟩
  refine (formed_spec x hx w1).mono ?_
  rintro v w2 ⟨rfl, e2⟩
  have M2 := M1.grow e2
  refine brE_mk (fun c1 => ?_) (fun c1 => ?_)
  · have c1 : formX x = false := by simpa using c1
    rw [if_neg (by rw [c1]; decide), if_neg (by rw [c1]; decide)]
    exact ⟨rfl, M2.ext⟩
  have c1 : formX x = true := by simpa using c1
  rw [if_pos c1, if_pos c1]
  have hkind := ok_kind (form_okE c1).1
  have hday := Lib.itoa_length_le x.day hx.day.1 hx.day.2
  have hvl := verbL_len x.kind.toNat
  refine ⟨_, M2.cell 0 rfl rfl, ?_⟩
  refine ⟨_, M2.cell 0 rfl rfl, ?_⟩
  refine (Itoa6_spec x.day hx.day w2 (tabP_ext T M2.ext)).mono ?_
  rintro v w3 ⟨rfl, e3⟩
  refine ⟨e3, ?_⟩
  refine ⟨_, addTx (Lib.itoa x.day) [32] (by simp; omega), ⟨by decide, by decide⟩, ?_⟩
  refine (verbs_spec w3).mono ?_
  rintro v w4 ⟨g4, rfl, hg4, e4⟩
  refine ⟨e4, ?_⟩
  have hk8 : x.kind.toNat < 8 := by omega
  refine ⟨x.kind.toNat, g4, 0, by omega, hk8, rfl, ?_⟩
  refine ⟨.string (tx (verbL x.kind.toNat)), by
    show w4.cell? ⟨g4, 0 + x.kind.toNat * 1, none⟩ = _
    rw [Nat.zero_add, Nat.mul_one]
    refine cell_of_block hg4 ?_
    simp [hk8], ?_⟩
  refine ⟨_, addTx (Lib.itoa x.day ++ [32]) (verbL x.kind.toNat) (by simp; omega), ⟨by decide, by decide⟩, ?_⟩
  have M4 := (M2.grow e3).grow e4
  refine ⟨x.cells, rfl, M4.rd 0 rfl, ?_⟩
  refine (values_spec x hx w4).mono ?_
  rintro v w5 ⟨⟨g5, c5, rfl, hr5⟩, e5⟩
  have M5 := M4.grow e5
  have hnums := values_nums hx
  have hlen := values_len x
  have hhl : (headL x).length ≤ 30 := by unfold headL; simp; omega
  have hfin : entryL x = headL x ++ (valuesL x).flatMap numL := rfl
  generalize valuesL x = vs at *
  refine loopE C_ok (fun (p : Nat × List UInt8) => [(4, .string (tx p.2)), (21, .slice (some ⟨g5, 0, none⟩) vs.length c5), (22, .int .i64 vs.length), (23, .int .i64 (p.1 : Nat))])
    (fun p w' => p.1 ≤ vs.length ∧ p.2 = headL x ++ (vs.take p.1).flatMap numL ∧ Ext w5 w') (fun p => vs.length - p.1) (0, headL x) ⟨rfl, rfl, rfl, rfl, trivial⟩ ⟨Nat.zero_le _, by simp, Ext.refl _⟩ ?_
  rintro ⟨i, s⟩ w6 ⟨hi', hs', e6⟩
  have hi : i ≤ vs.length := hi'
  have hs : s = headL x ++ (vs.take i).flatMap numL := hs'
  clear hi' hs'
  refine brE_dec (fun hlt => ?_) (fun hge => ?_)
  · have hlt : i < vs.length := by have : (i : Int) < (vs.length : Nat) := hlt; omega
    obtain ⟨b, o, hA, hc⟩ := Reads.int (hr5.ext e6) hlt
    cases hA
    have h64 := hnums vs[i] (List.getElem_mem hlt)
    have hl1 := Lib.itoa_length_le vs[i] h64.1 h64.2
    have hl2 := nums_len (vs.take i) fun n hn => hnums n (List.mem_of_mem_take hn)
    rw [List.length_take] at hl2
    have hsl : s.length ≤ 400 := by rw [hs, List.length_append]; omega
    refine ⟨i, g5, 0, rfl, hlt, rfl, ?_⟩
    refine ⟨.int .i64 vs[i], by simpa using hc, ?_⟩
    refine (Itoa6_spec vs[i] h64 w6 (tabP_ext T (M5.ext.trans e6))).mono ?_
    rintro v w7 ⟨rfl, e7⟩
    refine ⟨_, addTx [32] (Lib.itoa vs[i]) (by simp; omega), ⟨by decide, by decide⟩, ?_⟩
    refine ⟨_, addTx s ([32] ++ Lib.itoa vs[i]) (by simp; omega), ⟨by decide, by decide⟩, ?_⟩
    refine ⟨((i + 1 : Nat) : Int), fit ⟨by omega, by omega⟩, ?_⟩
    refine ⟨(i + 1, s ++ ([32] ++ Lib.itoa vs[i])), ⟨rfl, rfl, rfl, rfl, trivial⟩, ⟨hlt, ?_, e6.trans e7⟩, by show vs.length - (i + 1) < vs.length - i; omega⟩
    show s ++ ([32] ++ Lib.itoa vs[i]) = _
    rw [List.take_succ_eq_append_getElem hlt, List.flatMap_append, hs]
    simp [numL]
  · have hi : i = vs.length := by have : ¬ (i : Int) < (vs.length : Nat) := hge; omega
    rw [hi, List.take_length] at hs
    rw [hfin, ← hs]
    exact ⟨rfl, M5.ext.trans e6⟩
end Go.Proofs.YtcnbpfecgokhiaaGreatDoor
namespace Go.Proofs.YtcnbpfecgokhiaaGreatDoor
open Go.Eng Go.RowKit
open Go.Maps (Keyed)
theorem Guest.len (x : Guest) : x.cells.length = 2 := rfl
def rowTo (ws : List Waiv) (g : List Guest) (a j : Nat) : List IPair := (List.range j).flatMap fun b => if ws.any (fun w => coversB w (g.getD a guestZ) (g.getD b guestZ)) = true then [⟨(a : Int), (b : Int)⟩] else []
def pairsTo (ws : List Waiv) (g : List Guest) (i : Nat) : List IPair := (List.range i).flatMap fun a => rowPairs ws g a
theorem rowTo_succ (ws : List Waiv) (g : List Guest) (a j : Nat) : rowTo ws g a (j + 1) = rowTo ws g a j ++ if ws.any (fun w => coversB w (g.getD a guestZ) (g.getD j guestZ)) = true then [⟨(a : Int), (j : Int)⟩] else [] := by
  unfold rowTo; rw [List.range_succ, List.flatMap_append, List.flatMap_singleton]
theorem pairsTo_succ (ws : List Waiv) (g : List Guest) (i : Nat) : pairsTo ws g (i + 1) = pairsTo ws g i ++ rowTo ws g i g.length := by
  unfold pairsTo; rw [List.range_succ, List.flatMap_append, List.flatMap_singleton]; rfl
theorem rowTo_len (ws : List Waiv) (g : List Guest) (a : Nat) : ∀ j, (rowTo ws g a j).length ≤ j
  | 0 => Nat.le_refl _
  | j + 1 => by
    rw [rowTo_succ, List.length_append]
    have := rowTo_len ws g a j
    split <;> simp <;> omega
theorem pairsTo_len (ws : List Waiv) (g : List Guest) : ∀ i, (pairsTo ws g i).length ≤ i * g.length
  | 0 => by simp [pairsTo]
  | i + 1 => by
    rw [pairsTo_succ, List.length_append, Nat.add_mul, Nat.one_mul]
    have := pairsTo_len ws g i
    have := rowTo_len ws g i g.length
    omega
theorem coverAt_spec {w : World} {A : Option Addr} {g : List Guest} {c : Nat} {g4 g9 g10 t4 t9 t10 a b : Nat} (hg : HL Guest.cells w A g c) (h4 : w.heap[g4]? = some (.cells #[.slice A g.length c] t4 (0, 0)))
    (h9 : w.heap[g9]? = some (.cells #[.int .i64 (a : Nat)] t9 (0, 0))) (h10 : w.heap[g10]? = some (.cells #[.int .i64 (b : Nat)] t10 (0, 0))) (ha : a < g.length) (hb : b < g.length) (x : Waiv) :
    CallsV C.P 85 (#[] ++ [x.val].toArray ++ #[.pointer (some ⟨g4, 0, none⟩), .pointer (some ⟨g9, 0, none⟩), .pointer (some ⟨g10, 0, none⟩)]) w fun v w' => v = .bool (coversB x (g.getD a guestZ) (g.getD b guestZ)) ∧ Ext w w' := by
  have ea : g.getD a guestZ = g[a] := by rw [List.getD_eq_getElem?_getD, List.getElem?_eq_getElem ha]; rfl
  have eb : g.getD b guestZ = g[b] := by rw [List.getD_eq_getElem?_getD, List.getElem?_eq_getElem hb]; rfl
  rw [ea, eb]
  refine callsV_of C_ok (args := [_, _, _, _]) (plans := plans85) Tryz.func85 rfl Tryz.ntmps85 (by kernel_rfl) (Nat.le_of_ble_eq_true rfl) ?_
  intro g2 w1 h1
  have M1 : Mem w w1 [(g2, .cells x.cells.toArray 35 (0, 0))] := (Mem.start w).alloc h1
  obtain ⟨b1, o1, hA1, hr1⟩ := (hg.ext M1.ext).at Guest.len (by omega) ha
  obtain ⟨b2, o2, hA2, hr2⟩ := (hg.ext M1.ext).at Guest.len (by omega) hb
  have e4 := M1.ext.heap h4
  refine ⟨x.cells, rfl, M1.rd 0 rfl, ?_⟩
  refine ⟨.slice A g.length c, cell_of_block e4 rfl, ?_⟩
  refine ⟨.int .i64 (a : Nat), cell_of_block (M1.ext.heap h9) rfl, ?_⟩
  refine ⟨a, b1, o1, rfl, ha, hA1, ?_⟩
  refine ⟨g[a].cells, rfl, hr1, ?_⟩
  refine ⟨.slice A g.length c, cell_of_block e4 rfl, ?_⟩
  refine ⟨.int .i64 (b : Nat), cell_of_block (M1.ext.heap h10) rfl, ?_⟩
  refine ⟨b, b2, o2, rfl, hb, hA2, ?_⟩
  refine ⟨g[b].cells, rfl, hr2, ?_⟩
  exact (covers_spec x g[a] g[b] w1).mono fun v w' hv => ⟨hv.1, M1.ext.trans hv.2⟩
theorem only_trans {t0 : Nat} {a b c : World} (h : Only t0 a b) (k : Only t0 b c) : Only t0 a c := fun q cs t fr hq hne => k q cs t fr (h q cs t fr hq hne) hne
theorem newL_only {α : Type} {enc : α → List Value} {T k B t0 n c : Nat} {A : Option Addr} {w w' : World} {l : List α} (h : NewL enc T k B w (.slice A n c) l) (o : Only t0 w w') (hne : T ≠ t0) : Reads w' A (l.flatMap enc) := by
  obtain ⟨A', c', e, hr, _⟩ := reads_of_owns (ownsRow_only h o hne)
  cases e
  exact hr
set_option maxRecDepth 100000 in
theorem Pairs_spec {w : World} {l : LV} {es : List Entry} (h : LedgerIs w l es) (hl : es.length ≤ 2 ^ 16) {A : Option Addr} {g : List Guest} {c : Nat} (hg : HL Guest.cells w A g c) (day : Int) :
    CallsV C.P 32 #[l.ptr, .slice A g.length c, .int .i64 day] w fun v w' => NewL IPair.cells 67 2 w.heap.size w' v (pairsAt es g day) ∧ Ext w w' := by
  have hwl := waiversAt_length es day
  have hcap := hg.cap
  refine callsV_of C_ok (args := [_, _, _]) (plans := []) Tryz.func32 rfl Tryz.ntmps32 (by kernel_rfl) (Nat.le_of_ble_eq_true rfl) ?_
  intro g4 w1 h1
  have M1 : Mem w w1 [(g4, .cells #[.slice A g.length c] 61 (0, 0))] := (Mem.start w).alloc h1
  refine ⟨_, M1.cell 0 rfl rfl, ?_⟩
  refine brE_dec (fun b1 => ?_) (fun b1 => ?_)
  · have b1 : (g.length : Int) > 24 := b1
    have e : pairsAt es g day = [] := if_pos (by omega)
    rw [e]
    exact ⟨newL_nil, M1.ext⟩
  have b1 : ¬ (g.length : Int) > 24 := b1
  have hgl : g.length ≤ 24 := by omega
  have e : pairsAt es g day = pairsTo (waiversAt es day) g g.length := if_neg (by omega)
  rw [e]
  refine (Waivers_spec (h.ext M1.ext) hl day).mono ?_
  rintro v w2 ⟨h2, e2⟩
  obtain ⟨A2, c2, rfl, hr2⟩ := h2.hl
  have M2 := M1.grow e2
  generalize waiversAt es day = ws at *
  refine ⟨_, M2.cell 0 rfl rfl, ?_⟩
  refine loopE C_ok (fun (p : Nat × Value) => [(4, .pointer (some ⟨g4, 0, none⟩)), (7, .slice A2 ws.length c2), (8, p.2), (18, .int .i64 g.length), (19, .int .i64 p.1)])
    (fun p w' => p.1 ≤ g.length ∧ NewL IPair.cells 67 2 w.heap.size w' p.2 (pairsTo ws g p.1) ∧ Ext w w' ∧ Only 67 w2 w') (fun p => g.length - p.1) (0, .slice none 0 0) ⟨rfl, rfl, rfl, rfl, rfl, trivial⟩
    ⟨Nat.zero_le _, newL_nil, M2.ext, only_ext _ (Ext.refl _)⟩ ?_
  rintro ⟨i, v⟩ w3 ⟨hi', ho', e3, o23⟩
  have hi : i ≤ g.length := hi'
  have ho : NewL IPair.cells 67 2 w.heap.size w3 v (pairsTo ws g i) := ho'
  clear hi' ho'
  refine brE_dec (fun hlt => ?_) (fun hge => ?_)
  · have hlt : i < g.length := by have : (i : Int) < (g.length : Nat) := hlt; omega
    intro g9 w4 h4
    refine ⟨rfl, _, _, h4.here, Nat.le_of_ble_eq_true rfl, rfl, ?_⟩
    intro w5 h5
    have h5 : Put w4 g9 (.cells #[.int .i64 (i : Nat)] 3 (0, 0)) w5 := h5
    have e35 : Ext w3 w5 := h5.ext_of h4.ext (by rw [h4.new]; exact Nat.le_refl _)
    have o25 := only_trans o23 (only_ext _ e35)
    refine ⟨_, cell_of_block (o25 _ _ _ _ (M2.get 0 rfl) (by decide)) rfl, ?_⟩
    have plen := pairsTo_len ws g i
    have pl : (pairsTo ws g i).length ≤ 24 * 24 := Nat.le_trans plen (Nat.mul_le_mul (by omega) hgl)
    refine loopE C_ok (fun (p : Nat × Value) => [(4, .pointer (some ⟨g4, 0, none⟩)), (7, .slice A2 ws.length c2), (8, p.2), (9, .pointer (some ⟨g9, 0, none⟩)), (18, .int .i64 g.length), (19, .int .i64 i), (23, .int .i64 g.length), (24, .int .i64 p.1)])
      (fun p w' => p.1 ≤ g.length ∧ NewL IPair.cells 67 2 w.heap.size w' p.2 (pairsTo ws g i ++ rowTo ws g i p.1) ∧ Ext w w' ∧ Only 67 w5 w') (fun p => g.length - p.1) (0, v) ⟨rfl, rfl, rfl, rfl, rfl, rfl, rfl, rfl, trivial⟩
      ⟨Nat.zero_le _, by show NewL _ _ _ _ _ _ (pairsTo ws g i ++ []); rw [List.append_nil]; exact ho.ext e35, e3.trans e35, only_ext _ (Ext.refl _)⟩ ?_
    rintro ⟨j, u⟩ w6 ⟨hj', ho', e6, o56⟩
    have hj : j ≤ g.length := hj'
    have ho6 : NewL IPair.cells 67 2 w.heap.size w6 u (pairsTo ws g i ++ rowTo ws g i j) := ho'
    clear hj' ho'
    refine brE_dec (fun hlt2 => ?_) (fun hge2 => ?_)
    · have hlt2 : j < g.length := by have : (j : Int) < (g.length : Nat) := hlt2; omega
      intro g10 w7 h7
      refine ⟨rfl, _, _, h7.here, Nat.le_of_ble_eq_true rfl, rfl, ?_⟩
      intro w8 h8
      have h8 : Put w7 g10 (.cells #[.int .i64 (j : Nat)] 3 (0, 0)) w8 := h8
      have e68 : Ext w6 w8 := h8.ext_of h7.ext (by rw [h7.new]; exact Nat.le_refl _)
      have o58 := only_trans o56 (only_ext _ e68)
      have o28 := only_trans o25 o58
      refine ⟨[], [.pointer (some ⟨g4, 0, none⟩), .pointer (some ⟨g9, 0, none⟩), .pointer (some ⟨g10, 0, none⟩)], rfl, rfl, ?_⟩
      refine (ContainsFuncW_spec (newL_only h2 o28 (by decide)) (by omega) rfl (p := fun x => coversB x (g.getD i guestZ) (g.getD j guestZ)) fun x w' e => coverAt_spec (hg.ext ((e6.trans e68).trans e)) (e.heap (o28 _ _ _ _ (M2.get 0 rfl) (by decide))) (e.heap (o58 _ _ _ _ h5.here (by decide))) (e.heap h8.here) hlt hlt2 x).mono ?_
      rintro v w9 ⟨rfl, e89⟩
      have e69 := e68.trans e89
      have rlen := rowTo_len ws g i j
      have next : IntKind.i64.wrap ((j : Int) + 1) = ((j + 1 : Nat) : Int) := fit ⟨by omega, by omega⟩
      refine brE_mk (fun hc => ?_) (fun hc => ?_)
      · refine ⟨.int .i64 (i : Nat), cell_of_block (e89.heap (o58 _ _ _ _ h5.here (by decide))) rfl, ?_⟩
        refine ⟨.int .i64 (j : Nat), cell_of_block (e89.heap h8.here) rfl, ?_⟩
        intro g11 w10 h10
        refine ⟨rfl, rfl, rfl, w.heap.size, _, _, (IPair.mk (i : Nat) (j : Nat)).cells, (ho6.ext e69).ext h10.ext, Nat.le_trans e6.size (Nat.le_trans e69.size h10.ext.size), Nat.le_of_ble_eq_true rfl, rfl, rfl, .inr ⟨g11, 0, rfl, Rd.of_block h10.here⟩, rfl, rfl, by rw [List.length_append]; omega, by rw [List.length_append]; simp only [maxLen]; omega, ?_⟩
        intro v' w11 ho11 hg11 hpl
        refine ⟨_, next, ?_⟩
        have ho10 := (ho6.ext e69).ext h10.ext
        have e10 := (e6.trans e69).trans h10.ext
        refine ⟨(j + 1, v'), ⟨rfl, rfl, rfl, rfl, rfl, rfl, rfl, rfl, trivial⟩, ⟨hlt2, ?_, app_ext e10 ho10 hg11, only_trans o56 (only_trans (only_ext _ (e69.trans h10.ext)) (only_app ho10 hg11))⟩, by show g.length - (j + 1) < g.length - j; omega⟩
        have hcc : ws.any (fun w => coversB w (g.getD i guestZ) (g.getD j guestZ)) = true := hc
        show NewL _ _ _ _ _ _ (pairsTo ws g i ++ rowTo ws g i (j + 1))
        rw [rowTo_succ, hcc, if_pos rfl, ← List.append_assoc]
        generalize pairsTo ws g i ++ rowTo ws g i j = P at ho11 ⊢
        unfold NewL
        rw [List.flatMap_append, List.length_append]
        have : ([⟨(i : Int), (j : Int)⟩] : List IPair).flatMap IPair.cells = (IPair.mk (i : Nat) (j : Nat)).cells := rfl
        rw [this]
        exact ho11
      · refine ⟨_, next, ?_⟩
        refine ⟨(j + 1, u), ⟨rfl, rfl, rfl, rfl, rfl, rfl, rfl, rfl, trivial⟩, ⟨hlt2, ?_, e6.trans e69, only_trans o56 (only_ext _ e69)⟩, by show g.length - (j + 1) < g.length - j; omega⟩
        have hcc : ws.any (fun w => coversB w (g.getD i guestZ) (g.getD j guestZ)) = false := hc
        show NewL _ _ _ _ _ _ (pairsTo ws g i ++ rowTo ws g i (j + 1))
        rw [rowTo_succ, hcc, if_neg (by decide), List.append_nil]
        exact ho6.ext e69
    · have hj : j = g.length := by have : ¬ (j : Int) < (g.length : Nat) := hge2; omega
      refine ⟨((i + 1 : Nat) : Int), fit ⟨by omega, by omega⟩, ?_⟩
      refine ⟨(i + 1, u), ⟨rfl, rfl, rfl, rfl, rfl, trivial⟩, ⟨hlt, ?_, e6, only_trans o25 o56⟩, by show g.length - (i + 1) < g.length - i; omega⟩
      show NewL _ _ _ _ _ _ (pairsTo ws g (i + 1))
      rw [pairsTo_succ, ← hj]
      exact ho6
  · have hi : i = g.length := by have : ¬ (i : Int) < (g.length : Nat) := hge; omega
    rw [hi] at ho
    exact ⟨ho, e3⟩
end Go.Proofs.YtcnbpfecgokhiaaGreatDoor
namespace Go.Proofs.YtcnbpfecgokhiaaGreatDoor
open Go.Eng Go.RowKit
open Go.Maps (Keyed)
theorem debtW_bound {gs : List Gift} (h : GiftsOk gs) (frm to : Int) {x : Gift} (hx : x ∈ gs) : 0 ≤ debtW gs frm to x ∧ debtW gs frm to x ≤ 1000000000000 := by
  obtain ⟨i, hi, rfl⟩ := List.getElem_of_mem hx
  have := h.worth i hi
  have := metL_bounds h gs[i].id
  unfold debtW
  split
  · rw [Int.max_def]; split <;> omega
  · omega
set_option maxRecDepth 100000 in
theorem Debt_spec {w : World} {l : LV} {es : List Entry} (h : LedgerIs w l es) (hl : es.length ≤ 2 ^ 16) (frm to day : Int) :
    CallsV C.P 31 #[l.ptr, .int .i64 frm, .int .i64 to, .int .i64 day] w fun v w' => v = .int .i64 (debtAt es frm to day) ∧ Ext w w' := by
  have hG := (acc_ok (acc_asOf h.acc day)).gifts
  have hgl := hG.len
  refine callsV_of C_ok (args := [_, _, _, _]) (plans := plans31) Tryz.func31 rfl Tryz.ntmps31 (by kernel_rfl) (Nat.le_of_ble_eq_true rfl) ?_
  refine (asOf_spec h hl day).mono ?_
  rintro v w1 ⟨s, rfl, hs⟩
  obtain ⟨A, c, hv, hr, _⟩ := reads_of_owns hs.is.gifts
  unfold debtAt debtL
  have hB := hs.is.block
  obtain ⟨fm, mm, hfm⟩ := hs.is.mets
  have e1 := hs.ext
  generalize hgs : giftL (asOfL es day) = gs at *
  refine ⟨.slice A gs.length c, cell_of_block (i := 4) hB (by show some s.vG = _; rw [hv]), ?_⟩
  refine loopE C_ok (fun (p : Nat × Int) => [(1, .int .i64 frm), (2, .int .i64 to), (9, .pointer (some ⟨s.gs, 0, none⟩)), (10, .int .i64 p.2), (19, .slice A gs.length c), (20, .int .i64 gs.length), (21, .int .i64 p.1)])
    (fun p w' => p.1 ≤ gs.length ∧ p.2 = ((gs.take p.1).map (debtW gs frm to)).sum ∧ Ext w1 w') (fun p => gs.length - p.1) (0, 0) ⟨rfl, rfl, rfl, rfl, rfl, rfl, rfl, trivial⟩
    ⟨Nat.zero_le _, rfl, Ext.refl _⟩ ?_
  rintro ⟨i, n⟩ w2 ⟨hi', hn', e2⟩
  have hi : i ≤ gs.length := hi'
  have hn : n = ((gs.take i).map (debtW gs frm to)).sum := hn'
  clear hi' hn'
  refine brE_dec (fun hlt => ?_) (fun hge => ?_)
  · have hlt : i < gs.length := by have : (i : Int) < (gs.length : Nat) := hlt; omega
    have nb := sum_bounds (debtW gs frm to) 1000000000000 (gs.take i) fun x hx => debtW_bound hG frm to (List.mem_of_mem_take hx)
    rw [← hn, List.length_take] at nb
    have mb := metL_bounds hG gs[i].id
    have wb := hG.worth i hlt
    have hid := hG.ids i hlt
    have hnext : ((gs.take (i + 1)).map (debtW gs frm to)).sum = n + debtW gs frm to gs[i] := by
      rw [List.take_succ_eq_append_getElem hlt, List.map_append, List.sum_append, ← hn]; simp
    have next : IntKind.i64.wrap ((i : Int) + 1) = ((i + 1 : Nat) : Int) := fit ⟨by omega, by omega⟩
    obtain ⟨b, o, hA, hc⟩ := Reads.elem Gift.len (by omega) (hr.ext e2) hlt
    refine ⟨i, b, o, rfl, hlt, hA, ?_⟩
    refine ⟨gs[i].cells, rfl, hc, ?_⟩
    intro g3 w3 h3
    refine ⟨rfl, _, _, h3.here, Nat.le_of_ble_eq_true rfl, rfl, ?_⟩
    intro w4 h4
    have h4 : Put w3 g3 (.cells gs[i].cells.toArray 37 (0, 0)) w4 := h4
    have e24 : Ext w2 w4 := h4.ext_of h3.ext (by rw [h3.new]; exact Nat.le_refl _)
    refine ⟨gs[i].cells, rfl, Rd.of_block h4.here, ?_⟩
    refine (debt_spec gs[i] w4).mono ?_
    rintro v w5 ⟨rfl, e45⟩
    have e25 := e24.trans e45
    have hg5 := e45.heap h4.here
    have no : debtW gs frm to gs[i] = 0 → IntKind.i64.wrap ((i : Int) + 1) = ((i + 1 : Nat) : Int) ∧ n = ((gs.take (i + 1)).map (debtW gs frm to)).sum := fun e => ⟨next, by rw [hnext, e, Int.add_zero]⟩
    refine brE_mk (fun c1 => ?_) (fun c1 => ?_)
    · refine ⟨_, cell_of_block (i := 2) hg5 rfl, ?_⟩
      refine brE_dec (fun c2 => ?_) (fun c2 => ?_)
      · have c2 : gs[i].frm = to := c2
        refine ⟨_, cell_of_block (i := 3) hg5 rfl, ?_⟩
        refine brE_dec (fun c3 => ?_) (fun c3 => ?_)
        · have c3 : gs[i].to = frm := c3
          have hw : debtW gs frm to gs[i] = max 0 (gs[i].worth - metL gs gs[i].id) := by unfold debtW; rw [if_pos ⟨c1, c2, c3⟩]
          refine ⟨_, cell_of_block (i := 6) hg5 rfl, ?_⟩
          refine ⟨_, cell_of_block (i := 5) ((e2.trans e25).heap hB) rfl, ?_⟩
          refine ⟨_, cell_of_block (i := 0) hg5 rfl, ?_⟩
          refine ⟨.int .i64 (metL gs gs[i].id), mapGet1 C_ok (te := ty3) (x := .int .i64 gs[i].id) (intKey ⟨by omega, by omega⟩) (mm.ext (e2.trans e25)) intK rfl rfl rfl rfl rfl rfl (by rw [hfm _ (by omega)]; exact numV_getD _), ?_⟩
          refine ⟨gs[i].worth - metL gs gs[i].id, fit ⟨by omega, by omega⟩, ?_⟩
          refine ⟨_, maxQ rfl rfl rfl rfl, ?_⟩
          rw [← hw]
          have wb2 := debtW_bound hG frm to (List.getElem_mem hlt)
          refine ⟨n + debtW gs frm to gs[i], fit ⟨by omega, by omega⟩, ?_⟩
          refine ⟨_, next, ?_⟩
          exact ⟨(i + 1, n + debtW gs frm to gs[i]), ⟨rfl, rfl, rfl, rfl, rfl, rfl, rfl, trivial⟩, ⟨hlt, hnext.symm, e2.trans e25⟩, by show gs.length - (i + 1) < gs.length - i; omega⟩
        · have c3 : ¬ gs[i].to = frm := c3
          have hz := no (by unfold debtW; rw [if_neg (fun e => c3 e.2.2)])
          refine ⟨_, hz.1, ?_⟩
          exact ⟨(i + 1, n), ⟨rfl, rfl, rfl, rfl, rfl, rfl, rfl, trivial⟩, ⟨hlt, hz.2, e2.trans e25⟩, by show gs.length - (i + 1) < gs.length - i; omega⟩
      · have c2 : ¬ gs[i].frm = to := c2
        have hz := no (by unfold debtW; rw [if_neg (fun e => c2 e.2.1)])
        refine ⟨_, hz.1, ?_⟩
        exact ⟨(i + 1, n), ⟨rfl, rfl, rfl, rfl, rfl, rfl, rfl, trivial⟩, ⟨hlt, hz.2, e2.trans e25⟩, by show gs.length - (i + 1) < gs.length - i; omega⟩
    · have hz := no (by unfold debtW; rw [if_neg (fun e => by rw [c1] at e; exact absurd e.1 (by decide))])
      refine ⟨_, hz.1, ?_⟩
      exact ⟨(i + 1, n), ⟨rfl, rfl, rfl, rfl, rfl, rfl, rfl, trivial⟩, ⟨hlt, hz.2, e2.trans e25⟩, by show gs.length - (i + 1) < gs.length - i; omega⟩
  · have hi : i = gs.length := by have : ¬ (i : Int) < (gs.length : Nat) := hge; omega
    rw [hi, List.take_length] at hn
    exact ⟨congrArg _ hn, e1.trans e2⟩
theorem Owes_spec {w : World} {l : LV} {es : List Entry} (h : LedgerIs w l es) (hl : es.length ≤ 2 ^ 16) {debt cred : Int} (hd : In64 debt) (hc : In64 cred) (day : Int) :
    CallsV C.P 37 #[l.ptr, .int .i64 debt, .int .i64 cred, .int .i64 day] w fun v w' => v = .tuple #[(owesAt es debt cred day).1.val, .bool (owesAt es debt cred day).2] ∧ Ext w w' := by
  refine callsV_of C_ok (args := [_, _, _, _]) (plans := []) Tryz.func37 rfl Tryz.ntmps37 (by kernel_rfl) (Nat.le_of_ble_eq_true rfl) ?_
  intro g8 w1 h1
  have M1 := (Mem.start w).alloc h1
  refine (asOf_spec (h.ext M1.ext) hl day).mono ?_
  rintro v w2 ⟨s, rfl, hs⟩
  have M2 := M1.grow hs.ext
  refine ⟨_, cell_of_block (i := 3) hs.is.block rfl, ?_⟩
  cases hf : owesL (dueL (asOfL es day)) cred debt with
  | some x =>
    obtain ⟨hx, hx1, hx2⟩ := owes_find hf
    have ho : owesAt es debt cred day = (x, true) := by unfold owesAt; rw [hf]
    refine ⟨.tuple #[.int .i64 x.waiver, .bool true], mapLGet C_ok (te := ty3) (x := sidesV cred debt) (sidesKey hc hd) hs.is.dues sidesK rfl rfl rfl rfl rfl rfl (.inl ⟨rfl, dueP_mem.2 ⟨x, hx, hx1, hx2, rfl⟩⟩), ?_⟩
    refine ⟨rfl, _, _, M2.get 0 rfl, Nat.le_of_ble_eq_true rfl, rfl, ?_⟩
    intro w3 h3
    have ex : x = ⟨cred, debt, x.waiver⟩ := by rw [← hx1, ← hx2]
    have M3 : Mem w w3 [(g8, .cells (Due.mk cred debt x.waiver).cells.toArray 74 (0, 0))] := M2.put 0 rfl h3
    refine ⟨(Due.mk cred debt x.waiver).cells, rfl, M3.rd 0 rfl, ?_⟩
    rw [ho]
    exact ⟨by rw [ex]; rfl, M3.ext⟩
  | none =>
    have hno := owes_none hf
    have ho : owesAt es debt cred day = (dueZ, false) := by unfold owesAt; rw [hf]
    refine ⟨.tuple #[.int .i64 0, .bool false], mapLGet C_ok (te := ty3) (x := sidesV cred debt) (sidesKey hc hd) hs.is.dues sidesK rfl rfl rfl rfl rfl rfl (.inr ⟨rfl, rfl, fun u hu => by
      obtain ⟨d, hd1, hd2, hd3, _⟩ := dueP_mem.1 hu
      exact hno d hd1 ⟨hd2, hd3⟩⟩), ?_⟩
    refine ⟨rfl, _, _, M2.get 0 rfl, Nat.le_of_ble_eq_true rfl, rfl, ?_⟩
    intro w3 h3
    have M3 : Mem w w3 [(g8, .cells dueZ.cells.toArray 74 (0, 0))] := M2.put 0 rfl h3
    refine ⟨dueZ.cells, rfl, M3.rd 0 rfl, ?_⟩
    rw [ho]
    exact ⟨rfl, M3.ext⟩
end Go.Proofs.YtcnbpfecgokhiaaGreatDoor
namespace Go.Proofs.YtcnbpfecgokhiaaGreatDoor
open Go.Eng Go.RowKit
def offL : List Fact := [⟨1, 0, 1, 1, 0, 1, 0, 0, ⟨#[97, 118, 105, 97]⟩⟩, ⟨2, 0, 1, 2, 0, 1, 0, 0, ⟨#[98, 111, 114, 100, 117, 114, 105, 97]⟩⟩, ⟨3, 0, 2, 11, 1, 1, 0, 0, ⟨#[]⟩⟩, ⟨4, 0, 2, 21, 2, 1, 0, 0, ⟨#[]⟩⟩]
def gw1 : Waiv := ⟨0, 3, 11, 1, 2, 0, 0, 5, 9⟩
def gw2 : Waiv := ⟨0, 3, 21, 1, 2, 0, 0, 5, 9⟩
def gw3 : Waiv := ⟨0, 4, 21, 2, 1, 0, 11, 6, 7⟩
def gx1 : Entry := ⟨3, 3, { gw1 with id := 1 }, giftZ, 0, 0, 0⟩
def gx2 : Entry := ⟨3, 4, { gw3 with id := 2 }, giftZ, 0, 0, 0⟩
def gx3 : Entry := ⟨1, 8, waivZ, giftZ, 1, 0, 240⟩
def gx4 : Entry := ⟨5, 8, waivZ, ⟨1, 8, 1, 2, 1, 4, 0, 0, 0, 0⟩, 0, 0, 0⟩
def gx5 : Entry := ⟨6, 9, waivZ, { giftZ with id := 1 }, 0, 0, 0⟩
def gr1 : List Entry := [gx1]
def gr2 : List Entry := [gx1, gx2]
def gr3 : List Entry := [gx1, gx2, gx3]
def gr4 : List Entry := [gx1, gx2, gx3, gx4]
def gr5 : List Entry := [gx1, gx2, gx3, gx4, gx5]
theorem d1 : doF offL [] (grantE [] gw1) = 0 := by kernel_rfl
theorem d2 : doF offL gr1 (grantE gr1 gw2) = 60 := by kernel_rfl
theorem d3 : doF offL gr1 (grantE gr1 gw1) = 61 := by kernel_rfl
theorem d4 : doF offL gr1 (grantE gr1 gw3) = 0 := by kernel_rfl
theorem d5 : doF offL gr2 (rateE 8 1 240) = 0 := by kernel_rfl
theorem d6 : doF offL gr3 (offerE gr3 8 1 2 1 4 0) = 0 := by kernel_rfl
theorem d7 : doF offL gr4 (takeE 9 1) = 0 := by kernel_rfl
theorem q1 : duesAt gr1 3 = [⟨1, 2, 1⟩] := by kernel_rfl
theorem q1l : (dueL (asOfL gr1 3)).length = 1 := by kernel_rfl
theorem q2 : pairsAt gr1 [⟨11, 1⟩, ⟨21, 2⟩] 5 = [⟨0, 1⟩] := by kernel_rfl
theorem q3 : duesAt gr5 4 = [] := by kernel_rfl
theorem q3l : (dueL (asOfL gr5 4)).length = 0 := by kernel_rfl
theorem q4 : debtAt gr5 2 1 8 = 0 := by kernel_rfl
theorem q5 : debtAt gr5 2 1 9 = 960 := by kernel_rfl
theorem q6 : overdueAt gr5 374 = [] := by kernel_rfl
theorem q7 : (overdueAt gr5 375).length = 1 := by kernel_rfl
theorem q8 : formX gx1 = true := by kernel_rfl
theorem q9 : entryL gx1 = [51, 32, 103, 114, 97, 110, 116, 32, 49, 32, 49, 49, 32, 49, 32, 50, 32, 48, 32, 48, 32, 53, 32, 57] := by kernel_rfl
theorem in64_small {n : Int} (h : 0 ≤ n ∧ n ≤ 1000) : In64 n := ⟨by omega, by omega⟩
theorem gw1_nums : gw1.Nums := ⟨in64_small (by decide), in64_small (by decide), in64_small (by decide), in64_small (by decide), in64_small (by decide), in64_small (by decide), in64_small (by decide), in64_small (by decide), in64_small (by decide)⟩
theorem gw2_nums : gw2.Nums := ⟨in64_small (by decide), in64_small (by decide), in64_small (by decide), in64_small (by decide), in64_small (by decide), in64_small (by decide), in64_small (by decide), in64_small (by decide), in64_small (by decide)⟩
theorem gw3_nums : gw3.Nums := ⟨in64_small (by decide), in64_small (by decide), in64_small (by decide), in64_small (by decide), in64_small (by decide), in64_small (by decide), in64_small (by decide), in64_small (by decide), in64_small (by decide)⟩
/-- A list that lies apart from a ledger. -/
def ApartL (w : World) (l : LV) (A : Option Addr) : Prop := ∀ b o, A = some ⟨b, o, none⟩ → b < w.heap.size ∧ ¬ l.has b
theorem LdNew.goF {w0 w w' : World} {l : LV} {es es' : List Entry} {A : Option Addr} {f : List Fact} {c : Nat} (h : LdNew w0 w l es) (k : LdGo w l es' w') (hf : HF w A f c) (ha : ApartL w l A) :
    ∃ l', l'.gl = l.gl ∧ LdNew w0 w' l' es' ∧ HF w' A f c ∧ ApartL w' l' A := by
  obtain ⟨l1, hg1, hi1, hk1, hn1⟩ := k
  have hext : Ext w0 w' := ⟨hk1.os.trans h.ext.os, hk1.tape.trans h.ext.tape, hk1.output.trans h.ext.output, Nat.le_trans h.ext.size hk1.size, fun q hq => by
    rw [hk1.block q (fun h1 => by have := h.new q h1; omega) (Nat.lt_of_lt_of_le hq h.ext.size)]
    exact h.ext.block q hq⟩
  refine ⟨l1, hg1, ⟨hi1, fun q hq => ?_, hext⟩, ⟨hf.nums, ?_, hf.len, hf.cap⟩, fun b o hA => ⟨Nat.lt_of_lt_of_le (ha b o hA).1 hk1.size, fun hb => ?_⟩⟩
  · rcases hn1 q hq with h1 | h1
    · exact h.new q h1
    · exact Nat.le_trans h.ext.size h1
  · rcases hf.reads with hr | ⟨b, o, hA, hr⟩
    · exact .inl hr
    · exact .inr ⟨b, o, hA, hk1.rd (D := fun k => ¬ l.has k) (ha b o hA).2 hr⟩
  · rcases hn1 b hb with h1 | h1
    · exact (ha b o hA).2 h1
    · have := (ha b o hA).1; omega
theorem apart_ext {w w' : World} {l : LV} {A : Option Addr} (h : ApartL w l A) (e : Ext w w') : ApartL w' l A := fun b o hA => ⟨Nat.lt_of_lt_of_le (h b o hA).1 e.size, (h b o hA).2⟩
theorem offices_spec (w : World) : CallsV C.P 64 #[] w fun v w' => ∃ g, v = .slice (some ⟨g, 0, none⟩) offL.length 4 ∧ w.heap.size ≤ g ∧ g < w'.heap.size ∧ HF w' (some ⟨g, 0, none⟩) offL 4 ∧ Ext w w' := by
  refine callsV_of C_ok (args := []) (plans := []) Tryz.func64 rfl Tryz.ntmps64 (by kernel_rfl) (Nat.le_of_ble_eq_true rfl) ?_
  intro g w1 h1
  have h1 : Alloc w g (.cells (fcells offL).toArray 81 (0, 0)) w1 := h1
  refine ⟨g, rfl, by rw [h1.new]; exact Nat.le_refl _, lt_of_heap h1.here, ⟨?_, reads_block h1.here, by decide, by decide⟩, h1.ext⟩
  intro x hx
  simp [offL] at hx
  rcases hx with rfl | rfl | rfl | rfl <;> exact ⟨in64_small (by decide), in64_small (by decide), by decide, in64_small (by decide), in64_small (by decide), in64_small (by decide), in64_small (by decide), in64_small (by decide), by decide⟩
theorem G_grant {w : World} {l l0 : LV} {es es' : List Entry} {A : Option Addr} {c : Nat} {x : Waiv} {n0 e0 : Int} (h : LedgerIs w l es) (hg : l.gl = l0.gl) (hl : es.length ≤ 400) (hf : HF w A offL c) (hx : x.Nums) (he : doF offL es (grantE es x) = e0)
    (hn : (if e0 = 0 then (((waivL es).length + 1 : Nat) : Int) else 0) = n0) (hes : addL e0 es (grantE es x) = es') :
    CallsV C.P 33 #[l0.ptr, .slice A offL.length c, x.val] w fun v w' => ∃ n e : Int, v = .tuple #[.int .i64 n, .int .i64 e] ∧ n = n0 ∧ e = e0 ∧ LdGo w l es' w' := by
  have hp : l0.ptr = l.ptr := by unfold LV.ptr; rw [hg]
  rw [hp]
  refine (Grant_spec h hl hf (by decide) hx).mono ?_
  rintro v w' ⟨hv, hgo⟩
  rw [he, hes] at hgo
  exact ⟨_, _, hv, by rw [he]; exact hn, he, hgo⟩
theorem neqD_at (x y : Operand) (p q : Due) (v : Value) (hv : v = q.val) : EqIs C.P .neq 74 x y p.val v (!decide (p = q)) := by rw [hv]; exact neqD x y p q
theorem neqP_at (x y : Operand) (p q : IPair) (v : Value) (hv : v = q.val) : EqIs C.P .neq 67 x y p.val v (!decide (p = q)) := by rw [hv]; exact neqP x y p q
theorem ptr_eq {l l0 : LV} (hg : l.gl = l0.gl) : l.ptr = l0.ptr := by unfold LV.ptr; rw [hg]
set_option maxRecDepth 100000 in
set_option maxHeartbeats 4000000 in
theorem grants_spec (w : World) (T : TabP w) : CallsV C.P 16 #[] w fun v w' => v = .bool true ∧ Ext w w' := by
  refine callsV_of C_ok (args := []) (plans := []) Tryz.func16 rfl Tryz.ntmps16 (by kernel_rfl) (Nat.le_of_ble_eq_true rfl) ?_
  refine (New_spec w).mono ?_
  rintro v w1 ⟨l, rfl, n1⟩
  refine (offices_spec w1).mono ?_
  rintro v w2 ⟨g2, rfl, hg2, hg2', hf2, e2⟩
  have n2 := n1.then e2
  have a2 : ApartL w2 l (some ⟨g2, 0, none⟩) := fun b o hA => by
    cases hA
    exact ⟨hg2', fun hb => by have := n1.is.lt hb; omega⟩
  refine (G_grant n2.is rfl (by decide) hf2 gw1_nums d1 (n0 := 1) rfl (es' := gr1) rfl).mono ?_
  rintro v w3 ⟨rn1, re1, rfl, hrn1, hre1, go3⟩
  obtain ⟨l3, hl3, n3, hf3, a3⟩ := n2.goF go3 hf2 a2
  refine (G_grant n3.is hl3 (by decide) hf3 gw2_nums d2 (n0 := 0) rfl (es' := gr1) rfl).mono ?_
  rintro v w4 ⟨rn2, re2, rfl, hrn2, hre2, go4⟩
  obtain ⟨l4, hl4, n4, hf4, a4⟩ := n3.goF go4 hf3 a3
  have hl4 := hl4.trans hl3
  refine (G_grant n4.is hl4 (by decide) hf4 gw1_nums d3 (n0 := 0) rfl (es' := gr1) rfl).mono ?_
  rintro v w5 ⟨rn3, re3, rfl, hrn3, hre3, go5⟩
  obtain ⟨l5, hl5, n5, hf5, a5⟩ := n4.goF go5 hf4 a4
  have hl5 := hl5.trans hl4
  have D5 := Dues_small n5.is (by decide) 3 (by rw [q1l]; decide)
  rw [ptr_eq hl5] at D5
  have q1' := q1
  generalize duesAt gr1 3 = ds at D5 q1'
  refine D5.mono ?_
  rintro v w6 ⟨h6, e6⟩
  have n6 := n5.then e6
  have hf6 := hf5.ext e6
  have a6 := apart_ext a5 e6
  intro g7 w7 h7
  have n7 := n6.then h7.ext
  have hf7 := hf6.ext h7.ext
  have a7 := apart_ext a6 h7.ext
  have P7 := Pairs_spec n7.is (by decide) (A := some ⟨g7, 0, none⟩) (g := [⟨11, 1⟩, ⟨21, 2⟩]) (c := 2) ⟨reads_block h7.here, by decide, by decide⟩ 5
  rw [ptr_eq hl5] at P7
  have q2' := q2
  generalize pairsAt gr1 [⟨11, 1⟩, ⟨21, 2⟩] 5 = ps at P7 q2'
  refine P7.mono ?_
  rintro v w8 ⟨h8, e8⟩
  have n8 := n7.then e8
  have hf8 := hf7.ext e8
  have a8 := apart_ext a7 e8
  have hd6 := h6.ext (h7.ext.trans e8)
  have hdl : ds.length = 1 := by rw [q1']; rfl
  have hpl : ps.length = 1 := by rw [q2']; rfl
  obtain ⟨Ad, cd, rfl, hdr⟩ := hd6.hl
  obtain ⟨Ap, cp, rfl, hpr⟩ := h8.hl
  obtain ⟨bd, od, hAd, hrd⟩ := hdr.at Due.len (by omega) (i := 0) (by omega)
  obtain ⟨bp, op, hAp, hrp⟩ := hpr.at IPair.len (by omega) (i := 0) (by omega)
  have hd0 : ds[0] = ⟨1, 2, 1⟩ := by simp [q1']
  have hp0 : ps[0] = ⟨0, 1⟩ := by simp [q2']
  refine brE_ndec (fun h => absurd hrn1 h) (fun _ => ?_)
  refine brE_ndec (fun h => absurd hre1 h) (fun _ => ?_)
  refine brE_ndec (fun h => absurd hre2 h) (fun _ => ?_)
  refine brE_ndec (fun h => absurd hre3 h) (fun _ => ?_)
  refine brE_ndec (fun h => absurd (by show ((ds.length : Nat) : Int) = 1; rw [hdl]; rfl) h) (fun _ => ?_)
  refine ⟨0, bd, od, rfl, by show 0 < ds.length; omega, hAd, ?_⟩
  refine ⟨ds[0].cells, rfl, hrd, ?_⟩
  obtain ⟨qd, hqd⟩ : ∃ q : Due, q = ⟨1, 2, 1⟩ := ⟨_, rfl⟩
  rw [← hqd] at hd0
  refine ⟨_, neqD_at _ _ ds[0] qd _ (by rw [hqd]; rfl), ?_⟩
  refine brE_ndec (fun h => absurd hd0 h) (fun _ => ?_)
  refine brE_ndec (fun h => absurd (by show ((ps.length : Nat) : Int) = 1; rw [hpl]; rfl) h) (fun _ => ?_)
  refine ⟨0, bp, op, rfl, by show 0 < ps.length; omega, hAp, ?_⟩
  refine ⟨ps[0].cells, rfl, hrp, ?_⟩
  obtain ⟨qp, hqp⟩ : ∃ q : IPair, q = ⟨0, 1⟩ := ⟨_, rfl⟩
  rw [← hqp] at hp0
  refine ⟨_, neqP_at _ _ ps[0] qp _ (by rw [hqp]; rfl), ?_⟩
  refine brE_ndec (fun h => absurd hp0 h) (fun _ => ?_)
  refine (G_grant n8.is hl5 (by decide) hf8 gw3_nums d4 (n0 := 2) rfl (es' := gr2) rfl).mono ?_
  rintro v w9 ⟨rn4, re4, rfl, hrn4, hre4, go9⟩
  obtain ⟨l9, hl9, n9, hf9, a9⟩ := n8.goF go9 hf8 a8
  have hl9 := hl9.trans hl5
  have S9 := SetRate_spec n9.is (by decide) (day := 8) (c := 1) (n := 240) (in64_small (by decide)) (by decide) (in64_small (by decide)) offL
  rw [ptr_eq hl9, d5] at S9
  refine S9.mono ?_
  rintro v w10 ⟨hv, go10⟩
  obtain ⟨re5, hre5, rfl⟩ : ∃ e : Int, e = 0 ∧ v = .int .i64 e := ⟨0, rfl, hv⟩
  obtain ⟨l10, hl10, n10, hf10, a10⟩ := n9.goF (es' := gr3) go10 hf9 a9
  have hl10 := hl10.trans hl9
  have O10 := Offer_spec n10.is (by decide) (day := 8) (frm := 1) (to := 2) (cur := 1) (n := 4) (ret := 0) (in64_small (by decide)) (in64_small (by decide)) (in64_small (by decide)) (by decide) (in64_small (by decide)) (in64_small (by decide)) offL
  rw [ptr_eq hl10, d6] at O10
  refine O10.mono ?_
  rintro v w11 ⟨hv, go11⟩
  obtain ⟨rn6, re6, hrn6, hre6, rfl⟩ : ∃ n e : Int, n = 1 ∧ e = 0 ∧ v = .tuple #[.int .i64 n, .int .i64 e] := ⟨1, 0, rfl, rfl, hv⟩
  obtain ⟨l11, hl11, n11, hf11, a11⟩ := n10.goF (es' := gr4) go11 hf10 a10
  have hl11 := hl11.trans hl10
  have T11 := Take_spec n11.is (by decide) (day := 9) (i := 1) (in64_small (by decide)) (in64_small (by decide)) offL
  rw [ptr_eq hl11, d7] at T11
  refine T11.mono ?_
  rintro v w12 ⟨hv, go12⟩
  obtain ⟨re7, hre7, rfl⟩ : ∃ e : Int, e = 0 ∧ v = .int .i64 e := ⟨0, rfl, hv⟩
  obtain ⟨l12, hl12, n12, hf12, a12⟩ := n11.goF (es' := gr5) go12 hf11 a11
  have hl12 := hl12.trans hl11
  have E12 := Entries_spec n12.is (by decide)
  rw [ptr_eq hl12] at E12
  refine E12.mono ?_
  rintro v w13 ⟨h13, e13⟩
  have n13 := n12.then e13
  obtain ⟨A13, c13, rfl, hr13⟩ := h13.hl
  obtain ⟨b13, o13, hA13, hrd13⟩ := hr13.at Entry.len (by omega) (i := 0) (by decide)
  refine ⟨0, b13, o13, rfl, by decide, hA13, ?_⟩
  refine ⟨gx1.cells, rfl, hrd13, ?_⟩
  have hx1 : gx1.Nums := ⟨by decide, in64_small (by decide), { gw1_nums with id := in64_small (by decide) }, giftZ_nums, in64_0, in64_0, in64_0⟩
  refine (Write6_spec gx1 hx1 w13 (tabP_ext T n13.ext)).mono ?_
  rintro v w14 ⟨hv, e14⟩
  rw [if_pos q8, if_pos q8, q9] at hv
  obtain ⟨ss, re8, hss, hre8, rfl⟩ : ∃ (s : ByteArray) (e : Int), s = tx [51, 32, 103, 114, 97, 110, 116, 32, 49, 32, 49, 49, 32, 49, 32, 50, 32, 48, 32, 48, 32, 53, 32, 57] ∧ e = 0 ∧ v = .tuple #[.string s, .int .i64 e] := ⟨_, 0, rfl, rfl, hv⟩
  have n14 := n13.then e14
  refine brE_dec (fun _ => ?_) (fun h => absurd hrn4 h)
  refine brE_dec (fun _ => ?_) (fun h => absurd hre4 h)
  refine brE_dec (fun _ => ?_) (fun h => absurd hre5 h)
  refine brE_dec (fun _ => ?_) (fun h => absurd hrn6 h)
  refine brE_dec (fun _ => ?_) (fun h => absurd hre6 h)
  refine brE_dec (fun _ => ?_) (fun h => absurd hre7 h)
  refine brE_dec (fun _ => ?_) (fun h => absurd hre8 h)
  have D14 := Dues_small n14.is (by decide) 4 (by rw [q3l]; decide)
  rw [ptr_eq hl12] at D14
  have q3' := q3
  generalize duesAt gr5 4 = ds2 at D14 q3'
  refine D14.mono ?_
  rintro v w15 ⟨h15, e15⟩
  have n15 := n14.then e15
  have hdl2 : ds2.length = 0 := by rw [q3']; rfl
  obtain ⟨A15, c15, rfl, _⟩ := h15.hl
  refine brE_dec (fun _ => ?_) (fun h => absurd (by show ((ds2.length : Nat) : Int) = 0; rw [hdl2]; rfl) h)
  have B15 := Debt_spec n15.is (by decide) 2 1 8
  rw [ptr_eq hl12] at B15
  refine B15.mono ?_
  rintro v w16 ⟨hv, e16⟩
  obtain ⟨x16, hx16, rfl⟩ : ∃ e : Int, e = 0 ∧ v = .int .i64 e := ⟨_, q4, hv⟩
  have n16 := n15.then e16
  refine brE_dec (fun _ => ?_) (fun h => absurd hx16 h)
  have B16 := Debt_spec n16.is (by decide) 2 1 9
  rw [ptr_eq hl12] at B16
  refine B16.mono ?_
  rintro v w17 ⟨hv, e17⟩
  obtain ⟨x17, hx17, rfl⟩ : ∃ e : Int, e = 960 ∧ v = .int .i64 e := ⟨_, q5, hv⟩
  have n17 := n16.then e17
  refine brE_dec (fun _ => ?_) (fun h => absurd hx17 h)
  have V17 := Overdue_spec n17.is (by decide) 374
  rw [ptr_eq hl12] at V17
  refine V17.mono ?_
  rintro v w18 ⟨h18, e18⟩
  have n18 := n17.then e18
  have q6' : (overdueAt gr5 374).length = 0 := by rw [q6]; rfl
  generalize overdueAt gr5 374 = od1 at h18 q6'
  obtain ⟨A18, c18, rfl, _⟩ := h18.hl
  refine brE_dec (fun _ => ?_) (fun h => absurd (by show ((od1.length : Nat) : Int) = 0; rw [q6']; rfl) h)
  have V18 := Overdue_spec n18.is (by decide) 375
  rw [ptr_eq hl12] at V18
  refine V18.mono ?_
  rintro v w19 ⟨h19, e19⟩
  have n19 := n18.then e19
  have q7' := q7
  generalize overdueAt gr5 375 = od2 at h19 q7'
  obtain ⟨A19, c19, rfl, _⟩ := h19.hl
  refine brE_dec (fun _ => ?_) (fun h => absurd (by show ((od2.length : Nat) : Int) = 1; rw [q7']; rfl) h)
  refine ⟨_, eqStr _ _ ss _, ?_⟩
  exact ⟨congrArg _ (decide_eq_true hss), n19.ext⟩
end Go.Proofs.YtcnbpfecgokhiaaGreatDoor
namespace Go.Proofs.YtcnbpfecgokhiaaGreatDoor
open Go.Eng Go.RowKit
theorem SameWs_spec {w : World} {A B : Option Addr} {l m : List Waiv} {c d : Nat} (h : HL Waiv.cells w A l c) (k : HL Waiv.cells w B m d) :
    CallsV C.P 45 #[.slice A l.length c, .slice B m.length d] w fun v w' => v = .bool (decide (l = m)) ∧ w' = w := by
  have hcap := h.cap
  refine callsV_of C_ok (args := [_, _]) (plans := plans45) Tryz.func45 rfl Tryz.ntmps45 (by kernel_rfl) (Nat.le_of_ble_eq_true rfl) ?_
  refine brE_ndec (fun hn => ?_) (fun hn => ?_)
  · have hn : ¬ ((l.length : Nat) : Int) = (m.length : Nat) := hn
    exact ⟨congrArg _ (decide_eq_false (fun e => hn (by rw [e]))).symm, rfl⟩
  have hn : ((l.length : Nat) : Int) = (m.length : Nat) := hn
  have hlm : l.length = m.length := by omega
  refine loopE C_ok (fun (i : Nat) => [(0, .slice A l.length c), (1, .slice B m.length d), (5, .int .i64 (i : Nat))])
    (fun i w' => i ≤ l.length ∧ l.take i = m.take i ∧ w' = w) (fun i => l.length - i) 0 ⟨rfl, rfl, rfl, trivial⟩ ⟨Nat.zero_le _, rfl, rfl⟩ ?_
  rintro i w1 ⟨hi, heq, rfl⟩
  refine brE_dec (fun hlt => ?_) (fun hge => ?_)
  · have hlt : i < l.length := by have : (i : Int) < (l.length : Nat) := hlt; omega
    have hltm : i < m.length := by omega
    obtain ⟨b1, o1, hA, hr1⟩ := h.at Waiv.len (by omega) hlt
    obtain ⟨b2, o2, hB, hr2⟩ := k.at Waiv.len (by omega) hltm
    refine ⟨i, b1, o1, rfl, hlt, hA, ?_⟩
    refine ⟨l[i].cells, rfl, hr1, ?_⟩
    refine ⟨i, b2, o2, rfl, hltm, hB, ?_⟩
    refine ⟨m[i].cells, rfl, hr2, ?_⟩
    refine ⟨_, neqW _ _ l[i] m[i], ?_⟩
    refine brE_ndec (fun hd => ?_) (fun hd => ?_)
    · exact ⟨congrArg _ (decide_eq_false (fun e => hd (by subst e; rfl))).symm, rfl⟩
    · refine ⟨((i + 1 : Nat) : Int), fit ⟨by omega, by omega⟩, ?_⟩
      exact ⟨i + 1, ⟨rfl, rfl, rfl, trivial⟩, ⟨hlt, by rw [List.take_succ_eq_append_getElem hlt, List.take_succ_eq_append_getElem hltm, heq, hd], rfl⟩, by show l.length - (i + 1) < l.length - i; omega⟩
  · have hi : i = l.length := by have : ¬ (i : Int) < (l.length : Nat) := hge; omega
    have e : l = m := by
      have h1 := heq
      rw [hi, List.take_length, hlm, List.take_length] at h1
      exact h1
    exact ⟨congrArg _ (decide_eq_true e).symm, rfl⟩
theorem SameGs_spec {w : World} {A B : Option Addr} {l m : List Gift} {c d : Nat} (h : HL Gift.cells w A l c) (k : HL Gift.cells w B m d) :
    CallsV C.P 48 #[.slice A l.length c, .slice B m.length d] w fun v w' => v = .bool (decide (l = m)) ∧ w' = w := by
  have hcap := h.cap
  refine callsV_of C_ok (args := [_, _]) (plans := plans48) Tryz.func48 rfl Tryz.ntmps48 (by kernel_rfl) (Nat.le_of_ble_eq_true rfl) ?_
  refine brE_ndec (fun hn => ?_) (fun hn => ?_)
  · have hn : ¬ ((l.length : Nat) : Int) = (m.length : Nat) := hn
    exact ⟨congrArg _ (decide_eq_false (fun e => hn (by rw [e]))).symm, rfl⟩
  have hn : ((l.length : Nat) : Int) = (m.length : Nat) := hn
  have hlm : l.length = m.length := by omega
  refine loopE C_ok (fun (i : Nat) => [(0, .slice A l.length c), (1, .slice B m.length d), (5, .int .i64 (i : Nat))])
    (fun i w' => i ≤ l.length ∧ l.take i = m.take i ∧ w' = w) (fun i => l.length - i) 0 ⟨rfl, rfl, rfl, trivial⟩ ⟨Nat.zero_le _, rfl, rfl⟩ ?_
  rintro i w1 ⟨hi, heq, rfl⟩
  refine brE_dec (fun hlt => ?_) (fun hge => ?_)
  · have hlt : i < l.length := by have : (i : Int) < (l.length : Nat) := hlt; omega
    have hltm : i < m.length := by omega
    obtain ⟨b1, o1, hA, hr1⟩ := h.at Gift.len (by omega) hlt
    obtain ⟨b2, o2, hB, hr2⟩ := k.at Gift.len (by omega) hltm
    refine ⟨i, b1, o1, rfl, hlt, hA, ?_⟩
    refine ⟨l[i].cells, rfl, hr1, ?_⟩
    refine ⟨i, b2, o2, rfl, hltm, hB, ?_⟩
    refine ⟨m[i].cells, rfl, hr2, ?_⟩
    refine ⟨_, neqG _ _ l[i] m[i], ?_⟩
    refine brE_ndec (fun hd => ?_) (fun hd => ?_)
    · exact ⟨congrArg _ (decide_eq_false (fun e => hd (by subst e; rfl))).symm, rfl⟩
    · refine ⟨((i + 1 : Nat) : Int), fit ⟨by omega, by omega⟩, ?_⟩
      exact ⟨i + 1, ⟨rfl, rfl, rfl, trivial⟩, ⟨hlt, by rw [List.take_succ_eq_append_getElem hlt, List.take_succ_eq_append_getElem hltm, heq, hd], rfl⟩, by show l.length - (i + 1) < l.length - i; omega⟩
  · have hi : i = l.length := by have : ¬ (i : Int) < (l.length : Nat) := hge; omega
    have e : l = m := by
      have h1 := heq
      rw [hi, List.take_length, hlm, List.take_length] at h1
      exact h1
    exact ⟨congrArg _ (decide_eq_true e).symm, rfl⟩
theorem SameDs_spec {w : World} {A B : Option Addr} {l m : List Due} {c d : Nat} (h : HL Due.cells w A l c) (k : HL Due.cells w B m d) :
    CallsV C.P 46 #[.slice A l.length c, .slice B m.length d] w fun v w' => v = .bool (decide (l = m)) ∧ w' = w := by
  have hcap := h.cap
  refine callsV_of C_ok (args := [_, _]) (plans := plans46) Tryz.func46 rfl Tryz.ntmps46 (by kernel_rfl) (Nat.le_of_ble_eq_true rfl) ?_
  refine brE_ndec (fun hn => ?_) (fun hn => ?_)
  · have hn : ¬ ((l.length : Nat) : Int) = (m.length : Nat) := hn
    exact ⟨congrArg _ (decide_eq_false (fun e => hn (by rw [e]))).symm, rfl⟩
  have hn : ((l.length : Nat) : Int) = (m.length : Nat) := hn
  have hlm : l.length = m.length := by omega
  refine loopE C_ok (fun (i : Nat) => [(0, .slice A l.length c), (1, .slice B m.length d), (5, .int .i64 (i : Nat))])
    (fun i w' => i ≤ l.length ∧ l.take i = m.take i ∧ w' = w) (fun i => l.length - i) 0 ⟨rfl, rfl, rfl, trivial⟩ ⟨Nat.zero_le _, rfl, rfl⟩ ?_
  rintro i w1 ⟨hi, heq, rfl⟩
  refine brE_dec (fun hlt => ?_) (fun hge => ?_)
  · have hlt : i < l.length := by have : (i : Int) < (l.length : Nat) := hlt; omega
    have hltm : i < m.length := by omega
    obtain ⟨b1, o1, hA, hr1⟩ := h.at Due.len (by omega) hlt
    obtain ⟨b2, o2, hB, hr2⟩ := k.at Due.len (by omega) hltm
    refine ⟨i, b1, o1, rfl, hlt, hA, ?_⟩
    refine ⟨l[i].cells, rfl, hr1, ?_⟩
    refine ⟨i, b2, o2, rfl, hltm, hB, ?_⟩
    refine ⟨m[i].cells, rfl, hr2, ?_⟩
    refine ⟨_, neqD _ _ l[i] m[i], ?_⟩
    refine brE_ndec (fun hd => ?_) (fun hd => ?_)
    · exact ⟨congrArg _ (decide_eq_false (fun e => hd (by subst e; rfl))).symm, rfl⟩
    · refine ⟨((i + 1 : Nat) : Int), fit ⟨by omega, by omega⟩, ?_⟩
      exact ⟨i + 1, ⟨rfl, rfl, rfl, trivial⟩, ⟨hlt, by rw [List.take_succ_eq_append_getElem hlt, List.take_succ_eq_append_getElem hltm, heq, hd], rfl⟩, by show l.length - (i + 1) < l.length - i; omega⟩
  · have hi : i = l.length := by have : ¬ (i : Int) < (l.length : Nat) := hge; omega
    have e : l = m := by
      have h1 := heq
      rw [hi, List.take_length, hlm, List.take_length] at h1
      exact h1
    exact ⟨congrArg _ (decide_eq_true e).symm, rfl⟩
theorem SameSs_spec {w : World} {A B : Option Addr} {l m : List Sight} {c d : Nat} (h : HL Sight.cells w A l c) (k : HL Sight.cells w B m d) :
    CallsV C.P 43 #[.slice A l.length c, .slice B m.length d] w fun v w' => v = .bool (decide (l = m)) ∧ w' = w := by
  have hcap := h.cap
  refine callsV_of C_ok (args := [_, _]) (plans := plans43) Tryz.func43 rfl Tryz.ntmps43 (by kernel_rfl) (Nat.le_of_ble_eq_true rfl) ?_
  refine brE_ndec (fun hn => ?_) (fun hn => ?_)
  · have hn : ¬ ((l.length : Nat) : Int) = (m.length : Nat) := hn
    exact ⟨congrArg _ (decide_eq_false (fun e => hn (by rw [e]))).symm, rfl⟩
  have hn : ((l.length : Nat) : Int) = (m.length : Nat) := hn
  have hlm : l.length = m.length := by omega
  refine loopE C_ok (fun (i : Nat) => [(0, .slice A l.length c), (1, .slice B m.length d), (5, .int .i64 (i : Nat))])
    (fun i w' => i ≤ l.length ∧ l.take i = m.take i ∧ w' = w) (fun i => l.length - i) 0 ⟨rfl, rfl, rfl, trivial⟩ ⟨Nat.zero_le _, rfl, rfl⟩ ?_
  rintro i w1 ⟨hi, heq, rfl⟩
  refine brE_dec (fun hlt => ?_) (fun hge => ?_)
  · have hlt : i < l.length := by have : (i : Int) < (l.length : Nat) := hlt; omega
    have hltm : i < m.length := by omega
    obtain ⟨b1, o1, hA, hr1⟩ := h.at Sight.len (by omega) hlt
    obtain ⟨b2, o2, hB, hr2⟩ := k.at Sight.len (by omega) hltm
    refine ⟨i, b1, o1, rfl, hlt, hA, ?_⟩
    refine ⟨l[i].cells, rfl, hr1, ?_⟩
    refine ⟨i, b2, o2, rfl, hltm, hB, ?_⟩
    refine ⟨m[i].cells, rfl, hr2, ?_⟩
    refine ⟨_, neqS _ _ l[i] m[i], ?_⟩
    refine brE_ndec (fun hd => ?_) (fun hd => ?_)
    · exact ⟨congrArg _ (decide_eq_false (fun e => hd (by subst e; rfl))).symm, rfl⟩
    · refine ⟨((i + 1 : Nat) : Int), fit ⟨by omega, by omega⟩, ?_⟩
      exact ⟨i + 1, ⟨rfl, rfl, rfl, trivial⟩, ⟨hlt, by rw [List.take_succ_eq_append_getElem hlt, List.take_succ_eq_append_getElem hltm, heq, hd], rfl⟩, by show l.length - (i + 1) < l.length - i; omega⟩
  · have hi : i = l.length := by have : ¬ (i : Int) < (l.length : Nat) := hge; omega
    have e : l = m := by
      have h1 := heq
      rw [hi, List.take_length, hlm, List.take_length] at h1
      exact h1
    exact ⟨congrArg _ (decide_eq_true e).symm, rfl⟩
theorem SamePs_spec {w : World} {A B : Option Addr} {l m : List IPair} {c d : Nat} (h : HL IPair.cells w A l c) (k : HL IPair.cells w B m d) :
    CallsV C.P 36 #[.slice A l.length c, .slice B m.length d] w fun v w' => v = .bool (decide (l = m)) ∧ w' = w := by
  have hcap := h.cap
  refine callsV_of C_ok (args := [_, _]) (plans := plans36) Tryz.func36 rfl Tryz.ntmps36 (by kernel_rfl) (Nat.le_of_ble_eq_true rfl) ?_
  refine brE_ndec (fun hn => ?_) (fun hn => ?_)
  · have hn : ¬ ((l.length : Nat) : Int) = (m.length : Nat) := hn
    exact ⟨congrArg _ (decide_eq_false (fun e => hn (by rw [e]))).symm, rfl⟩
  have hn : ((l.length : Nat) : Int) = (m.length : Nat) := hn
  have hlm : l.length = m.length := by omega
  refine loopE C_ok (fun (i : Nat) => [(0, .slice A l.length c), (1, .slice B m.length d), (5, .int .i64 (i : Nat))])
    (fun i w' => i ≤ l.length ∧ l.take i = m.take i ∧ w' = w) (fun i => l.length - i) 0 ⟨rfl, rfl, rfl, trivial⟩ ⟨Nat.zero_le _, rfl, rfl⟩ ?_
  rintro i w1 ⟨hi, heq, rfl⟩
  refine brE_dec (fun hlt => ?_) (fun hge => ?_)
  · have hlt : i < l.length := by have : (i : Int) < (l.length : Nat) := hlt; omega
    have hltm : i < m.length := by omega
    obtain ⟨b1, o1, hA, hr1⟩ := h.at IPair.len (by omega) hlt
    obtain ⟨b2, o2, hB, hr2⟩ := k.at IPair.len (by omega) hltm
    refine ⟨i, b1, o1, rfl, hlt, hA, ?_⟩
    refine ⟨l[i].cells, rfl, hr1, ?_⟩
    refine ⟨i, b2, o2, rfl, hltm, hB, ?_⟩
    refine ⟨m[i].cells, rfl, hr2, ?_⟩
    refine ⟨_, neqP _ _ l[i] m[i], ?_⟩
    refine brE_ndec (fun hd => ?_) (fun hd => ?_)
    · exact ⟨congrArg _ (decide_eq_false (fun e => hd (by subst e; rfl))).symm, rfl⟩
    · refine ⟨((i + 1 : Nat) : Int), fit ⟨by omega, by omega⟩, ?_⟩
      exact ⟨i + 1, ⟨rfl, rfl, rfl, trivial⟩, ⟨hlt, by rw [List.take_succ_eq_append_getElem hlt, List.take_succ_eq_append_getElem hltm, heq, hd], rfl⟩, by show l.length - (i + 1) < l.length - i; omega⟩
  · have hi : i = l.length := by have : ¬ (i : Int) < (l.length : Nat) := hge; omega
    have e : l = m := by
      have h1 := heq
      rw [hi, List.take_length, hlm, List.take_length] at h1
      exact h1
    exact ⟨congrArg _ (decide_eq_true e).symm, rfl⟩
end Go.Proofs.YtcnbpfecgokhiaaGreatDoor
namespace Go.Proofs.YtcnbpfecgokhiaaGreatDoor
open Go.Eng Go.RowKit
theorem numS_length (l : List (Int × Int × Int × Int × Int)) : (numS l).length = l.length := by unfold numS; simp
theorem numS_snoc (l : List (Int × Int × Int × Int × Int)) (t : Int × Int × Int × Int × Int) : numS (l ++ [t]) = numS l ++ [⟨(l.length : Nat), t.1, t.2.1, t.2.2.1, t.2.2.2.1, t.2.2.2.2⟩] := by
  unfold numS
  rw [List.zipIdx_append, List.map_append]
  simp
theorem sight_kinds {es : List Entry} (hA : Acc es) {day : Int} {i : Nat} (hi : i < es.length) (hd : es[i].day ≤ day) :
    let x := es[i]
    (x.kind = 1 ∨ x.kind = 2 ∨ x.kind = 3 ∨ x.kind = 4 ∨ x.kind = 5 ∨ x.kind = 6 ∨ x.kind = 7) ∧ ((x.kind = 3 ∨ x.kind = 4) → ∃ k, k < (waivL (asOfL es day)).length ∧ x.w.id = ((k + 1 : Nat) : Int)) ∧ ((x.kind = 5 ∨ x.kind = 6 ∨ x.kind = 7) → ∃ k, k < (giftL (asOfL es day)).length ∧ x.g.id = ((k + 1 : Nat) : Int)) := by
  have hm : es[i] ∈ asOfL es day := List.mem_filter.2 ⟨List.getElem_mem hi, by simpa using hd⟩
  have hr := refers (acc_asOf hA day) _ hm
  refine ⟨ok_kind (form_okE ((acc_ok hA).forms _ (List.getElem_mem hi))).1, hr.1, hr.2⟩
theorem take_asOf {es : List Entry} (hA : Acc es) {day : Int} {i : Nat} (h1 : ∀ j (hj : j < es.length), j < i → es[j].day ≤ day) (h2 : ∀ hi : i < es.length, ¬ es[i].day ≤ day) : es.take i = asOfL es day := by
  have e : es = es.take i ++ es.drop i := (List.take_append_drop i es).symm
  have h3 : asOfL es day = (es.take i).filter (fun x => decide (x.day ≤ day)) ++ (es.drop i).filter (fun x => decide (x.day ≤ day)) := by
    conv => lhs; rw [e]
    exact List.filter_append _ _
  rw [h3, List.filter_eq_self.2, List.filter_eq_nil_iff.2, List.append_nil]
  · intro x hx
    obtain ⟨t, ht, hk, rfl⟩ : ∃ t, ∃ ht : t < es.length, i ≤ t ∧ x = es[t] := by
      obtain ⟨t, ht, rfl⟩ := List.getElem_of_mem hx
      rw [List.length_drop] at ht
      exact ⟨i + t, by omega, by omega, by rw [List.getElem_drop]⟩
    have hi : i < es.length := by omega
    have := h2 hi
    rcases Nat.lt_or_ge i t with h | h
    · have := List.pairwise_iff_getElem.1 (acc_ok hA).days i t hi ht h
      simp; omega
    · obtain rfl : i = t := by omega
      simpa using this
  · intro x hx
    obtain ⟨t, ht, rfl⟩ := List.getElem_of_mem hx
    rw [List.length_take] at ht
    rw [List.getElem_take]
    simpa using h1 t (by omega) (by omega)
set_option maxRecDepth 100000 in
set_option maxHeartbeats 2000000 in
theorem Sight_spec {w : World} {l : LV} {es : List Entry} (h : LedgerIs w l es) (hl : es.length ≤ 2 ^ 16) (state day : Int) :
    CallsV C.P 44 #[l.ptr, .int .i64 state, .int .i64 day] w fun v w' => NewL Sight.cells 142 6 w.heap.size w' v (sightAt es state day) ∧ Ext w w' := by
  obtain ⟨Ae, ce, hve, hre, _⟩ := reads_of_owns h.row
  have hA' := acc_asOf h.acc day
  have hwl := (acc_ok hA').wlen
  have hgl := (acc_ok hA').gifts.len
  refine callsV_of C_ok (args := [_, _, _]) (plans := plans44) Tryz.func44 rfl Tryz.ntmps44 (by kernel_rfl) (Nat.le_of_ble_eq_true rfl) ?_
  refine ⟨_, eqNilP _ _ _, ?_⟩
  refine (asOf_spec h hl day).mono ?_
  rintro v w1 ⟨s, rfl, hs⟩
  have hB := hs.is.block
  obtain ⟨Aw, cw, hvw, _, _⟩ := reads_of_owns hs.is.waivs
  obtain ⟨Ag, cg, hvg, _, _⟩ := reads_of_owns hs.is.gifts
  have hws := hs.is.waivs
  have hgs := hs.is.gifts
  have e1 := hs.ext
  have hfin : ∀ i, es.take i = asOfL es day → numS ((es.take i).filterMap (seeX (waivL (asOfL es day)) (giftL (asOfL es day)) state)) = sightAt es state day := fun i e => by rw [e]; rfl
  have hkinds := fun {i : Nat} (hi : i < es.length) (hd : es[i].day ≤ day) => sight_kinds h.acc hi hd
  have hstop := fun {i : Nat} => take_asOf h.acc (day := day) (i := i)
  generalize sightAt es state day = target at *
  generalize hWS : waivL (asOfL es day) = ws at *
  generalize hGS : giftL (asOfL es day) = gs at *
  refine ⟨.slice Ae es.length ce, cell_of_block (i := 0) (e1.heap h.block) (by show some l.vE = _; rw [hve]), ?_⟩
  refine loopE C_ok (fun (p : Nat × Value) => [(1, .int .i64 state), (2, .int .i64 day), (7, .pointer (some ⟨s.gs, 0, none⟩)), (8, p.2), (22, .slice Ae es.length ce), (23, .int .i64 es.length), (24, .int .i64 p.1)])
    (fun p w' => p.1 ≤ es.length ∧ (∀ j (hj : j < es.length), j < p.1 → es[j].day ≤ day) ∧ NewL Sight.cells 142 6 w.heap.size w' p.2 (numS ((es.take p.1).filterMap (seeX ws gs state))) ∧ Ext w w' ∧ Only 142 w1 w') (fun p => es.length - p.1) (0, .slice none 0 0) ⟨rfl, rfl, rfl, rfl, rfl, rfl, rfl, trivial⟩
    ⟨Nat.zero_le _, fun j _ hj => absurd hj (Nat.not_lt_zero _), newL_nil, e1, only_ext _ (Ext.refl _)⟩ ?_
  rintro ⟨i, v⟩ w2 ⟨hi', hday', ho', e2, o12⟩
  have hi : i ≤ es.length := hi'
  have hday : ∀ j (hj : j < es.length), j < i → es[j].day ≤ day := hday'
  have ho : NewL Sight.cells 142 6 w.heap.size w2 v (numS ((es.take i).filterMap (seeX ws gs state))) := ho'
  clear hi' hday' ho'
  have hsl : (numS ((es.take i).filterMap (seeX ws gs state))).length ≤ i := by
    rw [numS_length]
    have := List.length_filterMap_le (seeX ws gs state) (es.take i)
    rw [List.length_take] at this
    omega
  obtain ⟨A', c', rfl, _⟩ := ho.hl
  refine brE_dec (fun hlt => ?_) (fun hge => ?_)
  · have hlti : i < es.length := by have : (i : Int) < (es.length : Nat) := hlt; omega
    clear hlt
    obtain ⟨b, o, hA, hc⟩ := Reads.elem Entry.len (by omega) (hre.ext e2) hlti
    refine ⟨i, b, o, rfl, hlti, hA, ?_⟩
    refine ⟨es[i].cells, rfl, hc, ?_⟩
    intro g10 w3 h3
    refine ⟨rfl, _, _, h3.here, Nat.le_of_ble_eq_true rfl, rfl, ?_⟩
    intro w4 h4
    have M4 : Mem w2 w4 [(g10, .cells es[i].cells.toArray 39 (0, 0))] := ((Mem.start w2).alloc h3).put 0 rfl h4
    refine ⟨_, M4.cell 0 rfl rfl, ?_⟩
    refine brE_dec (fun hd => ?_) (fun hd => ?_)
    · have hd : es[i].day > day := hd
      refine ⟨?_, e2.trans M4.ext⟩
      rw [← hfin i (hstop hday fun _ => by omega)]
      exact ho.ext M4.ext
    have hd : es[i].day ≤ day := by have : ¬ es[i].day > day := hd; omega
    have hday1 : ∀ j (hj : j < es.length), j < i + 1 → es[j].day ≤ day := fun j hj hji => by
      rcases Nat.lt_or_ge j i with h | h
      · exact hday j hj h
      · obtain rfl : j = i := by omega
        exact hd
    obtain ⟨hk, hk3, hk5⟩ := hkinds hlti hd
    have next : IntKind.i64.wrap ((i : Int) + 1) = ((i + 1 : Nat) : Int) := fit ⟨by omega, by omega⟩
    have hsnoc : (es.take (i + 1)).filterMap (seeX ws gs state) = (es.take i).filterMap (seeX ws gs state) ++ (seeX ws gs state es[i]).toList := by
      rw [List.take_succ_eq_append_getElem hlti, List.filterMap_append]
      congr 1
    refine ⟨_, M4.cell 0 rfl rfl, ?_⟩
    refine ⟨_, M4.cell 0 rfl rfl, ?_⟩
    intro g11 w5 h5
    have M5 := M4.alloc h5
    refine ⟨rfl, _, _, M5.get 0 rfl, Nat.le_of_ble_eq_true rfl, rfl, ?_⟩
    intro w6 h6
    generalize hN : (numS ((es.take i).filterMap (seeX ws gs state))).length = N at *
    have M6 : Mem w2 w6 [(g11, .cells (Sight.mk (N : Nat) es[i].kind es[i].day 0 0 0).cells.toArray 142 (0, 0)), (g10, .cells es[i].cells.toArray 39 (0, 0))] := M5.put 0 rfl h6
    have hne : g10 ≠ g11 := by
      have := M6.nodup
      simp at this
      exact fun e => this e.symm
    clear M4 M5 h6 h5 h4 h3
    have o16 := only_trans o12 (only_ext _ M6.ext)
    refine ⟨_, M6.cell 1 rfl rfl, ?_⟩
    refine brE_dec (fun k1 => ?k1) (fun k1 => ?n1)
    case' n1 =>
      have k1 : ¬ es[i].kind = 1 := k1
      refine brE_dec (fun k2 => ?k2) (fun k2 => ?n2)
    case' n2 =>
      have k2 : ¬ es[i].kind = 2 := k2
      refine brE_dec (fun k3 => ?k3) (fun k3 => ?n3)
    case' n3 =>
      have k3 : ¬ es[i].kind = 3 := k3
      refine brE_dec (fun k4 => ?k4) (fun k4 => ?n4)
    case' k1 =>
      have kk : es[i].kind = 1 ∨ es[i].kind = 2 := .inl k1
      refine brE_true (decide_eq_true k1) ?_
    case' k2 => have kk : es[i].kind = 1 ∨ es[i].kind = 2 := .inr k2
    case' k3 =>
      have kk : es[i].kind = 3 ∨ es[i].kind = 4 := .inl k3
      refine brE_true (decide_eq_true k3) ?_
    case' k4 => have kk : es[i].kind = 3 ∨ es[i].kind = 4 := .inr k4
    case' k1 | k2 =>
      have hsee : seeX ws gs state es[i] = some (es[i].kind, es[i].day, es[i].a, 0, es[i].n) := if_pos kk
      refine ⟨fun q => q = g10, ?_⟩
      refine ⟨_, M6.cell 1 rfl rfl, ?_⟩
      refine ⟨.int .i64 es[i].n, fun u hu => ⟨_, hu.cell rfl (M6.cell 1 (i := 23) rfl rfl), rfl⟩, ?_⟩
      refine ⟨rfl, _, _, M6.get 0 rfl, Nat.le_of_ble_eq_true rfl, rfl, ?_⟩
      intro w7 h7
      refine ⟨(Keep.refl _ w6).put h7 hne.symm, ?_⟩
      refine ⟨rfl, _, _, h7.here, Nat.le_of_ble_eq_true rfl, rfl, ?_⟩
      intro w8 h8
      have M8 : Mem w2 w8 [(g11, .cells (Sight.mk (N : Nat) es[i].kind es[i].day es[i].a 0 es[i].n).cells.toArray 142 (0, 0)), (g10, .cells es[i].cells.toArray 39 (0, 0))] := (M6.put 0 rfl h7).put 0 rfl h8
    case' k3 | k4 =>
      obtain ⟨k, hkl, hke⟩ := hk3 kk
      have hat : atN ws es[i].w.id = ws[k] := by rw [hke]; exact atN_get hkl
      have hsee : seeX ws gs state es[i] = some (es[i].kind, es[i].day, ws[k].giver, ws[k].taker, ws[k].id) := by
        have hn1 : ¬ (es[i].kind = 1 ∨ es[i].kind = 2) := fun h => h.elim k1 k2
        unfold seeX; rw [if_neg hn1, if_pos kk, hat]
      have hw6 := ownsRow_only hws o16 (by decide)
      obtain ⟨A6, c6, hv6, hr6, _⟩ := reads_of_owns hw6
      obtain ⟨b6, o6, hA6, hc6⟩ := Reads.elem Waiv.len (by omega) hr6 hkl
      refine ⟨.slice A6 ws.length c6, cell_of_block (i := 2) (o16 _ _ _ _ hB (by decide)) (by show some s.vW = _; rw [hv6]), ?_⟩
      refine ⟨_, M6.cell 1 rfl rfl, ?_⟩
      refine ⟨(k : Int), by show IntKind.i64.wrap (es[i].w.id - 1) = _; rw [hke, fit ⟨by omega, by omega⟩]; omega, ?_⟩
      refine ⟨k, b6, o6, rfl, hkl, hA6, ?_⟩
      refine ⟨ws[k].cells, rfl, hc6, ?_⟩
      intro g12 w7 h7
      refine ⟨h7.ext, ?_⟩
      have M7 := M6.alloc h7
      refine ⟨rfl, _, _, M7.get 0 rfl, Nat.le_of_ble_eq_true rfl, rfl, ?_⟩
      intro w7' h7'
      have M7 : Mem w2 w7' [(g12, .cells ws[k].cells.toArray 35 (0, 0)), (g11, .cells (Sight.mk (N : Nat) es[i].kind es[i].day 0 0 0).cells.toArray 142 (0, 0)), (g10, .cells es[i].cells.toArray 39 (0, 0))] := M7.put 0 rfl h7'
      have hne2 : g12 ≠ g11 := by
        have := M7.nodup
        simp at this
        exact this.1.1
      refine ⟨fun q => q = g12, ?_⟩
      refine ⟨_, M7.cell 0 rfl rfl, ?_⟩
      refine ⟨.int .i64 ws[k].taker, fun u hu => ⟨_, hu.cell rfl (M7.cell 0 (i := 4) rfl rfl), rfl⟩, ?_⟩
      refine ⟨.int .i64 ws[k].id, fun u hu => ⟨_, hu.cell rfl (M7.cell 0 (i := 0) rfl rfl), rfl⟩, ?_⟩
      refine ⟨rfl, _, _, M7.get 1 rfl, Nat.le_of_ble_eq_true rfl, rfl, ?_⟩
      intro w8a h8a
      refine ⟨(Keep.refl _ w7').put h8a hne2.symm, ?_⟩
      refine ⟨rfl, _, _, h8a.here, Nat.le_of_ble_eq_true rfl, rfl, ?_⟩
      intro w8b h8b
      refine ⟨((Keep.refl _ w7').put h8a hne2.symm).put h8b hne2.symm, ?_⟩
      refine ⟨rfl, _, _, h8b.here, Nat.le_of_ble_eq_true rfl, rfl, ?_⟩
      intro w8 h8
      have M8 : Mem w2 w8 [(g11, .cells (Sight.mk (N : Nat) es[i].kind es[i].day ws[k].giver ws[k].taker ws[k].id).cells.toArray 142 (0, 0)), (g10, .cells es[i].cells.toArray 39 (0, 0))] := (((M7.put 1 rfl h8a).put 1 rfl h8b).put 1 rfl h8).tail
    case' n4 =>
      have k4 : ¬ es[i].kind = 4 := k4
      have h567 : es[i].kind = 5 ∨ es[i].kind = 6 ∨ es[i].kind = 7 := by
        rcases hk with h | h | h | h | h
        · exact absurd h k1
        · exact absurd h k2
        · exact absurd h k3
        · exact absurd h k4
        · exact h
      obtain ⟨k, hkl, hke⟩ := hk5 h567
      have hat : atN gs es[i].g.id = gs[k] := by rw [hke]; exact atN_get hkl
      have hsee0 : seeX ws gs state es[i] = if gs[k].frm = state ∨ gs[k].to = state then some (es[i].kind, es[i].day, gs[k].frm, gs[k].to, gs[k].worth) else none := by
        have hn1 : ¬ (es[i].kind = 1 ∨ es[i].kind = 2) := fun h => h.elim k1 k2
        have hn2 : ¬ (es[i].kind = 3 ∨ es[i].kind = 4) := fun h => h.elim k3 k4
        unfold seeX; rw [if_neg hn1, if_neg hn2, hat]
      have hw6 := ownsRow_only hgs o16 (by decide)
      obtain ⟨A6, c6, hv6, hr6, _⟩ := reads_of_owns hw6
      obtain ⟨b6, o6, hA6, hc6⟩ := Reads.elem Gift.len (by omega) hr6 hkl
      refine ⟨.slice A6 gs.length c6, cell_of_block (i := 4) (o16 _ _ _ _ hB (by decide)) (by show some s.vG = _; rw [hv6]), ?_⟩
      refine ⟨_, M6.cell 1 rfl rfl, ?_⟩
      refine ⟨(k : Int), by show IntKind.i64.wrap (es[i].g.id - 1) = _; rw [hke, fit ⟨by omega, by omega⟩]; omega, ?_⟩
      refine ⟨k, b6, o6, rfl, hkl, hA6, ?_⟩
      refine ⟨gs[k].cells, rfl, hc6, ?_⟩
      intro g12 w7 h7
      refine ⟨h7.ext, ?_⟩
      have M7 := M6.alloc h7
      refine ⟨rfl, _, _, M7.get 0 rfl, Nat.le_of_ble_eq_true rfl, rfl, ?_⟩
      intro w7' h7'
      have M7 : Mem w2 w7' [(g12, .cells gs[k].cells.toArray 37 (0, 0)), (g11, .cells (Sight.mk (N : Nat) es[i].kind es[i].day 0 0 0).cells.toArray 142 (0, 0)), (g10, .cells es[i].cells.toArray 39 (0, 0))] := M7.put 0 rfl h7'
      have hne2 : g12 ≠ g11 := by
        have := M7.nodup
        simp at this
        exact this.1.1
      have skip : (gs[k].frm ≠ state ∧ gs[k].to ≠ state) → NewL Sight.cells 142 6 w.heap.size w7' (.slice A' N c') (numS ((es.take (i + 1)).filterMap (seeX ws gs state))) := fun hne => by
        rw [hsnoc, hsee0, if_neg (by simp [hne.1, hne.2])]
        show NewL _ _ _ _ _ _ (numS (_ ++ []))
        rw [List.append_nil]
        exact ho.ext M7.ext
      refine ⟨_, M7.cell 0 rfl rfl, ?_⟩
      refine brE_ndec (fun c1 => ?a1) (fun c1 => ?a2)
    case' a1 =>
      have c1 : ¬ gs[k].frm = state := c1
      refine ⟨_, M7.cell 0 rfl rfl, ?_⟩
      refine brE_ndec (fun c2 => ?a3) (fun c2 => ?a4)
    case a3 =>
      have c2 : ¬ gs[k].to = state := c2
      refine ⟨_, next, ?_⟩
      exact ⟨(i + 1, .slice A' N c'), ⟨rfl, rfl, rfl, rfl, rfl, rfl, rfl, trivial⟩, ⟨hlti, hday1, skip ⟨c1, c2⟩, e2.trans M7.ext, only_trans o12 (only_ext _ M7.ext)⟩, by show es.length - (i + 1) < es.length - i; omega⟩
    case' a2 => have cc : gs[k].frm = state ∨ gs[k].to = state := .inl c1
    case' a4 => have cc : gs[k].frm = state ∨ gs[k].to = state := .inr c2
    case' a2 | a4 =>
      have hsee : seeX ws gs state es[i] = some (es[i].kind, es[i].day, gs[k].frm, gs[k].to, gs[k].worth) := by rw [hsee0, if_pos cc]
      refine ⟨fun q => q = g12, ?_⟩
      refine ⟨_, M7.cell 0 rfl rfl, ?_⟩
      refine ⟨.int .i64 gs[k].to, fun u hu => ⟨_, hu.cell rfl (M7.cell 0 (i := 3) rfl rfl), rfl⟩, ?_⟩
      refine ⟨.int .i64 gs[k].worth, fun u hu => ⟨_, hu.cell rfl (M7.cell 0 (i := 6) rfl rfl), rfl⟩, ?_⟩
      refine ⟨rfl, _, _, M7.get 1 rfl, Nat.le_of_ble_eq_true rfl, rfl, ?_⟩
      intro w8a h8a
      refine ⟨(Keep.refl _ w7').put h8a hne2.symm, ?_⟩
      refine ⟨rfl, _, _, h8a.here, Nat.le_of_ble_eq_true rfl, rfl, ?_⟩
      intro w8b h8b
      refine ⟨((Keep.refl _ w7').put h8a hne2.symm).put h8b hne2.symm, ?_⟩
      refine ⟨rfl, _, _, h8b.here, Nat.le_of_ble_eq_true rfl, rfl, ?_⟩
      intro w8 h8
      have M8 : Mem w2 w8 [(g11, .cells (Sight.mk (N : Nat) es[i].kind es[i].day gs[k].frm gs[k].to gs[k].worth).cells.toArray 142 (0, 0)), (g10, .cells es[i].cells.toArray 39 (0, 0))] := (((M7.put 1 rfl h8a).put 1 rfl h8b).put 1 rfl h8).tail
    all_goals
      refine ⟨_, rfl, M8.rd 0 rfl, ?_⟩
      intro g13 w9 h9
      have ho9 := ho.ext (M8.ext.trans h9.ext)
      refine ⟨rfl, rfl, rfl, w.heap.size, _, _, _, by unfold NewL at ho9; rw [hN] at ho9; exact ho9, Nat.le_trans e2.size (Nat.le_trans M8.ext.size h9.ext.size), Nat.le_of_ble_eq_true rfl, rfl, rfl, .inr ⟨g13, 0, rfl, Rd.of_block h9.here⟩, rfl, rfl, by omega, by simp only [maxLen]; omega, ?_⟩
      intro v' w10 ho10 hg10 hpl
      refine ⟨_, next, ?_⟩
      have e9 := e2.trans (M8.ext.trans h9.ext)
      unfold NewL at ho9
      rw [hN] at ho9
      refine ⟨(i + 1, v'), ⟨rfl, rfl, rfl, rfl, rfl, rfl, rfl, trivial⟩, ⟨hlti, hday1, ?_, app_ext e9 ho9 hg10, only_trans o12 (only_trans (only_ext _ (M8.ext.trans h9.ext)) (only_app ho9 hg10))⟩, by show es.length - (i + 1) < es.length - i; omega⟩
      show NewL Sight.cells 142 6 w.heap.size w10 v' (numS ((es.take (i + 1)).filterMap (seeX ws gs state)))
      rw [hsnoc, hsee]
      simp only [Option.toList_some]
      rw [numS_snoc]
      unfold NewL
      rw [List.length_append, List.flatMap_append, hN]
      have hlen : ((es.take i).filterMap (seeX ws gs state)).length = N := by rw [← hN, numS_length]
      rw [hlen]
      exact ho10
  · have hi : i = es.length := by have : ¬ (i : Int) < (es.length : Nat) := hge; omega
    refine ⟨?_, e2⟩
    rw [← hfin i (hstop hday fun hlt => by omega)]
    exact ho
end Go.Proofs.YtcnbpfecgokhiaaGreatDoor
namespace Go.Proofs.YtcnbpfecgokhiaaGreatDoor
open Go.Eng Go.RowKit
theorem rowD_n {B : Nat} {w : World} {A : Option Addr} {n c : Nat} {l : List Due} (ho : RowD B w (.slice A n c) l) : n = l.length := by
  obtain ⟨A', c', e, _⟩ := NewL.hl ho
  cases e; rfl
set_option maxRecDepth 100000 in
set_option maxHeartbeats 1000000 in
theorem swapRange_spec {B : Nat} {w : World} {A : Option Addr} {n c gd a b k : Nat} {cb : Array Value} {P X Y Z S : List Due} (ho : RowD B w (.slice A n c) (P ++ (X ++ (Y ++ (Z ++ S))))) (hn : n ≤ 2 ^ 30) (ha : a = P.length) (hb : b = P.length + X.length + Y.length) (hk : k = X.length) (hZ : Z.length = X.length) :
    CallsV C.P 270 #[.slice A n c, .int .i64 (a : Nat), .int .i64 (b : Nat), .int .i64 (k : Nat), .func (.func gd) #[] cb] w fun _ w' => RowD B w' (.slice A n c) (P ++ (Z ++ (Y ++ (X ++ S)))) ∧ Below B w w' := by
  have hln := rowD_n ho
  simp only [List.length_append] at hln
  refine callsV_of C_ok (args := [_, _, _, _, _]) (plans := plans270) Tryz.func270 rfl Tryz.ntmps270 (by kernel_rfl) (Nat.le_of_ble_eq_true rfl) ?_
  refine loopE C_ok (fun (i : Nat) => [(0, .slice A n c), (1, .int .i64 (a : Nat)), (2, .int .i64 (b : Nat)), (3, .int .i64 (k : Nat)), (10, .int .i64 (i : Nat))])
    (fun i w' => i ≤ k ∧ RowD B w' (.slice A n c) (P ++ (Z.take i ++ (X.drop i ++ (Y ++ (X.take i ++ (Z.drop i ++ S)))))) ∧ Below B w w') (fun i => k - i) 0 ⟨rfl, rfl, rfl, rfl, rfl, trivial⟩
    ⟨Nat.zero_le _, ho, Below.refl _ _⟩ ?_
  rintro i w1 ⟨hi, ho1, b1⟩
  refine brE_dec (fun hlt => ?_) (fun hge => ?_)
  · have hlt : i < k := by have : (i : Int) < (k : Nat) := hlt; omega
    have hx : i < X.length := by omega
    have hz : i < Z.length := by omega
    obtain ⟨x, hxe⟩ : ∃ x, x = X[i] := ⟨_, rfl⟩
    obtain ⟨z, hze⟩ : ∃ z, z = Z[i] := ⟨_, rfl⟩
    have hXd : X.drop i = x :: X.drop (i + 1) := by rw [hxe]; exact List.drop_eq_getElem_cons hx
    have hZd : Z.drop i = z :: Z.drop (i + 1) := by rw [hze]; exact List.drop_eq_getElem_cons hz
    have hXt : X.take (i + 1) = X.take i ++ [x] := by rw [hxe]; exact List.take_succ_eq_append_getElem hx
    have hZt : Z.take (i + 1) = Z.take i ++ [z] := by rw [hze]; exact List.take_succ_eq_append_getElem hz
    obtain ⟨P1, hP1⟩ : ∃ P1, P1 = P ++ Z.take i := ⟨_, rfl⟩
    obtain ⟨Y1, hY1⟩ : ∃ Y1, Y1 = X.drop (i + 1) ++ (Y ++ X.take i) := ⟨_, rfl⟩
    obtain ⟨S1, hS1⟩ : ∃ S1, S1 = Z.drop (i + 1) ++ S := ⟨_, rfl⟩
    have e1 : P ++ (Z.take i ++ (X.drop i ++ (Y ++ (X.take i ++ (Z.drop i ++ S))))) = P1 ++ x :: (Y1 ++ z :: S1) := by rw [hXd, hZd, hP1, hY1, hS1]; simp
    have e2 : P1 ++ z :: (Y1 ++ x :: S1) = P ++ (Z.take (i + 1) ++ (X.drop (i + 1) ++ (Y ++ (X.take (i + 1) ++ (Z.drop (i + 1) ++ S))))) := by rw [hXt, hZt, hP1, hY1, hS1]; simp
    rw [e1] at ho1
    have hP1l : P1.length = a + i := by rw [hP1, List.length_append, List.length_take]; omega
    have hY1l : P1.length + 1 + Y1.length = b + i := by rw [hP1l, hY1, List.length_append, List.length_append, List.length_take, List.length_drop]; omega
    have hl1 := rowD_n ho1
    have hi0 : P1.length < (P1 ++ x :: (Y1 ++ z :: S1)).length := by simp only [List.length_append, List.length_cons]; omega
    have hi1 : P1.length + 1 + Y1.length < (P1 ++ x :: (Y1 ++ z :: S1)).length := by simp only [List.length_append, List.length_cons]; omega
    have hbi : b + i < n := by omega
    have hai : a + i < n := by omega
    have ad0 : IntKind.i64.wrap (((a : Nat) : Int) + (i : Nat)) = ((a + i : Nat) : Int) := fit ⟨by omega, by omega⟩
    have ad1 : IntKind.i64.wrap (((b : Nat) : Int) + (i : Nat)) = ((b + i : Nat) : Int) := fit ⟨by omega, by omega⟩
    obtain ⟨g1, hA1, _, hr1, _⟩ := rowD_at ho1 hi1
    obtain ⟨g0, hA0, _, hr0, _⟩ := rowD_at ho1 hi0
    rw [get_mid2 rfl hi1, hY1l] at hr1
    rw [get_mid hi0, hP1l] at hr0
    obtain ⟨g, cur, hA, hg, hb1, hput⟩ := rowD_swap ho1 hi0 hi1
    rw [get_mid2 rfl hi1, get_mid hi0, swap_split, hY1l, hP1l] at hput
    rw [hP1l] at hb1
    refine ⟨((a + i : Nat) : Int), ad0, ?_⟩
    refine ⟨((b + i : Nat) : Int), ad1, ?_⟩
    refine ⟨((b + i : Nat) : Int), ad1, ?_⟩
    refine ⟨b + i, g1, 0, rfl, hbi, hA1, ?_⟩
    refine ⟨z.cells, rfl, hr1, ?_⟩
    refine ⟨((a + i : Nat) : Int), ad0, ?_⟩
    refine ⟨a + i, g0, 0, rfl, hai, hA0, ?_⟩
    refine ⟨x.cells, rfl, hr0, ?_⟩
    refine ⟨a + i, g, 0, rfl, hai, hA, ?_⟩
    refine ⟨rfl, _, _, hg, hb1, rfl, ?_⟩
    intro w2 h2
    obtain ⟨cur1, hg1, hb2, hput2⟩ := hput w2 h2
    refine ⟨b + i, g, 0, rfl, hbi, hA, ?_⟩
    refine ⟨rfl, _, _, hg1, hb2, rfl, ?_⟩
    intro w3 h3
    obtain ⟨ho3, b3⟩ := hput2 w3 h3
    rw [e2] at ho3
    refine ⟨((i + 1 : Nat) : Int), by (try dsimp only); exact fit ⟨by omega, by omega⟩, ?_⟩
    exact ⟨i + 1, ⟨rfl, rfl, rfl, rfl, rfl, trivial⟩, ⟨hlt, ho3, b1.trans b3⟩, by show k - (i + 1) < k - i; omega⟩
  · have hik : i = k := by have : ¬ (i : Int) < (k : Nat) := hge; omega
    have hX : X.take i = X := List.take_of_length_le (by omega)
    have hXd : X.drop i = [] := List.drop_eq_nil_of_le (by omega)
    have hZt : Z.take i = Z := List.take_of_length_le (by omega)
    have hZd : Z.drop i = [] := List.drop_eq_nil_of_le (by omega)
    rw [hX, hXd, hZt, hZd, List.nil_append, List.nil_append] at ho1
    exact ⟨ho1, b1⟩
set_option maxRecDepth 100000 in
set_option maxHeartbeats 1000000 in
theorem rotate_spec {B : Nat} {w : World} {A : Option Addr} {n c gd a m b : Nat} {cb : Array Value} {P U V S : List Due} (ho : RowD B w (.slice A n c) (P ++ (U ++ (V ++ S)))) (hn : n ≤ 2 ^ 30) (ha : a = P.length) (hm : m = a + U.length) (hb : b = m + V.length) (hU : 0 < U.length) (hV : 0 < V.length) :
    CallsV C.P 256 #[.slice A n c, .int .i64 (a : Nat), .int .i64 (m : Nat), .int .i64 (b : Nat), .func (.func gd) #[] cb] w fun _ w' => RowD B w' (.slice A n c) (P ++ (V ++ (U ++ S))) ∧ Below B w w' := by
  have hln := rowD_n ho
  simp only [List.length_append] at hln
  refine callsV_of C_ok (args := [_, _, _, _, _]) (plans := []) Tryz.func256 rfl Tryz.ntmps256 (by kernel_rfl) (Nat.le_of_ble_eq_true rfl) ?_
  refine ⟨((U.length : Nat) : Int), by (try dsimp only); rw [fit ⟨by omega, by omega⟩]; omega, ?_⟩
  refine ⟨((V.length : Nat) : Int), by (try dsimp only); rw [fit ⟨by omega, by omega⟩]; omega, ?_⟩
  refine loopE C_ok (fun (p : List Due × List Due × List Due × List Due) => [(0, .slice A n c), (2, .int .i64 (m : Nat)), (4, .func (.func gd) #[] cb), (10, .int .i64 (p.2.1.length : Nat)), (11, .int .i64 (p.2.2.1.length : Nat))])
    (fun p w' => 0 < p.2.1.length ∧ 0 < p.2.2.1.length ∧ p.1.length + p.2.1.length = m ∧ p.1 ++ (p.2.2.1 ++ (p.2.1 ++ p.2.2.2)) = P ++ (V ++ (U ++ S)) ∧ RowD B w' (.slice A n c) (p.1 ++ (p.2.1 ++ (p.2.2.1 ++ p.2.2.2))) ∧ Below B w w') (fun p => p.2.1.length + p.2.2.1.length) (P, U, V, S) ⟨rfl, rfl, rfl, rfl, rfl, trivial⟩
    ⟨hU, hV, by show P.length + U.length = m; omega, rfl, ho, Below.refl _ _⟩ ?_
  rintro ⟨P1, U1, V1, S1⟩ w1 ⟨hu', hv', hl', he', ho', b1⟩
  have hu : 0 < U1.length := hu'
  have hv : 0 < V1.length := hv'
  have hl : P1.length + U1.length = m := hl'
  have he : P1 ++ (V1 ++ (U1 ++ S1)) = P ++ (V ++ (U ++ S)) := he'
  have ho1 : RowD B w1 (.slice A n c) (P1 ++ (U1 ++ (V1 ++ S1))) := ho'
  clear hu' hv' hl' he' ho'
  have hln1 := rowD_n ho1
  simp only [List.length_append] at hln1
  have mi : IntKind.i64.wrap (((m : Nat) : Int) - (U1.length : Nat)) = ((P1.length : Nat) : Int) := by (try dsimp only); rw [fit ⟨by omega, by omega⟩]; omega
  refine brE_ndec (fun hne => ?_) (fun heq => ?_)
  · have hne : ¬ ((U1.length : Nat) : Int) = (V1.length : Nat) := hne
    refine brE_dec (fun hgt => ?_) (fun hle => ?_)
    · have hgt : V1.length < U1.length := by have : ((U1.length : Nat) : Int) > (V1.length : Nat) := hgt; omega
      obtain ⟨Ua, hUa⟩ : ∃ Ua, Ua = U1.take V1.length := ⟨_, rfl⟩
      obtain ⟨Ub, hUb⟩ : ∃ Ub, Ub = U1.drop V1.length := ⟨_, rfl⟩
      have hUU : U1 = Ua ++ Ub := by rw [hUa, hUb, List.take_append_drop]
      have hal : Ua.length = V1.length := by rw [hUa, List.length_take]; omega
      have hbl : Ub.length = U1.length - V1.length := by rw [hUb, List.length_drop]
      refine ⟨((P1.length : Nat) : Int), mi, ?_⟩
      have ho2 : RowD B w1 (.slice A n c) (P1 ++ (Ua ++ (Ub ++ (V1 ++ S1)))) := by
        have : P1 ++ (Ua ++ (Ub ++ (V1 ++ S1))) = P1 ++ (U1 ++ (V1 ++ S1)) := by rw [hUU]; simp
        rw [this]; exact ho1
      refine (swapRange_spec (a := P1.length) (b := m) (k := V1.length) ho2 hn rfl (by omega) hal.symm hal.symm).mono ?_
      rintro v w2 ⟨ho3, b2⟩
      refine ⟨((Ub.length : Nat) : Int), by (try dsimp only); rw [fit ⟨by omega, by omega⟩]; omega, ?_⟩
      refine ⟨(P1 ++ V1, Ub, Ua, S1), ⟨rfl, rfl, rfl, rfl, by show some (Value.int IntKind.i64 (V1.length : Nat)) = some (Value.int IntKind.i64 (Ua.length : Nat)); rw [hal], trivial⟩, ⟨by show 0 < Ub.length; omega, by show 0 < Ua.length; omega, ?_, ?_, ?_, b1.trans b2⟩, by show Ub.length + Ua.length < U1.length + V1.length; omega⟩
      · show (P1 ++ V1).length + Ub.length = m
        rw [List.length_append]; omega
      · show (P1 ++ V1) ++ (Ua ++ (Ub ++ S1)) = _
        rw [← he, hUU]; simp
      · show RowD B w2 (.slice A n c) ((P1 ++ V1) ++ (Ub ++ (Ua ++ S1)))
        rw [List.append_assoc]; exact ho3
    · have hlt : U1.length < V1.length := by have : ¬ ((U1.length : Nat) : Int) > (V1.length : Nat) := hle; omega
      obtain ⟨Va, hVa⟩ : ∃ Va, Va = V1.take (V1.length - U1.length) := ⟨_, rfl⟩
      obtain ⟨Vb, hVb⟩ : ∃ Vb, Vb = V1.drop (V1.length - U1.length) := ⟨_, rfl⟩
      have hVV : V1 = Va ++ Vb := by rw [hVa, hVb, List.take_append_drop]
      have hal : Va.length = V1.length - U1.length := by rw [hVa, List.length_take]; omega
      have hbl : Vb.length = U1.length := by rw [hVb, List.length_drop]; omega
      refine ⟨((P1.length : Nat) : Int), mi, ?_⟩
      refine ⟨((m + V1.length : Nat) : Int), by (try dsimp only); exact fit ⟨by omega, by omega⟩, ?_⟩
      refine ⟨((m + V1.length - U1.length : Nat) : Int), by (try dsimp only); rw [fit ⟨by omega, by omega⟩]; omega, ?_⟩
      have ho2 : RowD B w1 (.slice A n c) (P1 ++ (U1 ++ (Va ++ (Vb ++ S1)))) := by
        have : P1 ++ (U1 ++ (Va ++ (Vb ++ S1))) = P1 ++ (U1 ++ (V1 ++ S1)) := by rw [hVV]; simp
        rw [this]; exact ho1
      refine (swapRange_spec (a := P1.length) (b := m + V1.length - U1.length) (k := U1.length) ho2 hn rfl (by omega) rfl hbl).mono ?_
      rintro v w2 ⟨ho3, b2⟩
      refine ⟨((Va.length : Nat) : Int), by (try dsimp only); rw [fit ⟨by omega, by omega⟩]; omega, ?_⟩
      refine ⟨(P1, Vb, Va, U1 ++ S1), ⟨rfl, rfl, rfl, by show some (Value.int IntKind.i64 (U1.length : Nat)) = some (Value.int IntKind.i64 (Vb.length : Nat)); rw [hbl], rfl, trivial⟩, ⟨by show 0 < Vb.length; omega, by show 0 < Va.length; omega, ?_, ?_, ?_, b1.trans b2⟩, by show Vb.length + Va.length < U1.length + V1.length; omega⟩
      · show P1.length + Vb.length = m
        omega
      · show P1 ++ (Va ++ (Vb ++ (U1 ++ S1))) = _
        rw [← he, hVV]; simp
      · show RowD B w2 (.slice A n c) (P1 ++ (Vb ++ (Va ++ (U1 ++ S1))))
        exact ho3
  · have heq : U1.length = V1.length := by have : ((U1.length : Nat) : Int) = (V1.length : Nat) := heq; omega
    refine ⟨((P1.length : Nat) : Int), mi, ?_⟩
    have ho2 : RowD B w1 (.slice A n c) (P1 ++ (U1 ++ ([] ++ (V1 ++ S1)))) := ho1
    refine (swapRange_spec (a := P1.length) (b := m) (k := U1.length) ho2 hn rfl (by simp; omega) rfl heq.symm).mono ?_
    rintro v w2 ⟨ho3, b2⟩
    rw [← he]
    exact ⟨ho3, b1.trans b2⟩
end Go.Proofs.YtcnbpfecgokhiaaGreatDoor
