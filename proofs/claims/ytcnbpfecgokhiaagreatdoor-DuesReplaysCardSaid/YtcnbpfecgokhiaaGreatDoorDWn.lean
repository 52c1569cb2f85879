/- Dues: how an entry is written. -/
import Derived.Test.YtcnbpfecgokhiaaGreatDoorDWe
import Derived.Test.YtcnbpfecgokhiaaGreatDoorDDa
set_option linter.unusedVariables false
set_option linter.unusedSimpArgs false
set_option linter.unnecessarySimpa false
set_option linter.unusedSectionVars false
namespace Go.Proofs.YtcnbpfecgokhiaaGreatDoor
open Go.Eng Go.RowKit

/-- The table that numbers are written by. -/
abbrev TabP (w : World) : Prop := Lib.TabIs Tryz.prog w "internal/strconv.uint64pow10" .u64 Lib.pow10Tab
theorem tabP_ext {w w' : World} (h : TabP w) (e : Ext w w') : TabP w' := var_ext h e
theorem Itoa6_spec (n : Int) (hn : In64 n) (w : World) (T : TabP w) : CallsV C.P 108 #[.int .i64 n] w fun v w' => v = .string ⟨(Lib.itoa n).toArray⟩ ∧ Ext w w' := by
  refine callsV_of_calls fun w₁ hs => ?_
  refine (Any.strconv_Itoa laysM171 n hn.1 hn.2 w₁ (var_same T hs)).mono ?_
  rintro e w' ⟨rfl, k, os, rfl⟩
  exact ⟨_, rfl, ⟨rfl, (ext_grow w₁ k os).same_left hs.symm⟩, Nat.le_add_right _ _⟩

abbrev tx (l : List UInt8) : ByteArray := ⟨l.toArray⟩
theorem tx_append (a b : List UInt8) : tx a ++ tx b = tx (a ++ b) := by
  apply ByteArray.ext
  simp
theorem addTx {t : Nat} (a b : List UInt8) (h : a.length + b.length ≤ 9223372036854775807) (w : World) : (binOp .add t (.string (tx a)) (.string (tx b))).run C.P w = .ok (.string (tx (a ++ b))) w := by
  have hs : (tx a).size + (tx b).size = a.length + b.length := by
    show a.toArray.size + b.toArray.size = _
    simp
  have hm : ¬ (((tx a).size + (tx b).size : Nat) : Int) > IntKind.i64.max := by
    rw [hs]
    show ¬ ((a.length + b.length : Nat) : Int) > 9223372036854775807
    omega
  show (Op.stringOp .add (tx a) (tx b)).run C.P w = _
  unfold Op.stringOp
  simp only [if_neg hm, tx_append, Sem.run_pure]

def verbL (k : Nat) : List UInt8 := match k with
  | 1 => [114, 97, 116, 101]
  | 2 => [99, 101, 105, 108, 105, 110, 103]
  | 3 => [103, 114, 97, 110, 116]
  | 4 => [101, 110, 100]
  | 5 => [111, 102, 102, 101, 114]
  | 6 => [116, 97, 107, 101]
  | 7 => [114, 101, 102, 117, 115, 101]
  | _ => []
theorem verbL_len (k : Nat) : (verbL k).length ≤ 7 := by
  unfold verbL
  split <;> decide
theorem verbs_spec (w : World) : CallsV C.P 109 #[] w fun v w' => ∃ g, v = .slice (some ⟨g, 0, none⟩) 8 8 ∧ w'.heap[g]? = some (.cells ((List.range 8).map fun k => Value.string (tx (verbL k))).toArray 9 (0, 0)) ∧ Ext w w' := by
  refine callsV_of C_ok (args := []) (plans := []) Tryz.func109 rfl Tryz.ntmps109 (by kernel_rfl) (Nat.le_of_ble_eq_true rfl) ?_
  intro g w1 h1
  have h1 : Alloc w g (.cells ((List.range 8).map fun k => Value.string (tx (verbL k))).toArray 9 (0, 0)) w1 := h1
  exact ⟨g, rfl, h1.here, h1.ext⟩

def valuesL (x : Entry) : List Int :=
  if x.kind = 1 ∨ x.kind = 2 then [x.a, x.n]
  else if x.kind = 3 then [x.w.id, x.w.signer, x.w.giver, x.w.taker, x.w.under, x.w.over, x.w.since, x.w.til]
  else if x.kind = 4 then [x.w.id]
  else if x.kind = 5 then [x.g.id, x.g.frm, x.g.to, x.g.cur, x.g.n, x.g.returns]
  else [x.g.id]

set_option maxRecDepth 100000 in
theorem values_spec (x : Entry) (hx : x.Nums) (w : World) : CallsV C.P 110 #[x.val] w fun v w' => (∃ g c, v = .slice (some ⟨g, 0, none⟩) (valuesL x).length c ∧ Reads w' (some ⟨g, 0, none⟩) (ints (valuesL x))) ∧ Ext w w' := by
  have hc := hx.g.cur
  refine callsV_of C_ok (args := [_]) (plans := plans110) Tryz.func110 rfl Tryz.ntmps110 (by kernel_rfl) (Nat.le_of_ble_eq_true rfl) ?_
  intro g1 w1 h1
  have M1 : Mem w w1 [(g1, .cells x.cells.toArray 39 (0, 0))] := (Mem.start w).alloc h1
  refine ⟨fun q => q = g1, ?_⟩
  refine ⟨x.w.cells, rfl, (M1.rd 0 rfl).part x.w_part, ?_⟩
  refine ⟨x.g.val, fun u hu => ⟨x.g.cells, rfl, hu.rd (D := fun q => q = g1) rfl ((M1.rd 0 rfl).part x.g_part), rfl⟩, ?_⟩
  refine ⟨?A, ?B⟩
  case' A =>
    intro g3 w2 h2
    refine ⟨h2.ext, ?_⟩
    have M2 := M1.alloc h2
    intro g4 w3 h3
    refine ⟨h3.ext, ?_⟩
    have M3 := M2.alloc h3
    have n31 : g3 ≠ g1 := by have := M2.nodup; simp at this; exact this
    refine ⟨rfl, _, _, M3.get 1 rfl, Nat.le_of_ble_eq_true rfl, rfl, ?_⟩
    intro w4 h4
    have M4 := M3.put 1 rfl h4
    refine ⟨(keep_ext (h2.ext.trans h3.ext)).put h4 n31, ?_⟩
    refine ⟨rfl, _, _, M4.get 0 rfl, Nat.le_of_ble_eq_true rfl, rfl, ?_⟩
    intro w5 h5
    have M5 : Mem w w5 [(g4, .cells x.g.cells.toArray 37 (0, 0)), (g3, .cells x.w.cells.toArray 35 (0, 0)), (g1, .cells x.cells.toArray 39 (0, 0))] := M4.put 0 rfl h5
    have hG := M5.get 0 rfl
    have hW := M5.get 1 rfl
    have hE := M5.get 2 rfl
    have ez := M5.ext
    clear M5 h5 M4 h4 M3 h3 M2 h2
  case' B =>
    intro g4 w2 h2
    refine ⟨h2.ext, ?_⟩
    have M2 := M1.alloc h2
    intro g3 w3 h3
    refine ⟨h3.ext, ?_⟩
    have M3 := M2.alloc h3
    have n31 : g3 ≠ g1 := by have := M3.nodup; simp at this; exact this.1.2
    refine ⟨rfl, _, _, M3.get 0 rfl, Nat.le_of_ble_eq_true rfl, rfl, ?_⟩
    intro w4 h4
    have M4 := M3.put 0 rfl h4
    refine ⟨(keep_ext (h2.ext.trans h3.ext)).put h4 n31, ?_⟩
    refine ⟨rfl, _, _, M4.get 1 rfl, Nat.le_of_ble_eq_true rfl, rfl, ?_⟩
    intro w5 h5
    have M5 : Mem w w5 [(g3, .cells x.w.cells.toArray 35 (0, 0)), (g4, .cells x.g.cells.toArray 37 (0, 0)), (g1, .cells x.cells.toArray 39 (0, 0))] := M4.put 1 rfl h5
    have hG := M5.get 1 rfl
    have hW := M5.get 0 rfl
    have hE := M5.get 2 rfl
    have ez := M5.ext
    clear M5 h5 M4 h4 M3 h3 M2 h2
  all_goals
    refine ⟨_, cell_of_block hE rfl, ?_⟩
    refine brE_dec (fun k1 => ?_) (fun k1 => ?_)
    · have hv : valuesL x = [x.a, x.n] := if_pos (.inl k1)
      refine brE_true (decide_eq_true k1) ?_
      refine ⟨_, cell_of_block (i := 21) hE rfl, ?_⟩
      refine ⟨_, cell_of_block (i := 23) hE rfl, ?_⟩
      intro g6 w6 h6
      rw [hv]
      exact ⟨⟨g6, 2, rfl, reads_block h6.here⟩, ez.trans h6.ext⟩
    have k1 : ¬ x.kind = 1 := k1
    refine brE_dec (fun k2 => ?_) (fun k2 => ?_)
    · have hv : valuesL x = [x.a, x.n] := if_pos (.inr k2)
      refine ⟨_, cell_of_block (i := 21) hE rfl, ?_⟩
      refine ⟨_, cell_of_block (i := 23) hE rfl, ?_⟩
      intro g6 w6 h6
      rw [hv]
      exact ⟨⟨g6, 2, rfl, reads_block h6.here⟩, ez.trans h6.ext⟩
    have k2 : ¬ x.kind = 2 := k2
    have k12 : ¬ (x.kind = 1 ∨ x.kind = 2) := fun h => h.elim k1 k2
    refine brE_dec (fun k3 => ?_) (fun k3 => ?_)
    · have k3 : x.kind = 3 := k3
      have hv : valuesL x = [x.w.id, x.w.signer, x.w.giver, x.w.taker, x.w.under, x.w.over, x.w.since, x.w.til] := by unfold valuesL; rw [if_neg k12, if_pos k3]
      refine ⟨_, cell_of_block (i := 0) hW rfl, ?_⟩
      refine ⟨_, cell_of_block (i := 2) hW rfl, ?_⟩
      refine ⟨_, cell_of_block (i := 3) hW rfl, ?_⟩
      refine ⟨_, cell_of_block (i := 4) hW rfl, ?_⟩
      refine ⟨_, cell_of_block (i := 5) hW rfl, ?_⟩
      refine ⟨_, cell_of_block (i := 6) hW rfl, ?_⟩
      refine ⟨_, cell_of_block (i := 7) hW rfl, ?_⟩
      refine ⟨_, cell_of_block (i := 8) hW rfl, ?_⟩
      intro g6 w6 h6
      rw [hv]
      exact ⟨⟨g6, 8, rfl, reads_block h6.here⟩, ez.trans h6.ext⟩
    have k3 : ¬ x.kind = 3 := k3
    refine brE_dec (fun k4 => ?_) (fun k4 => ?_)
    · have k4 : x.kind = 4 := k4
      have hv : valuesL x = [x.w.id] := by unfold valuesL; rw [if_neg k12, if_neg k3, if_pos k4]
      refine ⟨_, cell_of_block (i := 0) hW rfl, ?_⟩
      intro g6 w6 h6
      rw [hv]
      exact ⟨⟨g6, 1, rfl, reads_block h6.here⟩, ez.trans h6.ext⟩
    have k4 : ¬ x.kind = 4 := k4
    refine brE_dec (fun k5 => ?_) (fun k5 => ?_)
    · have k5 : x.kind = 5 := k5
      have hv : valuesL x = [x.g.id, x.g.frm, x.g.to, x.g.cur, x.g.n, x.g.returns] := by unfold valuesL; rw [if_neg k12, if_neg k3, if_neg k4, if_pos k5]
      refine ⟨_, cell_of_block (i := 0) hG rfl, ?_⟩
      refine ⟨_, cell_of_block (i := 2) hG rfl, ?_⟩
      refine ⟨_, cell_of_block (i := 3) hG rfl, ?_⟩
      refine ⟨_, cell_of_block (i := 4) hG rfl, ?_⟩
      refine ⟨x.g.cur, fit ⟨by omega, by omega⟩, ?_⟩
      refine ⟨_, cell_of_block (i := 5) hG rfl, ?_⟩
      refine ⟨_, cell_of_block (i := 9) hG rfl, ?_⟩
      intro g6 w6 h6
      rw [hv]
      exact ⟨⟨g6, 6, rfl, reads_block h6.here⟩, ez.trans h6.ext⟩
    have k5 : ¬ x.kind = 5 := k5
    have hv : valuesL x = [x.g.id] := by unfold valuesL; rw [if_neg k12, if_neg k3, if_neg k4, if_neg k5]
    refine ⟨_, cell_of_block (i := 0) hG rfl, ?_⟩
    intro g6 w6 h6
    rw [hv]
    exact ⟨⟨g6, 1, rfl, reads_block h6.here⟩, ez.trans h6.ext⟩

theorem values_nums {x : Entry} (hx : x.Nums) : ∀ n ∈ valuesL x, In64 n := by
  have hc := hx.g.cur
  have hc2 : In64 x.g.cur := ⟨by omega, by omega⟩
  intro n hn
  unfold valuesL at hn
  split at hn
  · simp at hn; rcases hn with rfl | rfl
    · exact hx.a
    · exact hx.n
  split at hn
  · simp at hn; rcases hn with rfl | rfl | rfl | rfl | rfl | rfl | rfl | rfl
    · exact hx.w.id
    · exact hx.w.signer
    · exact hx.w.giver
    · exact hx.w.taker
    · exact hx.w.under
    · exact hx.w.over
    · exact hx.w.since
    · exact hx.w.til
  split at hn
  · simp at hn; rw [hn]; exact hx.w.id
  split at hn
  · simp at hn; rcases hn with rfl | rfl | rfl | rfl | rfl | rfl
    · exact hx.g.id
    · exact hx.g.frm
    · exact hx.g.to
    · exact hc2
    · exact hx.g.n
    · exact hx.g.returns
  · simp at hn; rw [hn]; exact hx.g.id
theorem values_len (x : Entry) : (valuesL x).length ≤ 8 := by
  unfold valuesL
  split
  · simp
  split
  · simp
  split
  · simp
  split <;> simp

def numL (n : Int) : List UInt8 := 32 :: Lib.itoa n
def headL (x : Entry) : List UInt8 := Lib.itoa x.day ++ [32] ++ verbL x.kind.toNat
def entryL (x : Entry) : List UInt8 := headL x ++ (valuesL x).flatMap numL
theorem nums_len : ∀ (l : List Int), (∀ n ∈ l, In64 n) → (l.flatMap numL).length ≤ l.length * 22
  | [], _ => by simp
  | n :: r, h => by
    have h1 := h n (by simp)
    have := Lib.itoa_length_le n h1.1 h1.2
    have := nums_len r fun m hm => h m (by simp [hm])
    have hl : (numL n).length = (Lib.itoa n).length + 1 := rfl
    rw [List.flatMap_cons, List.length_append, List.length_cons, Nat.add_mul, hl]
    omega

set_option maxRecDepth 100000 in
theorem Write6_spec (x : Entry) (hx : x.Nums) (w : World) (T : TabP w) :
    CallsV C.P 60 #[x.val] w fun v w' => v = .tuple #[.string (tx (if formX x = true then entryL x else [])), .int .i64 (if formX x = true then 0 else 1)] ∧ Ext w w' := by
  refine callsV_of C_ok (args := [_]) (plans := plans60) Tryz.func60 rfl Tryz.ntmps60 (by kernel_rfl) (Nat.le_of_ble_eq_true rfl) ?_
  intro g1 w1 h1
  have M1 : Mem w w1 [(g1, .cells x.cells.toArray 39 (0, 0))] := (Mem.start w).alloc h1
  refine ⟨x.cells, rfl, M1.rd 0 rfl, ?_⟩
  refine (formed_spec x hx w1).mono ?_
  rintro v w2 ⟨rfl, e2⟩
  have M2 := M1.grow e2
  refine brE_mk (fun c1 => ?_) (fun c1 => ?_)
  · have c1 : formX x = false := by simpa using c1
    rw [if_neg (by rw [c1]; decide), if_neg (by rw [c1]; decide)]
    exact ⟨rfl, M2.ext⟩
  have c1 : formX x = true := by simpa using c1
  rw [if_pos c1, if_pos c1]
  have hkind := ok_kind (form_okE c1).1
  have hday := Lib.itoa_length_le x.day hx.day.1 hx.day.2
  have hvl := verbL_len x.kind.toNat
  refine ⟨_, M2.cell 0 rfl rfl, ?_⟩
  refine ⟨_, M2.cell 0 rfl rfl, ?_⟩
  refine (Itoa6_spec x.day hx.day w2 (tabP_ext T M2.ext)).mono ?_
  rintro v w3 ⟨rfl, e3⟩
  refine ⟨e3, ?_⟩
  refine ⟨_, addTx (Lib.itoa x.day) [32] (by simp; omega), ⟨by decide, by decide⟩, ?_⟩
  refine (verbs_spec w3).mono ?_
  rintro v w4 ⟨g4, rfl, hg4, e4⟩
  refine ⟨e4, ?_⟩
  have hk8 : x.kind.toNat < 8 := by omega
  refine ⟨x.kind.toNat, g4, 0, by omega, hk8, rfl, ?_⟩
  refine ⟨.string (tx (verbL x.kind.toNat)), by
    show w4.cell? ⟨g4, 0 + x.kind.toNat * 1, none⟩ = _
    rw [Nat.zero_add, Nat.mul_one]
    refine cell_of_block hg4 ?_
    simp [hk8], ?_⟩
  refine ⟨_, addTx (Lib.itoa x.day ++ [32]) (verbL x.kind.toNat) (by simp; omega), ⟨by decide, by decide⟩, ?_⟩
  have M4 := (M2.grow e3).grow e4
  refine ⟨x.cells, rfl, M4.rd 0 rfl, ?_⟩
  refine (values_spec x hx w4).mono ?_
  rintro v w5 ⟨⟨g5, c5, rfl, hr5⟩, e5⟩
  have M5 := M4.grow e5
  have hnums := values_nums hx
  have hlen := values_len x
  have hhl : (headL x).length ≤ 30 := by unfold headL; simp; omega
  have hfin : entryL x = headL x ++ (valuesL x).flatMap numL := rfl
  generalize valuesL x = vs at *
  refine loopE C_ok (fun (p : Nat × List UInt8) => [(4, .string (tx p.2)), (21, .slice (some ⟨g5, 0, none⟩) vs.length c5), (22, .int .i64 vs.length), (23, .int .i64 (p.1 : Nat))])
    (fun p w' => p.1 ≤ vs.length ∧ p.2 = headL x ++ (vs.take p.1).flatMap numL ∧ Ext w5 w') (fun p => vs.length - p.1) (0, headL x) ⟨rfl, rfl, rfl, rfl, trivial⟩ ⟨Nat.zero_le _, by simp, Ext.refl _⟩ ?_
  rintro ⟨i, s⟩ w6 ⟨hi', hs', e6⟩
  have hi : i ≤ vs.length := hi'
  have hs : s = headL x ++ (vs.take i).flatMap numL := hs'
  clear hi' hs'
  refine brE_dec (fun hlt => ?_) (fun hge => ?_)
  · have hlt : i < vs.length := by have : (i : Int) < (vs.length : Nat) := hlt; omega
    obtain ⟨b, o, hA, hc⟩ := Reads.int (hr5.ext e6) hlt
    cases hA
    have h64 := hnums vs[i] (List.getElem_mem hlt)
    have hl1 := Lib.itoa_length_le vs[i] h64.1 h64.2
    have hl2 := nums_len (vs.take i) fun n hn => hnums n (List.mem_of_mem_take hn)
    rw [List.length_take] at hl2
    have hsl : s.length ≤ 400 := by rw [hs, List.length_append]; omega
    refine ⟨i, g5, 0, rfl, hlt, rfl, ?_⟩
    refine ⟨.int .i64 vs[i], by simpa using hc, ?_⟩
    refine (Itoa6_spec vs[i] h64 w6 (tabP_ext T (M5.ext.trans e6))).mono ?_
    rintro v w7 ⟨rfl, e7⟩
    refine ⟨_, addTx [32] (Lib.itoa vs[i]) (by simp; omega), ⟨by decide, by decide⟩, ?_⟩
    refine ⟨_, addTx s ([32] ++ Lib.itoa vs[i]) (by simp; omega), ⟨by decide, by decide⟩, ?_⟩
    refine ⟨((i + 1 : Nat) : Int), fit ⟨by omega, by omega⟩, ?_⟩
    refine ⟨(i + 1, s ++ ([32] ++ Lib.itoa vs[i])), ⟨rfl, rfl, rfl, rfl, trivial⟩, ⟨hlt, ?_, e6.trans e7⟩, by show vs.length - (i + 1) < vs.length - i; omega⟩
    show s ++ ([32] ++ Lib.itoa vs[i]) = _
    rw [List.take_succ_eq_append_getElem hlt, List.flatMap_append, hs]
    simp [numL]
  · have hi : i = vs.length := by have : ¬ (i : Int) < (vs.length : Nat) := hge; omega
    rw [hi, List.take_length] at hs
    rw [hfin, ← hs]
    exact ⟨rfl, M5.ext.trans e6⟩

end Go.Proofs.YtcnbpfecgokhiaaGreatDoor
