/- a part of the proof: steps, walks and plain laws that the law below stands on; no condition. -/
import Derived.Test.YtcnbpfecgokhiaaGreatDoorDYc
import Derived.Test.YtcnbpfecgokhiaaGreatDoorRows
import Derived.Test.YtcnbpfecgokhiaaGreatDoorCards
import Derived.Test.YtcnbpfecgokhiaaGreatDoorTie
import Derived.ProofKit
import Derived.Lib.SmallJoins
import Derived.Deep.Slices
import Derived.Deep.SlicePairs
import Derived.SizedLaws
import Derived.ChangeSame
import Derived.ChangeVars
import Derived.ChangeMaps5
import Derived.JoinedOf
import Derived.JoinedAt
import Derived.RowKit
import Derived.RowKit3
import Derived.RowKitTokens
import Derived.LaidLaws
import Derived.Stop.LaidErr
import Derived.Lib.LaidTab
import Derived.SevenTiedAt
import Derived.Carry
set_option linter.unusedVariables false
set_option linter.unusedSimpArgs false
set_option linter.unnecessarySimpa false
set_option linter.unusedSectionVars false
namespace Go.Proofs.YtcnbpfecgokhiaaGreatDoor
open Go.Eng Go.RowKit Go.ChangeShapes Go.WideShapes Go.ChangeAt
open Go.ChangeMaps (open_string shut_string)

theorem own : ownKnob Tryz.prog.godebug = none := by kernel_rfl
theorem cells3 : Tryz.prog.cellsOf 3 = 1 := by kernel_rfl
theorem cells5 : Tryz.prog.cellsOf 5 = 1 := by kernel_rfl
theorem cells9 : Tryz.prog.cellsOf 9 = 1 := by kernel_rfl
theorem cellsF : Tryz.prog.cellsOf 81 = 9 := by kernel_rfl
theorem recFs : Tryz.prog.readableRec 22 = true := by kernel_rfl
theorem rowFs : (22 : TypeId) < Tryz.prog.types.size := of_decide_eq_true (by kernel_rfl)
theorem recF : Tryz.prog.readableRec 81 = true := by kernel_rfl
theorem rowF : (81 : TypeId) < Tryz.prog.types.size := of_decide_eq_true (by kernel_rfl)
theorem rec3 : Tryz.prog.readableRec 3 = true := by kernel_rfl
theorem row3 : (3 : TypeId) < Tryz.prog.types.size := of_decide_eq_true (by kernel_rfl)
theorem rec9 : Tryz.prog.readableRec 9 = true := by kernel_rfl
theorem row9 : (9 : TypeId) < Tryz.prog.types.size := of_decide_eq_true (by kernel_rfl)

theorem wf_u8 {a : Int} (h : (Lit.int .u8 a).wf = true) : 0 ≤ a ∧ a ≤ 255 := by
  simp [Lit.wf, IntKind.min, IntKind.max, IntKind.bits, IntKind.signed] at h
  omega
theorem list9 {l : List Value} (h : l.length = 9) : ∃ a b c d e f g h' i, l = [a, b, c, d, e, f, g, h', i] := by
  match l, h with
  | [a, b, c, d, e, f, g, h', i], _ => exact ⟨a, b, c, d, e, f, g, h', i, rfl⟩

/-! ### what is laid -/
theorem gPow : Tryz.prog.globalNamed "internal/strconv.uint64pow10" = some 3 := by kernel_rfl
theorem gPowT : (Tryz.prog.globals[3]?).map (·.type) = some 258 := by kernel_rfl
theorem gSyn : Tryz.prog.globalNamed "strconv.ErrSyntax" = some 1 := by kernel_rfl
theorem gSynT : (Tryz.prog.globals[1]?).map (·.type) = some 163 := by kernel_rfl
theorem gRng : Tryz.prog.globalNamed "strconv.ErrRange" = some 2 := by kernel_rfl
theorem gRngT : (Tryz.prog.globals[2]?).map (·.type) = some 163 := by kernel_rfl
theorem cells64 : Tryz.prog.cellsOf 236 = 1 := by kernel_rfl
theorem cells20 : Tryz.prog.cellsOf 258 = 20 := by kernel_rfl
theorem cellsES : Tryz.prog.cellsOf 268 = 1 := by kernel_rfl
theorem star : "*" ++ "errors.errorString" = "*errors.errorString" := by decide
theorem rowES (u : TypeId) (h : Tryz.prog.typeName? 3 u = some "*errors.errorString") : u = 266 :=
  typeName_ptr_named (nm := "errors.errorString") (by rw [star]; kernel_rfl) (by kernel_rfl) (by decide) u (by rw [star]; exact h)
theorem pow_data : (Rows.laid_internal_strconv_uint64pow10 : DataW Unit) = Lib.tabData .u64 Lib.pow10Tab := by kernel_rfl

abbrev laidL : List (String × DataW Unit) := Rows.duesRunsRow.laid
theorem tabs_of_laid {W : World} (h : laidMet Tryz.prog laidL W) : TabP W := by
  have h2 : laidMet Tryz.prog (("internal/strconv.uint64pow10", Lib.tabData .u64 Lib.pow10Tab) :: laidL.tail.tail.tail) W := by
    rw [← pow_data]; exact h.tail.tail
  exact Lib.tabIs_of_head gPow gPowT Tryz.underlying258 Tryz.underlying236 cells64 cells20 h2

abbrev synS : ByteArray := ⟨#[105, 110, 118, 97, 108, 105, 100, 32, 115, 121, 110, 116, 97, 120]⟩
abbrev rngS : ByteArray := ⟨#[118, 97, 108, 117, 101, 32, 111, 117, 116, 32, 111, 102, 32, 114, 97, 110, 103, 101]⟩
/-- So many blocks has the settled world. -/
noncomputable def low : Nat := (World.holding Tryz.prog default ⟨#[], #[], []⟩).heap.size
def litCells : DataW Unit → Array Value
  | .agg ds => (ds.map fun d => match d with | .lit (.int k n) => Value.int k n | _ => undef).toArray
  | _ => #[]
def setCells (cs : Array Value) : Obj → Obj
  | .cells _ t frozen => .cells cs t frozen
  | o => o
/-- A world that meets the condition. -/
noncomputable def laidWorld (os : Os) : World :=
  let w0 := World.holding Tryz.prog os ⟨#[.cells #[.string synS] 268, .cells #[.string rngS] 268], #[], []⟩
  { w0 with heap := ((((w0.heap.modify 1 (setCells #[.iface 266 (.pointer (some ⟨low, 0, none⟩))])).modify 2 (setCells #[.iface 266 (.pointer (some ⟨low + 1, 0, none⟩))])).modify 3 (setCells (litCells Rows.laid_internal_strconv_uint64pow10))).modify 4 (setCells (litCells Rows.laid_math_bits_deBruijn32tab))).modify 5 (setCells (litCells Rows.laid_math_bits_deBruijn64tab)) }
theorem laidWorld_met (os : Os) (args : Array Value) : laidMet Tryz.prog laidL ((laidWorld os).forCall (fun _ _ => 0) ⟨#[], args, []⟩).memory :=
  laidMet_of_run' 8 (by kernel_rfl) (by kernel_rfl)

section
variable {H : Type} {enc : TypeId × Value → H} {W : World}

set_option maxRecDepth 100000 in
/-- One fact: its cells. -/
theorem open_fcells {base n : Nat} {spare : Nat → Bool} {held : Bool} {cs : List Value} {x : DataW H × List MemPlace} (h : DataW.trod enc Tryz.prog W base spare held n 81 cs = some x) :
    ∃ y : Fact, cs = y.cells ∧ y.Nums := by
  obtain ⟨xs, n', _, _, hlen, hxs, hg⟩ := DataW.trod_struct underF h
  rw [cellsF] at hlen
  obtain ⟨a0, a1, a2, a3, a4, a5, a6, a7, a8, rfl⟩ := list9 hlen
  have some9 : ∀ i, i < 9 → ∃ y, xs[i]? = some y := fun i hi => ⟨_, List.getElem?_eq_getElem (by rw [hxs]; exact hi)⟩
  have get3 : ∀ (i : Nat) (u : Value) (f : Field), (#[⟨ "Id", 3, 0, false, "", "", 0⟩, ⟨ "Known", 3, 1, false, "", "", 8⟩, ⟨ "Kind", 5, 2, false, "", "", 16⟩, ⟨ "Who", 3, 3, false, "", "", 24⟩, ⟨ "What", 3, 4, false, "", "", 32⟩, ⟨ "Other", 3, 5, false, "", "", 40⟩, ⟨ "Since", 3, 6, false, "", "", 48⟩, ⟨ "Until", 3, 7, false, "", "", 56⟩, ⟨ "Name", 9, 8, false, "", "", 64⟩] : Array Field)[i]? = some f → f.type = 3 → i < 9 →
      ((([a0, a1, a2, a3, a4, a5, a6, a7, a8] : List Value).drop f.offset).take 1) = [u] → ∃ z : Int, u = .int .i64 z ∧ In64 z := by
    intro i u f hi h3 hi9 hu
    have := hg i f hi
    rw [h3, cells3, hu] at this
    obtain ⟨y, hy⟩ := some9 i hi9
    rw [hy] at this
    obtain ⟨z, e1, _, wz⟩ := DataW.trod_int under3 this
    simp at e1
    exact ⟨z, e1, wf_in64 wz⟩
  obtain ⟨z0, rfl, w0⟩ := get3 0 a0 _ rfl rfl (by omega) rfl
  obtain ⟨z1, rfl, w1⟩ := get3 1 a1 _ rfl rfl (by omega) rfl
  obtain ⟨z3, rfl, w3⟩ := get3 3 a3 _ rfl rfl (by omega) rfl
  obtain ⟨z4, rfl, w4⟩ := get3 4 a4 _ rfl rfl (by omega) rfl
  obtain ⟨z5, rfl, w5⟩ := get3 5 a5 _ rfl rfl (by omega) rfl
  obtain ⟨z6, rfl, w6⟩ := get3 6 a6 _ rfl rfl (by omega) rfl
  obtain ⟨z7, rfl, w7⟩ := get3 7 a7 _ rfl rfl (by omega) rfl
  have h2 : DataW.trod enc Tryz.prog W base spare held n' 5 ((([.int .i64 z0, .int .i64 z1, a2, .int .i64 z3, .int .i64 z4, .int .i64 z5, .int .i64 z6, .int .i64 z7, a8] : List Value).drop 2).take (Tryz.prog.cellsOf 5)) = xs[2]? := hg 2 ⟨ "Kind", 5, 2, false, "", "", 16⟩ rfl
  have h8 : DataW.trod enc Tryz.prog W base spare held n' 9 ((([.int .i64 z0, .int .i64 z1, a2, .int .i64 z3, .int .i64 z4, .int .i64 z5, .int .i64 z6, .int .i64 z7, a8] : List Value).drop 8).take (Tryz.prog.cellsOf 9)) = xs[8]? := hg 8 ⟨ "Name", 9, 8, false, "", "", 64⟩ rfl
  obtain ⟨y2, hy2⟩ := some9 2 (by omega)
  obtain ⟨y8, hy8⟩ := some9 8 (by omega)
  rw [cells5, hy2] at h2
  rw [cells9, hy8] at h8
  obtain ⟨z2, e2, _, w2⟩ := DataW.trod_int under5 h2
  obtain ⟨s8, e8, _, w8⟩ := DataW.trod_string under9 h8
  simp at e2 e8
  subst e2 e8
  exact ⟨⟨z0, z1, z2, z3, z4, z5, z6, z7, s8⟩, rfl, ⟨w0, w1, wf_u8 w2, w3, w4, w5, w6, w7, by simpa [maxLen] using w8⟩⟩

set_option maxRecDepth 100000 in
theorem open_fact {v : Value} {d : DataW H} {p : List MemPlace} {b0 : Nat} (hv : Value.okWide Tryz.prog W .any b0 81 v) (h : DataW.Trod enc Tryz.prog W 0 (fun _ => true) true 81 v d p) :
    ∃ y : Fact, v = y.val ∧ y.Nums := by
  obtain ⟨cs, rfl, hsz⟩ := okWide_struct underF hv
  obtain ⟨fuel, hf⟩ := h
  obtain ⟨y, hy, hn⟩ := open_fcells hf
  refine ⟨y, ?_, hn⟩
  show Value.agg cs = Value.agg _
  congr 1
  apply Array.ext'
  exact hy

theorem fcells_range (f : Nat → Fact) (n i : Nat) (v : Value) (h : (fcells ((List.range n).map f))[i]? = some v) : ∃ k j, k < n ∧ j < 9 ∧ i = k * 9 + j ∧ (f k).cells[j]? = some v := by
  have hl := fcells_length ((List.range n).map f)
  have hi := (List.getElem?_eq_some_iff.1 h).1
  rw [hl] at hi
  simp at hi
  have hk : i / 9 < ((List.range n).map f).length := by simp; omega
  have hj : i % 9 < 9 := Nat.mod_lt _ (by omega)
  refine ⟨i / 9, i % 9, by simpa using hk, hj, by omega, ?_⟩
  have := flat_get Fact.len ((List.range n).map f) (i / 9) (i % 9) hk hj
  rw [show i / 9 * 9 + i % 9 = i by omega] at this
  have h2 : ((List.range n).map f).flatMap Fact.cells = fcells ((List.range n).map f) := rfl
  rw [h2, h] at this
  rw [this]
  simp

set_option maxRecDepth 100000 in
theorem open_facts {v : Value} {d : DataW H} {p : List MemPlace} {b0 : Nat} (hv : Value.okWide Tryz.prog W .any b0 22 v) (h : DataW.Trod enc Tryz.prog W 0 (fun _ => true) true 22 v d p) :
    ∃ A l c, v = .slice A l.length c ∧ HF W A l c := by
  obtain ⟨a0, len0, cap0, rfl⟩ := okWide_slice underFs hv
  obtain ⟨fuel, hf⟩ := h
  rcases Deep.open_slice underFs hf with ⟨e1, _⟩ | ⟨a, len, cap, m, n, D, Pl, e1, hb, hl, hm, hmm, _, hx⟩
  · simp [Value.cells] at e1
    obtain ⟨rfl, rfl, rfl⟩ := e1
    exact ⟨none, [], 0, rfl, by simp, .inl rfl, Nat.le_refl _, by simp⟩
  · simp [Value.cells] at e1
    obtain ⟨rfl, rfl, rfl⟩ := e1
    have hmm : m = cap0 := by simpa using hmm
    subst hmm
    rw [cellsF] at hx
    obtain ⟨f, hf2⟩ := Deep.choose_lt (p := fun i (y : Fact) => W.cells? 0 (a.add (i * 9)) 9 = some y.cells ∧ y.Nums) (fun i hi => by
      obtain ⟨cs', h1, h2⟩ := hx i hi
      obtain ⟨y, rfl, hy⟩ := open_fcells h2
      exact ⟨y, h1, hy⟩)
    have hlen : ((List.range len0).map f).length = len0 := by simp
    refine ⟨some a, (List.range len0).map f, m, by rw [hlen], ?_, ?_, by rw [hlen]; exact hl, by rw [hlen]; simp only [maxLen] at hm; omega⟩
    · intro x hx
      obtain ⟨i, hi, rfl⟩ := List.mem_map.1 hx
      exact (hf2 i (by have := List.mem_range.1 hi; omega)).2
    · by_cases h0 : len0 = 0
      · subst h0; exact .inl rfl
      · have hc : ∀ i < len0, ∀ j < 9, W.cell? ((a.add (i * 9)).add j) = (f i).cells[j]? := fun i hi j hj => (World.cells?_some (hf2 i (by omega)).1).2.2 j hj
        have hs : a.spot = none := by
          have := hc 0 (by omega) 0 (by omega)
          have h2 : W.cell? ((a.add (0 * 9)).add 0) = some (.int .i64 (f 0).id) := this
          unfold World.cell? at h2
          cases hsp : a.spot with
          | none => rfl
          | some s =>
            have ea : (a.add (0 * 9)).add 0 = a := rfl
            rw [ea] at h2
            simp only [hsp] at h2
            split at h2 <;> simp at h2
        obtain ⟨b, o, sp⟩ := a
        simp only at hs
        subst hs
        refine .inr ⟨b, o, rfl, fun i v hv => ?_⟩
        obtain ⟨k, j, hk, hj, rfl, hg⟩ := fcells_range f len0 i v hv
        have := hc k hk j hj
        rw [hg] at this
        rw [← this]
        rw [add_spot, add_spot, Nat.add_assoc]

theorem dropSplit {α : Type} (l : List α) (i k : Nat) : l.drop i = (l.drop i).take k ++ l.drop (i + k) := by
  rw [← List.drop_drop]; exact (List.take_append_drop k (l.drop i)).symm
theorem open_i3 {base n : Nat} {spare : Nat → Bool} {held : Bool} {cs : List Value} {x : DataW H × List MemPlace} (h : DataW.trod enc Tryz.prog W base spare held n 3 cs = some x) : ∃ z : Int, cs = [.int .i64 z] ∧ In64 z := by
  obtain ⟨z, e, _, wz⟩ := DataW.trod_int under3 h
  exact ⟨z, e, wf_in64 wz⟩
theorem open_i5 {base n : Nat} {spare : Nat → Bool} {held : Bool} {cs : List Value} {x : DataW H × List MemPlace} (h : DataW.trod enc Tryz.prog W base spare held n 5 cs = some x) : ∃ z : Int, cs = [.int .u8 z] ∧ 0 ≤ z ∧ z ≤ 255 := by
  obtain ⟨z, e, _, wz⟩ := DataW.trod_int under5 h
  exact ⟨z, e, wf_u8 wz⟩

theorem cellsW : Tryz.prog.cellsOf 35 = 9 := by kernel_rfl
theorem recW6 : Tryz.prog.readableRec 35 = true := by kernel_rfl
theorem rowW6 : (35 : TypeId) < Tryz.prog.types.size := of_decide_eq_true (by kernel_rfl)
theorem open_cW {base n : Nat} {spare : Nat → Bool} {held : Bool} {cs : List Value} {x : DataW H × List MemPlace} (h : DataW.trod enc Tryz.prog W base spare held n 35 cs = some x) : ∃ y : Waiv, cs = y.cells ∧ y.Nums := by
  obtain ⟨xs, n', _, _, hlen, hxs, hg⟩ := DataW.trod_struct underW h
  rw [cellsW] at hlen
  have some_ : ∀ i, i < 9 → ∃ y, xs[i]? = some y := fun i hi => ⟨_, List.getElem?_eq_getElem (by rw [hxs]; exact hi)⟩
  have f0 : DataW.trod enc Tryz.prog W base spare held n' 3 ((cs.drop 0).take (Tryz.prog.cellsOf 3)) = xs[0]? := hg 0 _ rfl
  obtain ⟨y0, hy0⟩ := some_ 0 (by omega)
  rw [hy0, cells3] at f0
  obtain ⟨z0, e0, n0⟩ := open_i3 f0
  have f1 : DataW.trod enc Tryz.prog W base spare held n' 3 ((cs.drop 1).take (Tryz.prog.cellsOf 3)) = xs[1]? := hg 1 _ rfl
  obtain ⟨y1, hy1⟩ := some_ 1 (by omega)
  rw [hy1, cells3] at f1
  obtain ⟨z1, e1, n1⟩ := open_i3 f1
  have f2 : DataW.trod enc Tryz.prog W base spare held n' 3 ((cs.drop 2).take (Tryz.prog.cellsOf 3)) = xs[2]? := hg 2 _ rfl
  obtain ⟨y2, hy2⟩ := some_ 2 (by omega)
  rw [hy2, cells3] at f2
  obtain ⟨z2, e2, n2⟩ := open_i3 f2
  have f3 : DataW.trod enc Tryz.prog W base spare held n' 3 ((cs.drop 3).take (Tryz.prog.cellsOf 3)) = xs[3]? := hg 3 _ rfl
  obtain ⟨y3, hy3⟩ := some_ 3 (by omega)
  rw [hy3, cells3] at f3
  obtain ⟨z3, e3, n3⟩ := open_i3 f3
  have f4 : DataW.trod enc Tryz.prog W base spare held n' 3 ((cs.drop 4).take (Tryz.prog.cellsOf 3)) = xs[4]? := hg 4 _ rfl
  obtain ⟨y4, hy4⟩ := some_ 4 (by omega)
  rw [hy4, cells3] at f4
  obtain ⟨z4, e4, n4⟩ := open_i3 f4
  have f5 : DataW.trod enc Tryz.prog W base spare held n' 3 ((cs.drop 5).take (Tryz.prog.cellsOf 3)) = xs[5]? := hg 5 _ rfl
  obtain ⟨y5, hy5⟩ := some_ 5 (by omega)
  rw [hy5, cells3] at f5
  obtain ⟨z5, e5, n5⟩ := open_i3 f5
  have f6 : DataW.trod enc Tryz.prog W base spare held n' 3 ((cs.drop 6).take (Tryz.prog.cellsOf 3)) = xs[6]? := hg 6 _ rfl
  obtain ⟨y6, hy6⟩ := some_ 6 (by omega)
  rw [hy6, cells3] at f6
  obtain ⟨z6, e6, n6⟩ := open_i3 f6
  have f7 : DataW.trod enc Tryz.prog W base spare held n' 3 ((cs.drop 7).take (Tryz.prog.cellsOf 3)) = xs[7]? := hg 7 _ rfl
  obtain ⟨y7, hy7⟩ := some_ 7 (by omega)
  rw [hy7, cells3] at f7
  obtain ⟨z7, e7, n7⟩ := open_i3 f7
  have f8 : DataW.trod enc Tryz.prog W base spare held n' 3 ((cs.drop 8).take (Tryz.prog.cellsOf 3)) = xs[8]? := hg 8 _ rfl
  obtain ⟨y8, hy8⟩ := some_ 8 (by omega)
  rw [hy8, cells3] at f8
  obtain ⟨z8, e8, n8⟩ := open_i3 f8
  have hc : cs = (cs.drop 0).take 1 ++ ((cs.drop 1).take 1 ++ ((cs.drop 2).take 1 ++ ((cs.drop 3).take 1 ++ ((cs.drop 4).take 1 ++ ((cs.drop 5).take 1 ++ ((cs.drop 6).take 1 ++ ((cs.drop 7).take 1 ++ ((cs.drop 8).take 1 ++ cs.drop 9)))))))) := by
    have h0 : cs = cs.drop 0 := rfl
    have h1 := dropSplit cs 0 1
    have h2 := dropSplit cs 1 1
    have h3 := dropSplit cs 2 1
    have h4 := dropSplit cs 3 1
    have h5 := dropSplit cs 4 1
    have h6 := dropSplit cs 5 1
    have h7 := dropSplit cs 6 1
    have h8 := dropSplit cs 7 1
    have h9 := dropSplit cs 8 1
    conv => lhs; rw [h0, h1]
    rw [show 0 + 1 = 1 from rfl]
    conv => lhs; rw [h2]
    rw [show 1 + 1 = 2 from rfl]
    conv => lhs; rw [h3]
    rw [show 2 + 1 = 3 from rfl]
    conv => lhs; rw [h4]
    rw [show 3 + 1 = 4 from rfl]
    conv => lhs; rw [h5]
    rw [show 4 + 1 = 5 from rfl]
    conv => lhs; rw [h6]
    rw [show 5 + 1 = 6 from rfl]
    conv => lhs; rw [h7]
    rw [show 6 + 1 = 7 from rfl]
    conv => lhs; rw [h8]
    rw [show 7 + 1 = 8 from rfl]
    conv => lhs; rw [h9]
  rw [List.drop_eq_nil_of_le (by omega : cs.length ≤ 9), e0, e1, e2, e3, e4, e5, e6, e7, e8] at hc
  refine ⟨⟨z0, z1, z2, z3, z4, z5, z6, z7, z8⟩, hc.trans ?_, ⟨n0, n1, n2, n3, n4, n5, n6, n7, n8⟩⟩
  rfl

theorem cellsG : Tryz.prog.cellsOf 37 = 10 := by kernel_rfl
theorem recG6 : Tryz.prog.readableRec 37 = true := by kernel_rfl
theorem rowG6 : (37 : TypeId) < Tryz.prog.types.size := of_decide_eq_true (by kernel_rfl)
theorem open_cG {base n : Nat} {spare : Nat → Bool} {held : Bool} {cs : List Value} {x : DataW H × List MemPlace} (h : DataW.trod enc Tryz.prog W base spare held n 37 cs = some x) : ∃ y : Gift, cs = y.cells ∧ y.Nums := by
  obtain ⟨xs, n', _, _, hlen, hxs, hg⟩ := DataW.trod_struct underG h
  rw [cellsG] at hlen
  have some_ : ∀ i, i < 10 → ∃ y, xs[i]? = some y := fun i hi => ⟨_, List.getElem?_eq_getElem (by rw [hxs]; exact hi)⟩
  have f0 : DataW.trod enc Tryz.prog W base spare held n' 3 ((cs.drop 0).take (Tryz.prog.cellsOf 3)) = xs[0]? := hg 0 _ rfl
  obtain ⟨y0, hy0⟩ := some_ 0 (by omega)
  rw [hy0, cells3] at f0
  obtain ⟨z0, e0, n0⟩ := open_i3 f0
  have f1 : DataW.trod enc Tryz.prog W base spare held n' 3 ((cs.drop 1).take (Tryz.prog.cellsOf 3)) = xs[1]? := hg 1 _ rfl
  obtain ⟨y1, hy1⟩ := some_ 1 (by omega)
  rw [hy1, cells3] at f1
  obtain ⟨z1, e1, n1⟩ := open_i3 f1
  have f2 : DataW.trod enc Tryz.prog W base spare held n' 3 ((cs.drop 2).take (Tryz.prog.cellsOf 3)) = xs[2]? := hg 2 _ rfl
  obtain ⟨y2, hy2⟩ := some_ 2 (by omega)
  rw [hy2, cells3] at f2
  obtain ⟨z2, e2, n2⟩ := open_i3 f2
  have f3 : DataW.trod enc Tryz.prog W base spare held n' 3 ((cs.drop 3).take (Tryz.prog.cellsOf 3)) = xs[3]? := hg 3 _ rfl
  obtain ⟨y3, hy3⟩ := some_ 3 (by omega)
  rw [hy3, cells3] at f3
  obtain ⟨z3, e3, n3⟩ := open_i3 f3
  have f4 : DataW.trod enc Tryz.prog W base spare held n' 5 ((cs.drop 4).take (Tryz.prog.cellsOf 5)) = xs[4]? := hg 4 _ rfl
  obtain ⟨y4, hy4⟩ := some_ 4 (by omega)
  rw [hy4, cells5] at f4
  obtain ⟨z4, e4, n4⟩ := open_i5 f4
  have f5 : DataW.trod enc Tryz.prog W base spare held n' 3 ((cs.drop 5).take (Tryz.prog.cellsOf 3)) = xs[5]? := hg 5 _ rfl
  obtain ⟨y5, hy5⟩ := some_ 5 (by omega)
  rw [hy5, cells3] at f5
  obtain ⟨z5, e5, n5⟩ := open_i3 f5
  have f6 : DataW.trod enc Tryz.prog W base spare held n' 3 ((cs.drop 6).take (Tryz.prog.cellsOf 3)) = xs[6]? := hg 6 _ rfl
  obtain ⟨y6, hy6⟩ := some_ 6 (by omega)
  rw [hy6, cells3] at f6
  obtain ⟨z6, e6, n6⟩ := open_i3 f6
  have f7 : DataW.trod enc Tryz.prog W base spare held n' 5 ((cs.drop 7).take (Tryz.prog.cellsOf 5)) = xs[7]? := hg 7 _ rfl
  obtain ⟨y7, hy7⟩ := some_ 7 (by omega)
  rw [hy7, cells5] at f7
  obtain ⟨z7, e7, n7⟩ := open_i5 f7
  have f8 : DataW.trod enc Tryz.prog W base spare held n' 3 ((cs.drop 8).take (Tryz.prog.cellsOf 3)) = xs[8]? := hg 8 _ rfl
  obtain ⟨y8, hy8⟩ := some_ 8 (by omega)
  rw [hy8, cells3] at f8
  obtain ⟨z8, e8, n8⟩ := open_i3 f8
  have f9 : DataW.trod enc Tryz.prog W base spare held n' 3 ((cs.drop 9).take (Tryz.prog.cellsOf 3)) = xs[9]? := hg 9 _ rfl
  obtain ⟨y9, hy9⟩ := some_ 9 (by omega)
  rw [hy9, cells3] at f9
  obtain ⟨z9, e9, n9⟩ := open_i3 f9
  have hc : cs = (cs.drop 0).take 1 ++ ((cs.drop 1).take 1 ++ ((cs.drop 2).take 1 ++ ((cs.drop 3).take 1 ++ ((cs.drop 4).take 1 ++ ((cs.drop 5).take 1 ++ ((cs.drop 6).take 1 ++ ((cs.drop 7).take 1 ++ ((cs.drop 8).take 1 ++ ((cs.drop 9).take 1 ++ cs.drop 10))))))))) := by
    have h0 : cs = cs.drop 0 := rfl
    have h1 := dropSplit cs 0 1
    have h2 := dropSplit cs 1 1
    have h3 := dropSplit cs 2 1
    have h4 := dropSplit cs 3 1
    have h5 := dropSplit cs 4 1
    have h6 := dropSplit cs 5 1
    have h7 := dropSplit cs 6 1
    have h8 := dropSplit cs 7 1
    have h9 := dropSplit cs 8 1
    have h10 := dropSplit cs 9 1
    conv => lhs; rw [h0, h1]
    rw [show 0 + 1 = 1 from rfl]
    conv => lhs; rw [h2]
    rw [show 1 + 1 = 2 from rfl]
    conv => lhs; rw [h3]
    rw [show 2 + 1 = 3 from rfl]
    conv => lhs; rw [h4]
    rw [show 3 + 1 = 4 from rfl]
    conv => lhs; rw [h5]
    rw [show 4 + 1 = 5 from rfl]
    conv => lhs; rw [h6]
    rw [show 5 + 1 = 6 from rfl]
    conv => lhs; rw [h7]
    rw [show 6 + 1 = 7 from rfl]
    conv => lhs; rw [h8]
    rw [show 7 + 1 = 8 from rfl]
    conv => lhs; rw [h9]
    rw [show 8 + 1 = 9 from rfl]
    conv => lhs; rw [h10]
  rw [List.drop_eq_nil_of_le (by omega : cs.length ≤ 10), e0, e1, e2, e3, e4, e5, e6, e7, e8, e9] at hc
  refine ⟨⟨z0, z1, z2, z3, z4, z5, z6, z7, z8, z9⟩, hc.trans ?_, ⟨n0, n1, n2, n3, n4, n5, n6, n7, n8, n9⟩⟩
  rfl

theorem cellsEn : Tryz.prog.cellsOf 39 = 24 := by kernel_rfl
theorem recE6 : Tryz.prog.readableRec 39 = true := by kernel_rfl
theorem rowE6 : (39 : TypeId) < Tryz.prog.types.size := of_decide_eq_true (by kernel_rfl)
theorem open_cE {base n : Nat} {spare : Nat → Bool} {held : Bool} {cs : List Value} {x : DataW H × List MemPlace} (h : DataW.trod enc Tryz.prog W base spare held n 39 cs = some x) : ∃ y : Entry, cs = y.cells ∧ y.Nums := by
  obtain ⟨xs, n', _, _, hlen, hxs, hg⟩ := DataW.trod_struct underE h
  rw [cellsEn] at hlen
  have some_ : ∀ i, i < 7 → ∃ y, xs[i]? = some y := fun i hi => ⟨_, List.getElem?_eq_getElem (by rw [hxs]; exact hi)⟩
  have f0 : DataW.trod enc Tryz.prog W base spare held n' 5 ((cs.drop 0).take (Tryz.prog.cellsOf 5)) = xs[0]? := hg 0 _ rfl
  obtain ⟨y0, hy0⟩ := some_ 0 (by omega)
  rw [hy0, cells5] at f0
  obtain ⟨z0, e0, n0⟩ := open_i5 f0
  have f1 : DataW.trod enc Tryz.prog W base spare held n' 3 ((cs.drop 1).take (Tryz.prog.cellsOf 3)) = xs[1]? := hg 1 _ rfl
  obtain ⟨y1, hy1⟩ := some_ 1 (by omega)
  rw [hy1, cells3] at f1
  obtain ⟨z1, e1, n1⟩ := open_i3 f1
  have f2 : DataW.trod enc Tryz.prog W base spare held n' 35 ((cs.drop 2).take (Tryz.prog.cellsOf 35)) = xs[2]? := hg 2 _ rfl
  obtain ⟨y2, hy2⟩ := some_ 2 (by omega)
  rw [hy2, cellsW] at f2
  obtain ⟨z2, e2, n2⟩ := open_cW f2
  have f3 : DataW.trod enc Tryz.prog W base spare held n' 37 ((cs.drop 11).take (Tryz.prog.cellsOf 37)) = xs[3]? := hg 3 _ rfl
  obtain ⟨y3, hy3⟩ := some_ 3 (by omega)
  rw [hy3, cellsG] at f3
  obtain ⟨z3, e3, n3⟩ := open_cG f3
  have f4 : DataW.trod enc Tryz.prog W base spare held n' 3 ((cs.drop 21).take (Tryz.prog.cellsOf 3)) = xs[4]? := hg 4 _ rfl
  obtain ⟨y4, hy4⟩ := some_ 4 (by omega)
  rw [hy4, cells3] at f4
  obtain ⟨z4, e4, n4⟩ := open_i3 f4
  have f5 : DataW.trod enc Tryz.prog W base spare held n' 3 ((cs.drop 22).take (Tryz.prog.cellsOf 3)) = xs[5]? := hg 5 _ rfl
  obtain ⟨y5, hy5⟩ := some_ 5 (by omega)
  rw [hy5, cells3] at f5
  obtain ⟨z5, e5, n5⟩ := open_i3 f5
  have f6 : DataW.trod enc Tryz.prog W base spare held n' 3 ((cs.drop 23).take (Tryz.prog.cellsOf 3)) = xs[6]? := hg 6 _ rfl
  obtain ⟨y6, hy6⟩ := some_ 6 (by omega)
  rw [hy6, cells3] at f6
  obtain ⟨z6, e6, n6⟩ := open_i3 f6
  have hc : cs = (cs.drop 0).take 1 ++ ((cs.drop 1).take 1 ++ ((cs.drop 2).take 9 ++ ((cs.drop 11).take 10 ++ ((cs.drop 21).take 1 ++ ((cs.drop 22).take 1 ++ ((cs.drop 23).take 1 ++ cs.drop 24)))))) := by
    have h0 : cs = cs.drop 0 := rfl
    have h1 := dropSplit cs 0 1
    have h2 := dropSplit cs 1 1
    have h3 := dropSplit cs 2 9
    have h4 := dropSplit cs 11 10
    have h5 := dropSplit cs 21 1
    have h6 := dropSplit cs 22 1
    have h7 := dropSplit cs 23 1
    conv => lhs; rw [h0, h1]
    rw [show 0 + 1 = 1 from rfl]
    conv => lhs; rw [h2]
    rw [show 1 + 1 = 2 from rfl]
    conv => lhs; rw [h3]
    rw [show 2 + 9 = 11 from rfl]
    conv => lhs; rw [h4]
    rw [show 11 + 10 = 21 from rfl]
    conv => lhs; rw [h5]
    rw [show 21 + 1 = 22 from rfl]
    conv => lhs; rw [h6]
    rw [show 22 + 1 = 23 from rfl]
    conv => lhs; rw [h7]
  rw [List.drop_eq_nil_of_le (by omega : cs.length ≤ 24), e0, e1, e2, e3, e4, e5, e6] at hc
  refine ⟨⟨z0, z1, z2, z3, z4, z5, z6⟩, hc.trans ?_, ⟨n0, n1, n2, n3, n4, n5, n6⟩⟩
  simp [Entry.cells, Opn.cells, Waiv.cells, Gift.cells]

theorem cellsO : Tryz.prog.cellsOf 41 = 25 := by kernel_rfl
theorem recO6 : Tryz.prog.readableRec 41 = true := by kernel_rfl
theorem rowO6 : (41 : TypeId) < Tryz.prog.types.size := of_decide_eq_true (by kernel_rfl)
theorem underO : Tryz.prog.underlying 41 = some (.struct #[⟨ "Kind", 5, 0, false, "", "", 0⟩, ⟨ "X", 39, 1, false, "", "", 8⟩]) := by kernel_rfl
theorem open_cO {base n : Nat} {spare : Nat → Bool} {held : Bool} {cs : List Value} {x : DataW H × List MemPlace} (h : DataW.trod enc Tryz.prog W base spare held n 41 cs = some x) : ∃ y : Opn, cs = y.cells ∧ y.Nums := by
  obtain ⟨xs, n', _, _, hlen, hxs, hg⟩ := DataW.trod_struct underO h
  rw [cellsO] at hlen
  have some_ : ∀ i, i < 2 → ∃ y, xs[i]? = some y := fun i hi => ⟨_, List.getElem?_eq_getElem (by rw [hxs]; exact hi)⟩
  have f0 : DataW.trod enc Tryz.prog W base spare held n' 5 ((cs.drop 0).take (Tryz.prog.cellsOf 5)) = xs[0]? := hg 0 _ rfl
  obtain ⟨y0, hy0⟩ := some_ 0 (by omega)
  rw [hy0, cells5] at f0
  obtain ⟨z0, e0, n0⟩ := open_i5 f0
  have f1 : DataW.trod enc Tryz.prog W base spare held n' 39 ((cs.drop 1).take (Tryz.prog.cellsOf 39)) = xs[1]? := hg 1 _ rfl
  obtain ⟨y1, hy1⟩ := some_ 1 (by omega)
  rw [hy1, cellsEn] at f1
  obtain ⟨z1, e1, n1⟩ := open_cE f1
  have hc : cs = (cs.drop 0).take 1 ++ ((cs.drop 1).take 24 ++ cs.drop 25) := by
    have h0 : cs = cs.drop 0 := rfl
    have h1 := dropSplit cs 0 1
    have h2 := dropSplit cs 1 24
    conv => lhs; rw [h0, h1]
    rw [show 0 + 1 = 1 from rfl]
    conv => lhs; rw [h2]
  rw [List.drop_eq_nil_of_le (by omega : cs.length ≤ 25), e0, e1] at hc
  refine ⟨⟨z0, z1⟩, hc.trans ?_, ⟨n0, n1⟩⟩
  simp [Entry.cells, Opn.cells, Waiv.cells, Gift.cells]

theorem cellsU : Tryz.prog.cellsOf 70 = 2 := by kernel_rfl
theorem recU6 : Tryz.prog.readableRec 70 = true := by kernel_rfl
theorem rowU6 : (70 : TypeId) < Tryz.prog.types.size := of_decide_eq_true (by kernel_rfl)
theorem underU : Tryz.prog.underlying 70 = some (.struct #[⟨ "Person", 3, 0, false, "", "", 0⟩, ⟨ "State", 3, 1, false, "", "", 8⟩]) := by kernel_rfl
structure Guest.Nums (x : Guest) : Prop where
  person : In64 x.person
  state : In64 x.state
theorem open_cU {base n : Nat} {spare : Nat → Bool} {held : Bool} {cs : List Value} {x : DataW H × List MemPlace} (h : DataW.trod enc Tryz.prog W base spare held n 70 cs = some x) : ∃ y : Guest, cs = y.cells ∧ y.Nums := by
  obtain ⟨xs, n', _, _, hlen, hxs, hg⟩ := DataW.trod_struct underU h
  rw [cellsU] at hlen
  have some_ : ∀ i, i < 2 → ∃ y, xs[i]? = some y := fun i hi => ⟨_, List.getElem?_eq_getElem (by rw [hxs]; exact hi)⟩
  have f0 : DataW.trod enc Tryz.prog W base spare held n' 3 ((cs.drop 0).take (Tryz.prog.cellsOf 3)) = xs[0]? := hg 0 _ rfl
  obtain ⟨y0, hy0⟩ := some_ 0 (by omega)
  rw [hy0, cells3] at f0
  obtain ⟨z0, e0, n0⟩ := open_i3 f0
  have f1 : DataW.trod enc Tryz.prog W base spare held n' 3 ((cs.drop 1).take (Tryz.prog.cellsOf 3)) = xs[1]? := hg 1 _ rfl
  obtain ⟨y1, hy1⟩ := some_ 1 (by omega)
  rw [hy1, cells3] at f1
  obtain ⟨z1, e1, n1⟩ := open_i3 f1
  have hc : cs = (cs.drop 0).take 1 ++ ((cs.drop 1).take 1 ++ cs.drop 2) := by
    have h0 : cs = cs.drop 0 := rfl
    have h1 := dropSplit cs 0 1
    have h2 := dropSplit cs 1 1
    conv => lhs; rw [h0, h1]
    rw [show 0 + 1 = 1 from rfl]
    conv => lhs; rw [h2]
  rw [List.drop_eq_nil_of_le (by omega : cs.length ≤ 2), e0, e1] at hc
  refine ⟨⟨z0, z1⟩, hc.trans ?_, ⟨n0, n1⟩⟩
  rfl
set_option maxRecDepth 100000 in
theorem open_vW {v : Value} {d : DataW H} {p : List MemPlace} {b0 : Nat} (hv : Value.okWide Tryz.prog W .any b0 35 v) (h : DataW.Trod enc Tryz.prog W 0 (fun _ => true) true 35 v d p) : ∃ y : Waiv, v = y.val ∧ y.Nums := by
  obtain ⟨cs, rfl, hsz⟩ := okWide_struct underW hv
  obtain ⟨fuel, hf⟩ := h
  obtain ⟨y, hy, hn⟩ := open_cW hf
  refine ⟨y, ?_, hn⟩
  show Value.agg cs = Value.agg _
  congr 1
  apply Array.ext'
  exact hy
set_option maxRecDepth 100000 in
theorem open_vE {v : Value} {d : DataW H} {p : List MemPlace} {b0 : Nat} (hv : Value.okWide Tryz.prog W .any b0 39 v) (h : DataW.Trod enc Tryz.prog W 0 (fun _ => true) true 39 v d p) : ∃ y : Entry, v = y.val ∧ y.Nums := by
  obtain ⟨cs, rfl, hsz⟩ := okWide_struct underE hv
  obtain ⟨fuel, hf⟩ := h
  obtain ⟨y, hy, hn⟩ := open_cE hf
  refine ⟨y, ?_, hn⟩
  show Value.agg cs = Value.agg _
  congr 1
  apply Array.ext'
  exact hy
set_option maxRecDepth 100000 in
theorem open_vO {v : Value} {d : DataW H} {p : List MemPlace} {b0 : Nat} (hv : Value.okWide Tryz.prog W .any b0 41 v) (h : DataW.Trod enc Tryz.prog W 0 (fun _ => true) true 41 v d p) : ∃ y : Opn, v = y.val ∧ y.Nums := by
  obtain ⟨cs, rfl, hsz⟩ := okWide_struct underO hv
  obtain ⟨fuel, hf⟩ := h
  obtain ⟨y, hy, hn⟩ := open_cO hf
  refine ⟨y, ?_, hn⟩
  show Value.agg cs = Value.agg _
  congr 1
  apply Array.ext'
  exact hy

theorem flat_range {α : Type} {enc : α → List Value} {k : Nat} (hk : ∀ x, (enc x).length = k) (k0 : 0 < k) (f : Nat → α) (n i : Nat) (v : Value) (h : (((List.range n).map f).flatMap enc)[i]? = some v) : ∃ q j, q < n ∧ j < k ∧ i = q * k + j ∧ (enc (f q))[j]? = some v := by
  have hl := flat_length hk ((List.range n).map f)
  have hi := (List.getElem?_eq_some_iff.1 h).1
  rw [hl] at hi
  simp at hi
  have hq : i / k < n := Nat.div_lt_of_lt_mul (by rw [Nat.mul_comm]; exact hi)
  have hq' : i / k < ((List.range n).map f).length := by simpa using hq
  have hj : i % k < k := Nat.mod_lt _ k0
  have e : i / k * k + i % k = i := Nat.div_add_mod' i k
  refine ⟨i / k, i % k, hq, hj, e.symm, ?_⟩
  have := flat_get hk ((List.range n).map f) (i / k) (i % k) hq' hj
  rw [e, h] at this
  rw [this]
  simp
set_option maxRecDepth 100000 in
theorem open_list {α : Type} [Inhabited α] {ec : α → List Value} {k TS T : Nat} {Pn : α → Prop} (hk : ∀ x, (ec x).length = k) (k0 : 0 < k) (hfirst : ∀ y, ∃ kd z, (ec y)[0]? = some (.int kd z)) (hu : Tryz.prog.underlying TS = some (.slice T)) (hcl : Tryz.prog.cellsOf T = k)
    (ho : ∀ {base n : Nat} {spare : Nat → Bool} {held : Bool} {cs : List Value} {x : DataW H × List MemPlace}, DataW.trod enc Tryz.prog W base spare held n T cs = some x → ∃ y : α, cs = ec y ∧ Pn y)
    {v : Value} {d : DataW H} {p : List MemPlace} {b0 : Nat} (hv : Value.okWide Tryz.prog W .any b0 TS v) (h : DataW.Trod enc Tryz.prog W 0 (fun _ => true) true TS v d p) :
    ∃ A l c, v = .slice A l.length c ∧ HL ec W A l c ∧ ∀ x ∈ l, Pn x := by
  obtain ⟨a0, len0, cap0, rfl⟩ := okWide_slice hu hv
  obtain ⟨fuel, hf⟩ := h
  rcases Deep.open_slice hu hf with ⟨e1, _⟩ | ⟨a, len, cap, m, n, D, Pl, e1, hb, hl, hm, hmm, _, hx⟩
  · simp [Value.cells] at e1
    obtain ⟨rfl, rfl, rfl⟩ := e1
    exact ⟨none, [], 0, rfl, ⟨.inl rfl, Nat.le_refl _, by simp⟩, by simp⟩
  · simp [Value.cells] at e1
    obtain ⟨rfl, rfl, rfl⟩ := e1
    have hmm : m = cap0 := by simpa using hmm
    subst hmm
    rw [hcl] at hx
    obtain ⟨f, hf2⟩ := Deep.choose_lt (p := fun i (y : α) => W.cells? 0 (a.add (i * k)) k = some (ec y) ∧ Pn y) (fun i hi => by
      obtain ⟨cs', h1, h2⟩ := hx i hi
      obtain ⟨y, rfl, hy⟩ := ho h2
      exact ⟨y, h1, hy⟩)
    have hlen : ((List.range len0).map f).length = len0 := by simp
    refine ⟨some a, (List.range len0).map f, m, by rw [hlen], ⟨?_, by rw [hlen]; exact hl, by rw [hlen]; simp only [maxLen] at hm; omega⟩, ?_⟩
    · by_cases h0 : len0 = 0
      · subst h0; exact .inl rfl
      · have hc : ∀ i < len0, ∀ j < k, W.cell? ((a.add (i * k)).add j) = (ec (f i))[j]? := fun i hi j hj => (World.cells?_some (hf2 i (by omega)).1).2.2 j hj
        have hs : a.spot = none := by
          have h1 := hc 0 (by omega) 0 k0
          obtain ⟨kd, z, hz⟩ := hfirst (f 0)
          rw [hz] at h1
          have h2 : W.cell? a = some (.int kd z) := by
            have e0 : (a.add (0 * k)).add 0 = a := by
              rw [Nat.zero_mul]; rfl
            rw [e0] at h1; exact h1
          unfold World.cell? at h2
          cases hsp : a.spot with
          | none => rfl
          | some s =>
            simp only [hsp] at h2
            split at h2 <;> simp at h2
        obtain ⟨b, o, sp⟩ := a
        simp only at hs
        subst hs
        refine .inr ⟨b, o, rfl, fun i v hv => ?_⟩
        obtain ⟨q, j, hq, hj, rfl, hg⟩ := flat_range hk k0 f len0 i v hv
        have := hc q hq j hj
        rw [hg] at this
        rw [← this]
        rw [add_spot, add_spot, Nat.add_assoc]
    · intro x hx
      obtain ⟨i, hi, rfl⟩ := List.mem_map.1 hx
      exact (hf2 i (by have := List.mem_range.1 hi; omega)).2
end

end Go.Proofs.YtcnbpfecgokhiaaGreatDoor

namespace Go.Proofs.YtcnbpfecgokhiaaGreatDoor
open Go.Eng Go.RowKit Go.ChangeShapes Go.WideShapes Go.ChangeAt

theorem underOs : Tryz.prog.underlying 23 = some (.slice 41) := by kernel_rfl
theorem underUs : Tryz.prog.underlying 61 = some (.slice 70) := by kernel_rfl
theorem recOs : Tryz.prog.readableRec 23 = true := by kernel_rfl
theorem recUs : Tryz.prog.readableRec 61 = true := by kernel_rfl
theorem recEs : Tryz.prog.readableRec 28 = true := by kernel_rfl
theorem rowOs : (23 : TypeId) < Tryz.prog.types.size := of_decide_eq_true (by kernel_rfl)
theorem rowUs : (61 : TypeId) < Tryz.prog.types.size := of_decide_eq_true (by kernel_rfl)
theorem rowEs : (28 : TypeId) < Tryz.prog.types.size := of_decide_eq_true (by kernel_rfl)

section
variable {H : Type} {enc : TypeId × Value → H} {P : Program} {w : World} {base : Nat} {spare : Nat → Bool} {held : Bool}
theorem trodAll_n5 {t0 t1 t2 t3 t4 : TypeId} {args : Array Value} {ds : List (DataW H)} {ps : List MemPlace} (h : DataW.TrodAll enc P w base spare held [t0, t1, t2, t3, t4] args.toList ds ps) :
    ∃ v0 v1 v2 v3 v4 d0 d1 d2 d3 d4 p0 p1 p2 p3 p4, args = #[v0, v1, v2, v3, v4] ∧ ds = [d0, d1, d2, d3, d4] ∧ ps = p0 ++ (p1 ++ (p2 ++ (p3 ++ (p4)))) ∧ DataW.Trod enc P w base spare held t0 v0 d0 p0 ∧ DataW.Trod enc P w base spare held t1 v1 d1 p1 ∧ DataW.Trod enc P w base spare held t2 v2 d2 p2 ∧ DataW.Trod enc P w base spare held t3 v3 d3 p3 ∧ DataW.Trod enc P w base spare held t4 v4 d4 p4 := by
  obtain ⟨v0, vs0, d0, ds0, p0, q0, hargs, rfl, rfl, h0, r0⟩ := trodAll_cons h
  obtain ⟨v1, vs1, d1, ds1, p1, q1, rfl, rfl, rfl, h1, r1⟩ := trodAll_cons r0
  obtain ⟨v2, vs2, d2, ds2, p2, q2, rfl, rfl, rfl, h2, r2⟩ := trodAll_cons r1
  obtain ⟨v3, vs3, d3, ds3, p3, q3, rfl, rfl, rfl, h3, r3⟩ := trodAll_cons r2
  obtain ⟨v4, vs4, d4, ds4, p4, q4, rfl, rfl, rfl, h4, r4⟩ := trodAll_cons r3
  obtain ⟨rfl, rfl, rfl⟩ := trodAll_nil r4
  exact ⟨v0, v1, v2, v3, v4, d0, d1, d2, d3, d4, p0, p1, p2, p3, p4, by cases args; simp_all, rfl, by simp, h0, h1, h2, h3, h4⟩
theorem trodAll_mkn5 {t0 t1 t2 t3 t4 : TypeId} {v0 v1 v2 v3 v4 : Value} {d0 d1 d2 d3 d4 : DataW H} {p0 p1 p2 p3 p4 : List MemPlace} (h0 : DataW.Trod enc P w base spare held t0 v0 d0 p0) (h1 : DataW.Trod enc P w base spare held t1 v1 d1 p1) (h2 : DataW.Trod enc P w base spare held t2 v2 d2 p2) (h3 : DataW.Trod enc P w base spare held t3 v3 d3 p3) (h4 : DataW.Trod enc P w base spare held t4 v4 d4 p4) :
    DataW.TrodAll enc P w base spare held [t0, t1, t2, t3, t4] [v0, v1, v2, v3, v4] [d0, d1, d2, d3, d4] (p0 ++ (p1 ++ (p2 ++ (p3 ++ (p4))))) := ⟨p0, _, h0, trodAll_mk4 h1 h2 h3 h4, rfl⟩
theorem trodAll_n6 {t0 t1 t2 t3 t4 t5 : TypeId} {args : Array Value} {ds : List (DataW H)} {ps : List MemPlace} (h : DataW.TrodAll enc P w base spare held [t0, t1, t2, t3, t4, t5] args.toList ds ps) :
    ∃ v0 v1 v2 v3 v4 v5 d0 d1 d2 d3 d4 d5 p0 p1 p2 p3 p4 p5, args = #[v0, v1, v2, v3, v4, v5] ∧ ds = [d0, d1, d2, d3, d4, d5] ∧ ps = p0 ++ (p1 ++ (p2 ++ (p3 ++ (p4 ++ (p5))))) ∧ DataW.Trod enc P w base spare held t0 v0 d0 p0 ∧ DataW.Trod enc P w base spare held t1 v1 d1 p1 ∧ DataW.Trod enc P w base spare held t2 v2 d2 p2 ∧ DataW.Trod enc P w base spare held t3 v3 d3 p3 ∧ DataW.Trod enc P w base spare held t4 v4 d4 p4 ∧ DataW.Trod enc P w base spare held t5 v5 d5 p5 := by
  obtain ⟨v0, vs0, d0, ds0, p0, q0, hargs, rfl, rfl, h0, r0⟩ := trodAll_cons h
  obtain ⟨v1, vs1, d1, ds1, p1, q1, rfl, rfl, rfl, h1, r1⟩ := trodAll_cons r0
  obtain ⟨v2, vs2, d2, ds2, p2, q2, rfl, rfl, rfl, h2, r2⟩ := trodAll_cons r1
  obtain ⟨v3, vs3, d3, ds3, p3, q3, rfl, rfl, rfl, h3, r3⟩ := trodAll_cons r2
  obtain ⟨v4, vs4, d4, ds4, p4, q4, rfl, rfl, rfl, h4, r4⟩ := trodAll_cons r3
  obtain ⟨v5, vs5, d5, ds5, p5, q5, rfl, rfl, rfl, h5, r5⟩ := trodAll_cons r4
  obtain ⟨rfl, rfl, rfl⟩ := trodAll_nil r5
  exact ⟨v0, v1, v2, v3, v4, v5, d0, d1, d2, d3, d4, d5, p0, p1, p2, p3, p4, p5, by cases args; simp_all, rfl, by simp, h0, h1, h2, h3, h4, h5⟩
theorem trodAll_mkn6 {t0 t1 t2 t3 t4 t5 : TypeId} {v0 v1 v2 v3 v4 v5 : Value} {d0 d1 d2 d3 d4 d5 : DataW H} {p0 p1 p2 p3 p4 p5 : List MemPlace} (h0 : DataW.Trod enc P w base spare held t0 v0 d0 p0) (h1 : DataW.Trod enc P w base spare held t1 v1 d1 p1) (h2 : DataW.Trod enc P w base spare held t2 v2 d2 p2) (h3 : DataW.Trod enc P w base spare held t3 v3 d3 p3) (h4 : DataW.Trod enc P w base spare held t4 v4 d4 p4) (h5 : DataW.Trod enc P w base spare held t5 v5 d5 p5) :
    DataW.TrodAll enc P w base spare held [t0, t1, t2, t3, t4, t5] [v0, v1, v2, v3, v4, v5] [d0, d1, d2, d3, d4, d5] (p0 ++ (p1 ++ (p2 ++ (p3 ++ (p4 ++ (p5)))))) := ⟨p0, _, h0, trodAll_mkn5 h1 h2 h3 h4 h5, rfl⟩
theorem trodAll_n7 {t0 t1 t2 t3 t4 t5 t6 : TypeId} {args : Array Value} {ds : List (DataW H)} {ps : List MemPlace} (h : DataW.TrodAll enc P w base spare held [t0, t1, t2, t3, t4, t5, t6] args.toList ds ps) :
    ∃ v0 v1 v2 v3 v4 v5 v6 d0 d1 d2 d3 d4 d5 d6 p0 p1 p2 p3 p4 p5 p6, args = #[v0, v1, v2, v3, v4, v5, v6] ∧ ds = [d0, d1, d2, d3, d4, d5, d6] ∧ ps = p0 ++ (p1 ++ (p2 ++ (p3 ++ (p4 ++ (p5 ++ (p6)))))) ∧ DataW.Trod enc P w base spare held t0 v0 d0 p0 ∧ DataW.Trod enc P w base spare held t1 v1 d1 p1 ∧ DataW.Trod enc P w base spare held t2 v2 d2 p2 ∧ DataW.Trod enc P w base spare held t3 v3 d3 p3 ∧ DataW.Trod enc P w base spare held t4 v4 d4 p4 ∧ DataW.Trod enc P w base spare held t5 v5 d5 p5 ∧ DataW.Trod enc P w base spare held t6 v6 d6 p6 := by
  obtain ⟨v0, vs0, d0, ds0, p0, q0, hargs, rfl, rfl, h0, r0⟩ := trodAll_cons h
  obtain ⟨v1, vs1, d1, ds1, p1, q1, rfl, rfl, rfl, h1, r1⟩ := trodAll_cons r0
  obtain ⟨v2, vs2, d2, ds2, p2, q2, rfl, rfl, rfl, h2, r2⟩ := trodAll_cons r1
  obtain ⟨v3, vs3, d3, ds3, p3, q3, rfl, rfl, rfl, h3, r3⟩ := trodAll_cons r2
  obtain ⟨v4, vs4, d4, ds4, p4, q4, rfl, rfl, rfl, h4, r4⟩ := trodAll_cons r3
  obtain ⟨v5, vs5, d5, ds5, p5, q5, rfl, rfl, rfl, h5, r5⟩ := trodAll_cons r4
  obtain ⟨v6, vs6, d6, ds6, p6, q6, rfl, rfl, rfl, h6, r6⟩ := trodAll_cons r5
  obtain ⟨rfl, rfl, rfl⟩ := trodAll_nil r6
  exact ⟨v0, v1, v2, v3, v4, v5, v6, d0, d1, d2, d3, d4, d5, d6, p0, p1, p2, p3, p4, p5, p6, by cases args; simp_all, rfl, by simp, h0, h1, h2, h3, h4, h5, h6⟩
theorem trodAll_mkn7 {t0 t1 t2 t3 t4 t5 t6 : TypeId} {v0 v1 v2 v3 v4 v5 v6 : Value} {d0 d1 d2 d3 d4 d5 d6 : DataW H} {p0 p1 p2 p3 p4 p5 p6 : List MemPlace} (h0 : DataW.Trod enc P w base spare held t0 v0 d0 p0) (h1 : DataW.Trod enc P w base spare held t1 v1 d1 p1) (h2 : DataW.Trod enc P w base spare held t2 v2 d2 p2) (h3 : DataW.Trod enc P w base spare held t3 v3 d3 p3) (h4 : DataW.Trod enc P w base spare held t4 v4 d4 p4) (h5 : DataW.Trod enc P w base spare held t5 v5 d5 p5) (h6 : DataW.Trod enc P w base spare held t6 v6 d6 p6) :
    DataW.TrodAll enc P w base spare held [t0, t1, t2, t3, t4, t5, t6] [v0, v1, v2, v3, v4, v5, v6] [d0, d1, d2, d3, d4, d5, d6] (p0 ++ (p1 ++ (p2 ++ (p3 ++ (p4 ++ (p5 ++ (p6))))))) := ⟨p0, _, h0, trodAll_mkn6 h1 h2 h3 h4 h5 h6, rfl⟩
end
end Go.Proofs.YtcnbpfecgokhiaaGreatDoor
