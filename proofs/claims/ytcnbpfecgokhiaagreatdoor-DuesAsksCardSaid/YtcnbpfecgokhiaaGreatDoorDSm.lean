/- a part of the proof: steps, walks and plain laws that the law below stands on; no condition. -/
import Derived.Test.YtcnbpfecgokhiaaGreatDoorDSa
import Derived.Test.YtcnbpfecgokhiaaGreatDoorDSb
import Derived.Test.YtcnbpfecgokhiaaGreatDoorDSc
import Derived.Test.YtcnbpfecgokhiaaGreatDoorDSd
import Derived.Test.YtcnbpfecgokhiaaGreatDoorDSe
import Derived.Test.YtcnbpfecgokhiaaGreatDoorDSf
import Derived.Test.YtcnbpfecgokhiaaGreatDoorDSg
import Derived.Test.YtcnbpfecgokhiaaGreatDoorDSh
import Derived.Test.YtcnbpfecgokhiaaGreatDoorDSi
import Derived.Test.YtcnbpfecgokhiaaGreatDoorDSj
import Derived.Test.YtcnbpfecgokhiaaGreatDoorDSk
import Derived.Test.YtcnbpfecgokhiaaGreatDoorDSl
import Derived.Test.YtcnbpfecgokhiaaGreatDoorRows
import Derived.Test.YtcnbpfecgokhiaaGreatDoorCards
import Derived.Test.YtcnbpfecgokhiaaGreatDoorTie
import Derived.ProofKit
import Derived.Lib.SmallJoins
import Derived.Deep.Slices
import Derived.Deep.SlicePairs
import Derived.SizedLaws
import Derived.ChangeSame
import Derived.ChangeVars
import Derived.ChangeMaps5
import Derived.JoinedOf
import Derived.JoinedAt
import Derived.RowKit
import Derived.RowKit3
import Derived.RowKitTokens
import Derived.LaidLaws
import Derived.Stop.LaidErr
import Derived.Lib.LaidTab
import Derived.SevenTiedAt
import Derived.Sort.Walk0
import Derived.Ground.SlsfProg
import Derived.Scope
import Derived.Laws.StructEq
import Derived.Carry
import Derived.KernelRfl
set_option linter.unusedVariables false
set_option linter.unusedSimpArgs false
set_option linter.unnecessarySimpa false
set_option linter.unusedSectionVars false
namespace Go.Proofs.YtcnbpfecgokhiaaGreatDoor
open Go.Eng Go.RowKit Go.ChangeShapes Go.WideShapes Go.ChangeAt
open Go.ChangeMaps (open_string shut_string)
theorem own : ownKnob Tryz.prog.godebug = none := by kernel_rfl
theorem cells3 : Tryz.prog.cellsOf 3 = 1 := by kernel_rfl
theorem cells5 : Tryz.prog.cellsOf 5 = 1 := by kernel_rfl
theorem cells9 : Tryz.prog.cellsOf 9 = 1 := by kernel_rfl
theorem cellsF : Tryz.prog.cellsOf 81 = 9 := by kernel_rfl
theorem recFs : Tryz.prog.readableRec 22 = true := by kernel_rfl
theorem rowFs : (22 : TypeId) < Tryz.prog.types.size := of_decide_eq_true (by kernel_rfl)
theorem rec3 : Tryz.prog.readableRec 3 = true := by kernel_rfl
theorem row3 : (3 : TypeId) < Tryz.prog.types.size := of_decide_eq_true (by kernel_rfl)
theorem wf_u8 {a : Int} (h : (Lit.int .u8 a).wf = true) : 0 ≤ a ∧ a ≤ 255 := by
  simp [Lit.wf, IntKind.min, IntKind.max, IntKind.bits, IntKind.signed] at h
  omega
theorem list9 {l : List Value} (h : l.length = 9) : ∃ a b c d e f g h' i, l = [a, b, c, d, e, f, g, h', i] := by
  match l, h with
  | [a, b, c, d, e, f, g, h', i], _ => exact ⟨a, b, c, d, e, f, g, h', i, rfl⟩
theorem gPow : Tryz.prog.globalNamed "internal/strconv.uint64pow10" = some 3 := by kernel_rfl
theorem gPowT : (Tryz.prog.globals[3]?).map (·.type) = some 258 := by kernel_rfl
theorem cells64 : Tryz.prog.cellsOf 236 = 1 := by kernel_rfl
theorem cells20 : Tryz.prog.cellsOf 258 = 20 := by kernel_rfl
theorem pow_data : (Rows.laid_internal_strconv_uint64pow10 : DataW Unit) = Lib.tabData .u64 Lib.pow10Tab := by kernel_rfl
abbrev laidL : List (String × DataW Unit) := Rows.duesRunsRow.laid
theorem tabs_of_laid {W : World} (h : laidMet Tryz.prog laidL W) : TabP W := by
  have h2 : laidMet Tryz.prog (("internal/strconv.uint64pow10", Lib.tabData .u64 Lib.pow10Tab) :: laidL.tail.tail.tail) W := by
    rw [← pow_data]; exact h.tail.tail
  exact Lib.tabIs_of_head gPow gPowT Tryz.underlying258 Tryz.underlying236 cells64 cells20 h2
abbrev synS : ByteArray := ⟨#[105, 110, 118, 97, 108, 105, 100, 32, 115, 121, 110, 116, 97, 120]⟩
abbrev rngS : ByteArray := ⟨#[118, 97, 108, 117, 101, 32, 111, 117, 116, 32, 111, 102, 32, 114, 97, 110, 103, 101]⟩
/-- So many blocks has the settled world. -/
noncomputable def low : Nat := (World.holding Tryz.prog default ⟨#[], #[], []⟩).heap.size
def litCells : DataW Unit → Array Value
  | .agg ds => (ds.map fun d => match d with | .lit (.int k n) => Value.int k n | _ => undef).toArray
  | _ => #[]
def setCells (cs : Array Value) : Obj → Obj
  | .cells _ t frozen => .cells cs t frozen
  | o => o
/-- A world that meets the condition. -/
noncomputable def laidWorld (os : Os) : World :=
  let w0 := World.holding Tryz.prog os ⟨#[.cells #[.string synS] 268, .cells #[.string rngS] 268], #[], []⟩
  { w0 with heap := ((((w0.heap.modify 1 (setCells #[.iface 266 (.pointer (some ⟨low, 0, none⟩))])).modify 2 (setCells #[.iface 266 (.pointer (some ⟨low + 1, 0, none⟩))])).modify 3 (setCells (litCells Rows.laid_internal_strconv_uint64pow10))).modify 4 (setCells (litCells Rows.laid_math_bits_deBruijn32tab))).modify 5 (setCells (litCells Rows.laid_math_bits_deBruijn64tab)) }
theorem laidWorld_met (os : Os) (args : Array Value) : laidMet Tryz.prog laidL ((laidWorld os).forCall (fun _ _ => 0) ⟨#[], args, []⟩).memory :=
  laidMet_of_run' 8 (by kernel_rfl) (by kernel_rfl)
section
variable {H : Type} {enc : TypeId × Value → H} {W : World}
set_option maxRecDepth 100000 in
/-- One fact: its cells. -/
theorem open_fcells {base n : Nat} {spare : Nat → Bool} {held : Bool} {cs : List Value} {x : DataW H × List MemPlace} (h : DataW.trod enc Tryz.prog W base spare held n 81 cs = some x) :
    ∃ y : Fact, cs = y.cells ∧ y.Nums := by
  obtain ⟨xs, n', _, _, hlen, hxs, hg⟩ := DataW.trod_struct underF h
  rw [cellsF] at hlen
  obtain ⟨a0, a1, a2, a3, a4, a5, a6, a7, a8, rfl⟩ := list9 hlen
  have some9 : ∀ i, i < 9 → ∃ y, xs[i]? = some y := fun i hi => ⟨_, List.getElem?_eq_getElem (by rw [hxs]; exact hi)⟩
  have get3 : ∀ (i : Nat) (u : Value) (f : Field), (#[⟨ "Id", 3, 0, false, "", "", 0⟩, ⟨ "Known", 3, 1, false, "", "", 8⟩, ⟨ "Kind", 5, 2, false, "", "", 16⟩, ⟨ "Who", 3, 3, false, "", "", 24⟩, ⟨ "What", 3, 4, false, "", "", 32⟩, ⟨ "Other", 3, 5, false, "", "", 40⟩, ⟨ "Since", 3, 6, false, "", "", 48⟩, ⟨ "Until", 3, 7, false, "", "", 56⟩, ⟨ "Name", 9, 8, false, "", "", 64⟩] : Array Field)[i]? = some f → f.type = 3 → i < 9 →
      ((([a0, a1, a2, a3, a4, a5, a6, a7, a8] : List Value).drop f.offset).take 1) = [u] → ∃ z : Int, u = .int .i64 z ∧ In64 z := by
    intro i u f hi h3 hi9 hu
    have := hg i f hi
    rw [h3, cells3, hu] at this
    obtain ⟨y, hy⟩ := some9 i hi9
    rw [hy] at this
    obtain ⟨z, e1, _, wz⟩ := DataW.trod_int under3 this
    simp at e1
    exact ⟨z, e1, wf_in64 wz⟩
  obtain ⟨z0, rfl, w0⟩ := get3 0 a0 _ rfl rfl (by omega) rfl
  obtain ⟨z1, rfl, w1⟩ := get3 1 a1 _ rfl rfl (by omega) rfl
  obtain ⟨z3, rfl, w3⟩ := get3 3 a3 _ rfl rfl (by omega) rfl
  obtain ⟨z4, rfl, w4⟩ := get3 4 a4 _ rfl rfl (by omega) rfl
  obtain ⟨z5, rfl, w5⟩ := get3 5 a5 _ rfl rfl (by omega) rfl
  obtain ⟨z6, rfl, w6⟩ := get3 6 a6 _ rfl rfl (by omega) rfl
  obtain ⟨z7, rfl, w7⟩ := get3 7 a7 _ rfl rfl (by omega) rfl
  have h2 : DataW.trod enc Tryz.prog W base spare held n' 5 ((([.int .i64 z0, .int .i64 z1, a2, .int .i64 z3, .int .i64 z4, .int .i64 z5, .int .i64 z6, .int .i64 z7, a8] : List Value).drop 2).take (Tryz.prog.cellsOf 5)) = xs[2]? := hg 2 ⟨ "Kind", 5, 2, false, "", "", 16⟩ rfl
  have h8 : DataW.trod enc Tryz.prog W base spare held n' 9 ((([.int .i64 z0, .int .i64 z1, a2, .int .i64 z3, .int .i64 z4, .int .i64 z5, .int .i64 z6, .int .i64 z7, a8] : List Value).drop 8).take (Tryz.prog.cellsOf 9)) = xs[8]? := hg 8 ⟨ "Name", 9, 8, false, "", "", 64⟩ rfl
  obtain ⟨y2, hy2⟩ := some9 2 (by omega)
  obtain ⟨y8, hy8⟩ := some9 8 (by omega)
  rw [cells5, hy2] at h2
  rw [cells9, hy8] at h8
  obtain ⟨z2, e2, _, w2⟩ := DataW.trod_int under5 h2
  obtain ⟨s8, e8, _, w8⟩ := DataW.trod_string under9 h8
  simp at e2 e8
  subst e2 e8
  exact ⟨⟨z0, z1, z2, z3, z4, z5, z6, z7, s8⟩, rfl, ⟨w0, w1, wf_u8 w2, w3, w4, w5, w6, w7, by simpa [maxLen] using w8⟩⟩
theorem fcells_range (f : Nat → Fact) (n i : Nat) (v : Value) (h : (fcells ((List.range n).map f))[i]? = some v) : ∃ k j, k < n ∧ j < 9 ∧ i = k * 9 + j ∧ (f k).cells[j]? = some v := by
  have hl := fcells_length ((List.range n).map f)
  have hi := (List.getElem?_eq_some_iff.1 h).1
  rw [hl] at hi
  simp at hi
  have hk : i / 9 < ((List.range n).map f).length := by simp; omega
  have hj : i % 9 < 9 := Nat.mod_lt _ (by omega)
  refine ⟨i / 9, i % 9, by simpa using hk, hj, by omega, ?_⟩
  have := flat_get Fact.len ((List.range n).map f) (i / 9) (i % 9) hk hj
  rw [show i / 9 * 9 + i % 9 = i by omega] at this
  have h2 : ((List.range n).map f).flatMap Fact.cells = fcells ((List.range n).map f) := rfl
  rw [h2, h] at this
  rw [this]
  simp
set_option maxRecDepth 100000 in
theorem open_facts {v : Value} {d : DataW H} {p : List MemPlace} {b0 : Nat} (hv : Value.okWide Tryz.prog W .any b0 22 v) (h : DataW.Trod enc Tryz.prog W 0 (fun _ => true) true 22 v d p) :
    ∃ A l c, v = .slice A l.length c ∧ HF W A l c := by
  obtain ⟨a0, len0, cap0, rfl⟩ := okWide_slice underFs hv
  obtain ⟨fuel, hf⟩ := h
  rcases Deep.open_slice underFs hf with ⟨e1, _⟩ | ⟨a, len, cap, m, n, D, Pl, e1, hb, hl, hm, hmm, _, hx⟩
  · simp [Value.cells] at e1
    obtain ⟨rfl, rfl, rfl⟩ := e1
    exact ⟨none, [], 0, rfl, by simp, .inl rfl, Nat.le_refl _, by simp⟩
  · simp [Value.cells] at e1
    obtain ⟨rfl, rfl, rfl⟩ := e1
    have hmm : m = cap0 := by simpa using hmm
    subst hmm
    rw [cellsF] at hx
    obtain ⟨f, hf2⟩ := Deep.choose_lt (p := fun i (y : Fact) => W.cells? 0 (a.add (i * 9)) 9 = some y.cells ∧ y.Nums) (fun i hi => by
      obtain ⟨cs', h1, h2⟩ := hx i hi
      obtain ⟨y, rfl, hy⟩ := open_fcells h2
      exact ⟨y, h1, hy⟩)
    have hlen : ((List.range len0).map f).length = len0 := by simp
    refine ⟨some a, (List.range len0).map f, m, by rw [hlen], ?_, ?_, by rw [hlen]; exact hl, by rw [hlen]; simp only [maxLen] at hm; omega⟩
    · intro x hx
      obtain ⟨i, hi, rfl⟩ := List.mem_map.1 hx
      exact (hf2 i (by have := List.mem_range.1 hi; omega)).2
    · by_cases h0 : len0 = 0
      · subst h0; exact .inl rfl
      · have hc : ∀ i < len0, ∀ j < 9, W.cell? ((a.add (i * 9)).add j) = (f i).cells[j]? := fun i hi j hj => (World.cells?_some (hf2 i (by omega)).1).2.2 j hj
        have hs : a.spot = none := by
          have := hc 0 (by omega) 0 (by omega)
          have h2 : W.cell? ((a.add (0 * 9)).add 0) = some (.int .i64 (f 0).id) := this
          unfold World.cell? at h2
          cases hsp : a.spot with
          | none => rfl
          | some s =>
            have ea : (a.add (0 * 9)).add 0 = a := rfl
            rw [ea] at h2
            simp only [hsp] at h2
            split at h2 <;> simp at h2
        obtain ⟨b, o, sp⟩ := a
        simp only at hs
        subst hs
        refine .inr ⟨b, o, rfl, fun i v hv => ?_⟩
        obtain ⟨k, j, hk, hj, rfl, hg⟩ := fcells_range f len0 i v hv
        have := hc k hk j hj
        rw [hg] at this
        rw [← this]
        rw [add_spot, add_spot, Nat.add_assoc]
theorem dropSplit {α : Type} (l : List α) (i k : Nat) : l.drop i = (l.drop i).take k ++ l.drop (i + k) := by
  rw [← List.drop_drop]; exact (List.take_append_drop k (l.drop i)).symm
theorem open_i3 {base n : Nat} {spare : Nat → Bool} {held : Bool} {cs : List Value} {x : DataW H × List MemPlace} (h : DataW.trod enc Tryz.prog W base spare held n 3 cs = some x) : ∃ z : Int, cs = [.int .i64 z] ∧ In64 z := by
  obtain ⟨z, e, _, wz⟩ := DataW.trod_int under3 h
  exact ⟨z, e, wf_in64 wz⟩
theorem open_i5 {base n : Nat} {spare : Nat → Bool} {held : Bool} {cs : List Value} {x : DataW H × List MemPlace} (h : DataW.trod enc Tryz.prog W base spare held n 5 cs = some x) : ∃ z : Int, cs = [.int .u8 z] ∧ 0 ≤ z ∧ z ≤ 255 := by
  obtain ⟨z, e, _, wz⟩ := DataW.trod_int under5 h
  exact ⟨z, e, wf_u8 wz⟩
theorem cellsW : Tryz.prog.cellsOf 35 = 9 := by kernel_rfl
theorem open_cW {base n : Nat} {spare : Nat → Bool} {held : Bool} {cs : List Value} {x : DataW H × List MemPlace} (h : DataW.trod enc Tryz.prog W base spare held n 35 cs = some x) : ∃ y : Waiv, cs = y.cells ∧ y.Nums := by
  obtain ⟨xs, n', _, _, hlen, hxs, hg⟩ := DataW.trod_struct underW h
  rw [cellsW] at hlen
  have some_ : ∀ i, i < 9 → ∃ y, xs[i]? = some y := fun i hi => ⟨_, List.getElem?_eq_getElem (by rw [hxs]; exact hi)⟩
  have f0 : DataW.trod enc Tryz.prog W base spare held n' 3 ((cs.drop 0).take (Tryz.prog.cellsOf 3)) = xs[0]? := hg 0 _ rfl
  obtain ⟨y0, hy0⟩ := some_ 0 (by omega)
  rw [hy0, cells3] at f0
  obtain ⟨z0, e0, n0⟩ := open_i3 f0
  have f1 : DataW.trod enc Tryz.prog W base spare held n' 3 ((cs.drop 1).take (Tryz.prog.cellsOf 3)) = xs[1]? := hg 1 _ rfl
  obtain ⟨y1, hy1⟩ := some_ 1 (by omega)
  rw [hy1, cells3] at f1
  obtain ⟨z1, e1, n1⟩ := open_i3 f1
  have f2 : DataW.trod enc Tryz.prog W base spare held n' 3 ((cs.drop 2).take (Tryz.prog.cellsOf 3)) = xs[2]? := hg 2 _ rfl
  obtain ⟨y2, hy2⟩ := some_ 2 (by omega)
  rw [hy2, cells3] at f2
  obtain ⟨z2, e2, n2⟩ := open_i3 f2
  have f3 : DataW.trod enc Tryz.prog W base spare held n' 3 ((cs.drop 3).take (Tryz.prog.cellsOf 3)) = xs[3]? := hg 3 _ rfl
  obtain ⟨y3, hy3⟩ := some_ 3 (by omega)
  rw [hy3, cells3] at f3
  obtain ⟨z3, e3, n3⟩ := open_i3 f3
  have f4 : DataW.trod enc Tryz.prog W base spare held n' 3 ((cs.drop 4).take (Tryz.prog.cellsOf 3)) = xs[4]? := hg 4 _ rfl
  obtain ⟨y4, hy4⟩ := some_ 4 (by omega)
  rw [hy4, cells3] at f4
  obtain ⟨z4, e4, n4⟩ := open_i3 f4
  have f5 : DataW.trod enc Tryz.prog W base spare held n' 3 ((cs.drop 5).take (Tryz.prog.cellsOf 3)) = xs[5]? := hg 5 _ rfl
  obtain ⟨y5, hy5⟩ := some_ 5 (by omega)
  rw [hy5, cells3] at f5
  obtain ⟨z5, e5, n5⟩ := open_i3 f5
  have f6 : DataW.trod enc Tryz.prog W base spare held n' 3 ((cs.drop 6).take (Tryz.prog.cellsOf 3)) = xs[6]? := hg 6 _ rfl
  obtain ⟨y6, hy6⟩ := some_ 6 (by omega)
  rw [hy6, cells3] at f6
  obtain ⟨z6, e6, n6⟩ := open_i3 f6
  have f7 : DataW.trod enc Tryz.prog W base spare held n' 3 ((cs.drop 7).take (Tryz.prog.cellsOf 3)) = xs[7]? := hg 7 _ rfl
  obtain ⟨y7, hy7⟩ := some_ 7 (by omega)
  rw [hy7, cells3] at f7
  obtain ⟨z7, e7, n7⟩ := open_i3 f7
  have f8 : DataW.trod enc Tryz.prog W base spare held n' 3 ((cs.drop 8).take (Tryz.prog.cellsOf 3)) = xs[8]? := hg 8 _ rfl
  obtain ⟨y8, hy8⟩ := some_ 8 (by omega)
  rw [hy8, cells3] at f8
  obtain ⟨z8, e8, n8⟩ := open_i3 f8
  have hc : cs = (cs.drop 0).take 1 ++ ((cs.drop 1).take 1 ++ ((cs.drop 2).take 1 ++ ((cs.drop 3).take 1 ++ ((cs.drop 4).take 1 ++ ((cs.drop 5).take 1 ++ ((cs.drop 6).take 1 ++ ((cs.drop 7).take 1 ++ ((cs.drop 8).take 1 ++ cs.drop 9)))))))) := by
    have h0 : cs = cs.drop 0 := rfl
    have h1 := dropSplit cs 0 1
    have h2 := dropSplit cs 1 1
    have h3 := dropSplit cs 2 1
    have h4 := dropSplit cs 3 1
    have h5 := dropSplit cs 4 1
    have h6 := dropSplit cs 5 1
    have h7 := dropSplit cs 6 1
    have h8 := dropSplit cs 7 1
    have h9 := dropSplit cs 8 1
    conv => lhs; rw [h0, h1]
    rw [show 0 + 1 = 1 from rfl]
    conv => lhs; rw [h2]
    rw [show 1 + 1 = 2 from rfl]
    conv => lhs; rw [h3]
    rw [show 2 + 1 = 3 from rfl]
    conv => lhs; rw [h4]
    rw [show 3 + 1 = 4 from rfl]
    conv => lhs; rw [h5]
    rw [show 4 + 1 = 5 from rfl]
    conv => lhs; rw [h6]
    rw [show 5 + 1 = 6 from rfl]
    conv => lhs; rw [h7]
    rw [show 6 + 1 = 7 from rfl]
    conv => lhs; rw [h8]
    rw [show 7 + 1 = 8 from rfl]
    conv => lhs; rw [h9]
  rw [List.drop_eq_nil_of_le (by omega : cs.length ≤ 9), e0, e1, e2, e3, e4, e5, e6, e7, e8] at hc
  refine ⟨⟨z0, z1, z2, z3, z4, z5, z6, z7, z8⟩, hc.trans ?_, ⟨n0, n1, n2, n3, n4, n5, n6, n7, n8⟩⟩
  rfl
theorem cellsG : Tryz.prog.cellsOf 37 = 10 := by kernel_rfl
theorem open_cG {base n : Nat} {spare : Nat → Bool} {held : Bool} {cs : List Value} {x : DataW H × List MemPlace} (h : DataW.trod enc Tryz.prog W base spare held n 37 cs = some x) : ∃ y : Gift, cs = y.cells ∧ y.Nums := by
  obtain ⟨xs, n', _, _, hlen, hxs, hg⟩ := DataW.trod_struct underG h
  rw [cellsG] at hlen
  have some_ : ∀ i, i < 10 → ∃ y, xs[i]? = some y := fun i hi => ⟨_, List.getElem?_eq_getElem (by rw [hxs]; exact hi)⟩
  have f0 : DataW.trod enc Tryz.prog W base spare held n' 3 ((cs.drop 0).take (Tryz.prog.cellsOf 3)) = xs[0]? := hg 0 _ rfl
  obtain ⟨y0, hy0⟩ := some_ 0 (by omega)
  rw [hy0, cells3] at f0
  obtain ⟨z0, e0, n0⟩ := open_i3 f0
  have f1 : DataW.trod enc Tryz.prog W base spare held n' 3 ((cs.drop 1).take (Tryz.prog.cellsOf 3)) = xs[1]? := hg 1 _ rfl
  obtain ⟨y1, hy1⟩ := some_ 1 (by omega)
  rw [hy1, cells3] at f1
  obtain ⟨z1, e1, n1⟩ := open_i3 f1
  have f2 : DataW.trod enc Tryz.prog W base spare held n' 3 ((cs.drop 2).take (Tryz.prog.cellsOf 3)) = xs[2]? := hg 2 _ rfl
  obtain ⟨y2, hy2⟩ := some_ 2 (by omega)
  rw [hy2, cells3] at f2
  obtain ⟨z2, e2, n2⟩ := open_i3 f2
  have f3 : DataW.trod enc Tryz.prog W base spare held n' 3 ((cs.drop 3).take (Tryz.prog.cellsOf 3)) = xs[3]? := hg 3 _ rfl
  obtain ⟨y3, hy3⟩ := some_ 3 (by omega)
  rw [hy3, cells3] at f3
  obtain ⟨z3, e3, n3⟩ := open_i3 f3
  have f4 : DataW.trod enc Tryz.prog W base spare held n' 5 ((cs.drop 4).take (Tryz.prog.cellsOf 5)) = xs[4]? := hg 4 _ rfl
  obtain ⟨y4, hy4⟩ := some_ 4 (by omega)
  rw [hy4, cells5] at f4
  obtain ⟨z4, e4, n4⟩ := open_i5 f4
  have f5 : DataW.trod enc Tryz.prog W base spare held n' 3 ((cs.drop 5).take (Tryz.prog.cellsOf 3)) = xs[5]? := hg 5 _ rfl
  obtain ⟨y5, hy5⟩ := some_ 5 (by omega)
  rw [hy5, cells3] at f5
  obtain ⟨z5, e5, n5⟩ := open_i3 f5
  have f6 : DataW.trod enc Tryz.prog W base spare held n' 3 ((cs.drop 6).take (Tryz.prog.cellsOf 3)) = xs[6]? := hg 6 _ rfl
  obtain ⟨y6, hy6⟩ := some_ 6 (by omega)
  rw [hy6, cells3] at f6
  obtain ⟨z6, e6, n6⟩ := open_i3 f6
  have f7 : DataW.trod enc Tryz.prog W base spare held n' 5 ((cs.drop 7).take (Tryz.prog.cellsOf 5)) = xs[7]? := hg 7 _ rfl
  obtain ⟨y7, hy7⟩ := some_ 7 (by omega)
  rw [hy7, cells5] at f7
  obtain ⟨z7, e7, n7⟩ := open_i5 f7
  have f8 : DataW.trod enc Tryz.prog W base spare held n' 3 ((cs.drop 8).take (Tryz.prog.cellsOf 3)) = xs[8]? := hg 8 _ rfl
  obtain ⟨y8, hy8⟩ := some_ 8 (by omega)
  rw [hy8, cells3] at f8
  obtain ⟨z8, e8, n8⟩ := open_i3 f8
  have f9 : DataW.trod enc Tryz.prog W base spare held n' 3 ((cs.drop 9).take (Tryz.prog.cellsOf 3)) = xs[9]? := hg 9 _ rfl
  obtain ⟨y9, hy9⟩ := some_ 9 (by omega)
  rw [hy9, cells3] at f9
  obtain ⟨z9, e9, n9⟩ := open_i3 f9
  have hc : cs = (cs.drop 0).take 1 ++ ((cs.drop 1).take 1 ++ ((cs.drop 2).take 1 ++ ((cs.drop 3).take 1 ++ ((cs.drop 4).take 1 ++ ((cs.drop 5).take 1 ++ ((cs.drop 6).take 1 ++ ((cs.drop 7).take 1 ++ ((cs.drop 8).take 1 ++ ((cs.drop 9).take 1 ++ cs.drop 10))))))))) := by
    have h0 : cs = cs.drop 0 := rfl
    have h1 := dropSplit cs 0 1
    have h2 := dropSplit cs 1 1
    have h3 := dropSplit cs 2 1
    have h4 := dropSplit cs 3 1
    have h5 := dropSplit cs 4 1
    have h6 := dropSplit cs 5 1
    have h7 := dropSplit cs 6 1
    have h8 := dropSplit cs 7 1
    have h9 := dropSplit cs 8 1
    have h10 := dropSplit cs 9 1
    conv => lhs; rw [h0, h1]
    rw [show 0 + 1 = 1 from rfl]
    conv => lhs; rw [h2]
    rw [show 1 + 1 = 2 from rfl]
    conv => lhs; rw [h3]
    rw [show 2 + 1 = 3 from rfl]
    conv => lhs; rw [h4]
    rw [show 3 + 1 = 4 from rfl]
    conv => lhs; rw [h5]
    rw [show 4 + 1 = 5 from rfl]
    conv => lhs; rw [h6]
    rw [show 5 + 1 = 6 from rfl]
    conv => lhs; rw [h7]
    rw [show 6 + 1 = 7 from rfl]
    conv => lhs; rw [h8]
    rw [show 7 + 1 = 8 from rfl]
    conv => lhs; rw [h9]
    rw [show 8 + 1 = 9 from rfl]
    conv => lhs; rw [h10]
  rw [List.drop_eq_nil_of_le (by omega : cs.length ≤ 10), e0, e1, e2, e3, e4, e5, e6, e7, e8, e9] at hc
  refine ⟨⟨z0, z1, z2, z3, z4, z5, z6, z7, z8, z9⟩, hc.trans ?_, ⟨n0, n1, n2, n3, n4, n5, n6, n7, n8, n9⟩⟩
  rfl
theorem cellsEn : Tryz.prog.cellsOf 39 = 24 := by kernel_rfl
theorem open_cE {base n : Nat} {spare : Nat → Bool} {held : Bool} {cs : List Value} {x : DataW H × List MemPlace} (h : DataW.trod enc Tryz.prog W base spare held n 39 cs = some x) : ∃ y : Entry, cs = y.cells ∧ y.Nums := by
  obtain ⟨xs, n', _, _, hlen, hxs, hg⟩ := DataW.trod_struct underE h
  rw [cellsEn] at hlen
  have some_ : ∀ i, i < 7 → ∃ y, xs[i]? = some y := fun i hi => ⟨_, List.getElem?_eq_getElem (by rw [hxs]; exact hi)⟩
  have f0 : DataW.trod enc Tryz.prog W base spare held n' 5 ((cs.drop 0).take (Tryz.prog.cellsOf 5)) = xs[0]? := hg 0 _ rfl
  obtain ⟨y0, hy0⟩ := some_ 0 (by omega)
  rw [hy0, cells5] at f0
  obtain ⟨z0, e0, n0⟩ := open_i5 f0
  have f1 : DataW.trod enc Tryz.prog W base spare held n' 3 ((cs.drop 1).take (Tryz.prog.cellsOf 3)) = xs[1]? := hg 1 _ rfl
  obtain ⟨y1, hy1⟩ := some_ 1 (by omega)
  rw [hy1, cells3] at f1
  obtain ⟨z1, e1, n1⟩ := open_i3 f1
  have f2 : DataW.trod enc Tryz.prog W base spare held n' 35 ((cs.drop 2).take (Tryz.prog.cellsOf 35)) = xs[2]? := hg 2 _ rfl
  obtain ⟨y2, hy2⟩ := some_ 2 (by omega)
  rw [hy2, cellsW] at f2
  obtain ⟨z2, e2, n2⟩ := open_cW f2
  have f3 : DataW.trod enc Tryz.prog W base spare held n' 37 ((cs.drop 11).take (Tryz.prog.cellsOf 37)) = xs[3]? := hg 3 _ rfl
  obtain ⟨y3, hy3⟩ := some_ 3 (by omega)
  rw [hy3, cellsG] at f3
  obtain ⟨z3, e3, n3⟩ := open_cG f3
  have f4 : DataW.trod enc Tryz.prog W base spare held n' 3 ((cs.drop 21).take (Tryz.prog.cellsOf 3)) = xs[4]? := hg 4 _ rfl
  obtain ⟨y4, hy4⟩ := some_ 4 (by omega)
  rw [hy4, cells3] at f4
  obtain ⟨z4, e4, n4⟩ := open_i3 f4
  have f5 : DataW.trod enc Tryz.prog W base spare held n' 3 ((cs.drop 22).take (Tryz.prog.cellsOf 3)) = xs[5]? := hg 5 _ rfl
  obtain ⟨y5, hy5⟩ := some_ 5 (by omega)
  rw [hy5, cells3] at f5
  obtain ⟨z5, e5, n5⟩ := open_i3 f5
  have f6 : DataW.trod enc Tryz.prog W base spare held n' 3 ((cs.drop 23).take (Tryz.prog.cellsOf 3)) = xs[6]? := hg 6 _ rfl
  obtain ⟨y6, hy6⟩ := some_ 6 (by omega)
  rw [hy6, cells3] at f6
  obtain ⟨z6, e6, n6⟩ := open_i3 f6
  have hc : cs = (cs.drop 0).take 1 ++ ((cs.drop 1).take 1 ++ ((cs.drop 2).take 9 ++ ((cs.drop 11).take 10 ++ ((cs.drop 21).take 1 ++ ((cs.drop 22).take 1 ++ ((cs.drop 23).take 1 ++ cs.drop 24)))))) := by
    have h0 : cs = cs.drop 0 := rfl
    have h1 := dropSplit cs 0 1
    have h2 := dropSplit cs 1 1
    have h3 := dropSplit cs 2 9
    have h4 := dropSplit cs 11 10
    have h5 := dropSplit cs 21 1
    have h6 := dropSplit cs 22 1
    have h7 := dropSplit cs 23 1
    conv => lhs; rw [h0, h1]
    rw [show 0 + 1 = 1 from rfl]
    conv => lhs; rw [h2]
    rw [show 1 + 1 = 2 from rfl]
    conv => lhs; rw [h3]
    rw [show 2 + 9 = 11 from rfl]
    conv => lhs; rw [h4]
    rw [show 11 + 10 = 21 from rfl]
    conv => lhs; rw [h5]
    rw [show 21 + 1 = 22 from rfl]
    conv => lhs; rw [h6]
    rw [show 22 + 1 = 23 from rfl]
    conv => lhs; rw [h7]
  rw [List.drop_eq_nil_of_le (by omega : cs.length ≤ 24), e0, e1, e2, e3, e4, e5, e6] at hc
  refine ⟨⟨z0, z1, z2, z3, z4, z5, z6⟩, hc.trans ?_, ⟨n0, n1, n2, n3, n4, n5, n6⟩⟩
  simp [Entry.cells, Opn.cells, Waiv.cells, Gift.cells]
theorem cellsO : Tryz.prog.cellsOf 41 = 25 := by kernel_rfl
theorem underO : Tryz.prog.underlying 41 = some (.struct #[⟨ "Kind", 5, 0, false, "", "", 0⟩, ⟨ "X", 39, 1, false, "", "", 8⟩]) := by kernel_rfl
theorem open_cO {base n : Nat} {spare : Nat → Bool} {held : Bool} {cs : List Value} {x : DataW H × List MemPlace} (h : DataW.trod enc Tryz.prog W base spare held n 41 cs = some x) : ∃ y : Opn, cs = y.cells ∧ y.Nums := by
  obtain ⟨xs, n', _, _, hlen, hxs, hg⟩ := DataW.trod_struct underO h
  rw [cellsO] at hlen
  have some_ : ∀ i, i < 2 → ∃ y, xs[i]? = some y := fun i hi => ⟨_, List.getElem?_eq_getElem (by rw [hxs]; exact hi)⟩
  have f0 : DataW.trod enc Tryz.prog W base spare held n' 5 ((cs.drop 0).take (Tryz.prog.cellsOf 5)) = xs[0]? := hg 0 _ rfl
  obtain ⟨y0, hy0⟩ := some_ 0 (by omega)
  rw [hy0, cells5] at f0
  obtain ⟨z0, e0, n0⟩ := open_i5 f0
  have f1 : DataW.trod enc Tryz.prog W base spare held n' 39 ((cs.drop 1).take (Tryz.prog.cellsOf 39)) = xs[1]? := hg 1 _ rfl
  obtain ⟨y1, hy1⟩ := some_ 1 (by omega)
  rw [hy1, cellsEn] at f1
  obtain ⟨z1, e1, n1⟩ := open_cE f1
  have hc : cs = (cs.drop 0).take 1 ++ ((cs.drop 1).take 24 ++ cs.drop 25) := by
    have h0 : cs = cs.drop 0 := rfl
    have h1 := dropSplit cs 0 1
    have h2 := dropSplit cs 1 24
    conv => lhs; rw [h0, h1]
    rw [show 0 + 1 = 1 from rfl]
    conv => lhs; rw [h2]
  rw [List.drop_eq_nil_of_le (by omega : cs.length ≤ 25), e0, e1] at hc
  refine ⟨⟨z0, z1⟩, hc.trans ?_, ⟨n0, n1⟩⟩
  simp [Entry.cells, Opn.cells, Waiv.cells, Gift.cells]
theorem cellsU : Tryz.prog.cellsOf 70 = 2 := by kernel_rfl
theorem underU : Tryz.prog.underlying 70 = some (.struct #[⟨ "Person", 3, 0, false, "", "", 0⟩, ⟨ "State", 3, 1, false, "", "", 8⟩]) := by kernel_rfl
structure Guest.Nums (x : Guest) : Prop where
  person : In64 x.person
  state : In64 x.state
theorem open_cU {base n : Nat} {spare : Nat → Bool} {held : Bool} {cs : List Value} {x : DataW H × List MemPlace} (h : DataW.trod enc Tryz.prog W base spare held n 70 cs = some x) : ∃ y : Guest, cs = y.cells ∧ y.Nums := by
  obtain ⟨xs, n', _, _, hlen, hxs, hg⟩ := DataW.trod_struct underU h
  rw [cellsU] at hlen
  have some_ : ∀ i, i < 2 → ∃ y, xs[i]? = some y := fun i hi => ⟨_, List.getElem?_eq_getElem (by rw [hxs]; exact hi)⟩
  have f0 : DataW.trod enc Tryz.prog W base spare held n' 3 ((cs.drop 0).take (Tryz.prog.cellsOf 3)) = xs[0]? := hg 0 _ rfl
  obtain ⟨y0, hy0⟩ := some_ 0 (by omega)
  rw [hy0, cells3] at f0
  obtain ⟨z0, e0, n0⟩ := open_i3 f0
  have f1 : DataW.trod enc Tryz.prog W base spare held n' 3 ((cs.drop 1).take (Tryz.prog.cellsOf 3)) = xs[1]? := hg 1 _ rfl
  obtain ⟨y1, hy1⟩ := some_ 1 (by omega)
  rw [hy1, cells3] at f1
  obtain ⟨z1, e1, n1⟩ := open_i3 f1
  have hc : cs = (cs.drop 0).take 1 ++ ((cs.drop 1).take 1 ++ cs.drop 2) := by
    have h0 : cs = cs.drop 0 := rfl
    have h1 := dropSplit cs 0 1
    have h2 := dropSplit cs 1 1
    conv => lhs; rw [h0, h1]
    rw [show 0 + 1 = 1 from rfl]
    conv => lhs; rw [h2]
  rw [List.drop_eq_nil_of_le (by omega : cs.length ≤ 2), e0, e1] at hc
  refine ⟨⟨z0, z1⟩, hc.trans ?_, ⟨n0, n1⟩⟩
  rfl
theorem flat_range {α : Type} {enc : α → List Value} {k : Nat} (hk : ∀ x, (enc x).length = k) (k0 : 0 < k) (f : Nat → α) (n i : Nat) (v : Value) (h : (((List.range n).map f).flatMap enc)[i]? = some v) : ∃ q j, q < n ∧ j < k ∧ i = q * k + j ∧ (enc (f q))[j]? = some v := by
  have hl := flat_length hk ((List.range n).map f)
  have hi := (List.getElem?_eq_some_iff.1 h).1
  rw [hl] at hi
  simp at hi
  have hq : i / k < n := Nat.div_lt_of_lt_mul (by rw [Nat.mul_comm]; exact hi)
  have hq' : i / k < ((List.range n).map f).length := by simpa using hq
  have hj : i % k < k := Nat.mod_lt _ k0
  have e : i / k * k + i % k = i := Nat.div_add_mod' i k
  refine ⟨i / k, i % k, hq, hj, e.symm, ?_⟩
  have := flat_get hk ((List.range n).map f) (i / k) (i % k) hq' hj
  rw [e, h] at this
  rw [this]
  simp
set_option maxRecDepth 100000 in
theorem open_list {α : Type} [Inhabited α] {ec : α → List Value} {k TS T : Nat} {Pn : α → Prop} (hk : ∀ x, (ec x).length = k) (k0 : 0 < k) (hfirst : ∀ y, ∃ kd z, (ec y)[0]? = some (.int kd z)) (hu : Tryz.prog.underlying TS = some (.slice T)) (hcl : Tryz.prog.cellsOf T = k)
    (ho : ∀ {base n : Nat} {spare : Nat → Bool} {held : Bool} {cs : List Value} {x : DataW H × List MemPlace}, DataW.trod enc Tryz.prog W base spare held n T cs = some x → ∃ y : α, cs = ec y ∧ Pn y)
    {v : Value} {d : DataW H} {p : List MemPlace} {b0 : Nat} (hv : Value.okWide Tryz.prog W .any b0 TS v) (h : DataW.Trod enc Tryz.prog W 0 (fun _ => true) true TS v d p) :
    ∃ A l c, v = .slice A l.length c ∧ HL ec W A l c ∧ ∀ x ∈ l, Pn x := by
  obtain ⟨a0, len0, cap0, rfl⟩ := okWide_slice hu hv
  obtain ⟨fuel, hf⟩ := h
  rcases Deep.open_slice hu hf with ⟨e1, _⟩ | ⟨a, len, cap, m, n, D, Pl, e1, hb, hl, hm, hmm, _, hx⟩
  · simp [Value.cells] at e1
    obtain ⟨rfl, rfl, rfl⟩ := e1
    exact ⟨none, [], 0, rfl, ⟨.inl rfl, Nat.le_refl _, by simp⟩, by simp⟩
  · simp [Value.cells] at e1
    obtain ⟨rfl, rfl, rfl⟩ := e1
    have hmm : m = cap0 := by simpa using hmm
    subst hmm
    rw [hcl] at hx
    obtain ⟨f, hf2⟩ := Deep.choose_lt (p := fun i (y : α) => W.cells? 0 (a.add (i * k)) k = some (ec y) ∧ Pn y) (fun i hi => by
      obtain ⟨cs', h1, h2⟩ := hx i hi
      obtain ⟨y, rfl, hy⟩ := ho h2
      exact ⟨y, h1, hy⟩)
    have hlen : ((List.range len0).map f).length = len0 := by simp
    refine ⟨some a, (List.range len0).map f, m, by rw [hlen], ⟨?_, by rw [hlen]; exact hl, by rw [hlen]; simp only [maxLen] at hm; omega⟩, ?_⟩
    · by_cases h0 : len0 = 0
      · subst h0; exact .inl rfl
      · have hc : ∀ i < len0, ∀ j < k, W.cell? ((a.add (i * k)).add j) = (ec (f i))[j]? := fun i hi j hj => (World.cells?_some (hf2 i (by omega)).1).2.2 j hj
        have hs : a.spot = none := by
          have h1 := hc 0 (by omega) 0 k0
          obtain ⟨kd, z, hz⟩ := hfirst (f 0)
          rw [hz] at h1
          have h2 : W.cell? a = some (.int kd z) := by
            have e0 : (a.add (0 * k)).add 0 = a := by
              rw [Nat.zero_mul]; rfl
            rw [e0] at h1; exact h1
          unfold World.cell? at h2
          cases hsp : a.spot with
          | none => rfl
          | some s =>
            simp only [hsp] at h2
            split at h2 <;> simp at h2
        obtain ⟨b, o, sp⟩ := a
        simp only at hs
        subst hs
        refine .inr ⟨b, o, rfl, fun i v hv => ?_⟩
        obtain ⟨q, j, hq, hj, rfl, hg⟩ := flat_range hk k0 f len0 i v hv
        have := hc q hq j hj
        rw [hg] at this
        rw [← this]
        rw [add_spot, add_spot, Nat.add_assoc]
    · intro x hx
      obtain ⟨i, hi, rfl⟩ := List.mem_map.1 hx
      exact (hf2 i (by have := List.mem_range.1 hi; omega)).2
end
end Go.Proofs.YtcnbpfecgokhiaaGreatDoor
namespace Go.Proofs.YtcnbpfecgokhiaaGreatDoor
open Go.Eng Go.RowKit Go.ChangeShapes Go.WideShapes Go.ChangeAt
theorem underOs : Tryz.prog.underlying 23 = some (.slice 41) := by kernel_rfl
theorem underUs : Tryz.prog.underlying 61 = some (.slice 70) := by kernel_rfl
theorem recOs : Tryz.prog.readableRec 23 = true := by kernel_rfl
theorem recUs : Tryz.prog.readableRec 61 = true := by kernel_rfl
theorem rowOs : (23 : TypeId) < Tryz.prog.types.size := of_decide_eq_true (by kernel_rfl)
theorem rowUs : (61 : TypeId) < Tryz.prog.types.size := of_decide_eq_true (by kernel_rfl)
section
variable {H : Type} {enc : TypeId × Value → H} {P : Program} {w : World} {base : Nat} {spare : Nat → Bool} {held : Bool}
theorem trodAll_mkn5 {t0 t1 t2 t3 t4 : TypeId} {v0 v1 v2 v3 v4 : Value} {d0 d1 d2 d3 d4 : DataW H} {p0 p1 p2 p3 p4 : List MemPlace} (h0 : DataW.Trod enc P w base spare held t0 v0 d0 p0) (h1 : DataW.Trod enc P w base spare held t1 v1 d1 p1) (h2 : DataW.Trod enc P w base spare held t2 v2 d2 p2) (h3 : DataW.Trod enc P w base spare held t3 v3 d3 p3) (h4 : DataW.Trod enc P w base spare held t4 v4 d4 p4) :
    DataW.TrodAll enc P w base spare held [t0, t1, t2, t3, t4] [v0, v1, v2, v3, v4] [d0, d1, d2, d3, d4] (p0 ++ (p1 ++ (p2 ++ (p3 ++ (p4))))) := ⟨p0, _, h0, trodAll_mk4 h1 h2 h3 h4, rfl⟩
theorem trodAll_n6 {t0 t1 t2 t3 t4 t5 : TypeId} {args : Array Value} {ds : List (DataW H)} {ps : List MemPlace} (h : DataW.TrodAll enc P w base spare held [t0, t1, t2, t3, t4, t5] args.toList ds ps) :
    ∃ v0 v1 v2 v3 v4 v5 d0 d1 d2 d3 d4 d5 p0 p1 p2 p3 p4 p5, args = #[v0, v1, v2, v3, v4, v5] ∧ ds = [d0, d1, d2, d3, d4, d5] ∧ ps = p0 ++ (p1 ++ (p2 ++ (p3 ++ (p4 ++ (p5))))) ∧ DataW.Trod enc P w base spare held t0 v0 d0 p0 ∧ DataW.Trod enc P w base spare held t1 v1 d1 p1 ∧ DataW.Trod enc P w base spare held t2 v2 d2 p2 ∧ DataW.Trod enc P w base spare held t3 v3 d3 p3 ∧ DataW.Trod enc P w base spare held t4 v4 d4 p4 ∧ DataW.Trod enc P w base spare held t5 v5 d5 p5 := by
  obtain ⟨v0, vs0, d0, ds0, p0, q0, hargs, rfl, rfl, h0, r0⟩ := trodAll_cons h
  obtain ⟨v1, vs1, d1, ds1, p1, q1, rfl, rfl, rfl, h1, r1⟩ := trodAll_cons r0
  obtain ⟨v2, vs2, d2, ds2, p2, q2, rfl, rfl, rfl, h2, r2⟩ := trodAll_cons r1
  obtain ⟨v3, vs3, d3, ds3, p3, q3, rfl, rfl, rfl, h3, r3⟩ := trodAll_cons r2
  obtain ⟨v4, vs4, d4, ds4, p4, q4, rfl, rfl, rfl, h4, r4⟩ := trodAll_cons r3
  obtain ⟨v5, vs5, d5, ds5, p5, q5, rfl, rfl, rfl, h5, r5⟩ := trodAll_cons r4
  obtain ⟨rfl, rfl, rfl⟩ := trodAll_nil r5
  exact ⟨v0, v1, v2, v3, v4, v5, d0, d1, d2, d3, d4, d5, p0, p1, p2, p3, p4, p5, by cases args; simp_all, rfl, by simp, h0, h1, h2, h3, h4, h5⟩
theorem trodAll_mkn6 {t0 t1 t2 t3 t4 t5 : TypeId} {v0 v1 v2 v3 v4 v5 : Value} {d0 d1 d2 d3 d4 d5 : DataW H} {p0 p1 p2 p3 p4 p5 : List MemPlace} (h0 : DataW.Trod enc P w base spare held t0 v0 d0 p0) (h1 : DataW.Trod enc P w base spare held t1 v1 d1 p1) (h2 : DataW.Trod enc P w base spare held t2 v2 d2 p2) (h3 : DataW.Trod enc P w base spare held t3 v3 d3 p3) (h4 : DataW.Trod enc P w base spare held t4 v4 d4 p4) (h5 : DataW.Trod enc P w base spare held t5 v5 d5 p5) :
    DataW.TrodAll enc P w base spare held [t0, t1, t2, t3, t4, t5] [v0, v1, v2, v3, v4, v5] [d0, d1, d2, d3, d4, d5] (p0 ++ (p1 ++ (p2 ++ (p3 ++ (p4 ++ (p5)))))) := ⟨p0, _, h0, trodAll_mkn5 h1 h2 h3 h4 h5, rfl⟩
theorem trodAll_n7 {t0 t1 t2 t3 t4 t5 t6 : TypeId} {args : Array Value} {ds : List (DataW H)} {ps : List MemPlace} (h : DataW.TrodAll enc P w base spare held [t0, t1, t2, t3, t4, t5, t6] args.toList ds ps) :
    ∃ v0 v1 v2 v3 v4 v5 v6 d0 d1 d2 d3 d4 d5 d6 p0 p1 p2 p3 p4 p5 p6, args = #[v0, v1, v2, v3, v4, v5, v6] ∧ ds = [d0, d1, d2, d3, d4, d5, d6] ∧ ps = p0 ++ (p1 ++ (p2 ++ (p3 ++ (p4 ++ (p5 ++ (p6)))))) ∧ DataW.Trod enc P w base spare held t0 v0 d0 p0 ∧ DataW.Trod enc P w base spare held t1 v1 d1 p1 ∧ DataW.Trod enc P w base spare held t2 v2 d2 p2 ∧ DataW.Trod enc P w base spare held t3 v3 d3 p3 ∧ DataW.Trod enc P w base spare held t4 v4 d4 p4 ∧ DataW.Trod enc P w base spare held t5 v5 d5 p5 ∧ DataW.Trod enc P w base spare held t6 v6 d6 p6 := by
  obtain ⟨v0, vs0, d0, ds0, p0, q0, hargs, rfl, rfl, h0, r0⟩ := trodAll_cons h
  obtain ⟨v1, vs1, d1, ds1, p1, q1, rfl, rfl, rfl, h1, r1⟩ := trodAll_cons r0
  obtain ⟨v2, vs2, d2, ds2, p2, q2, rfl, rfl, rfl, h2, r2⟩ := trodAll_cons r1
  obtain ⟨v3, vs3, d3, ds3, p3, q3, rfl, rfl, rfl, h3, r3⟩ := trodAll_cons r2
  obtain ⟨v4, vs4, d4, ds4, p4, q4, rfl, rfl, rfl, h4, r4⟩ := trodAll_cons r3
  obtain ⟨v5, vs5, d5, ds5, p5, q5, rfl, rfl, rfl, h5, r5⟩ := trodAll_cons r4
  obtain ⟨v6, vs6, d6, ds6, p6, q6, rfl, rfl, rfl, h6, r6⟩ := trodAll_cons r5
  obtain ⟨rfl, rfl, rfl⟩ := trodAll_nil r6
  exact ⟨v0, v1, v2, v3, v4, v5, v6, d0, d1, d2, d3, d4, d5, d6, p0, p1, p2, p3, p4, p5, p6, by cases args; simp_all, rfl, by simp, h0, h1, h2, h3, h4, h5, h6⟩
theorem trodAll_mkn7 {t0 t1 t2 t3 t4 t5 t6 : TypeId} {v0 v1 v2 v3 v4 v5 v6 : Value} {d0 d1 d2 d3 d4 d5 d6 : DataW H} {p0 p1 p2 p3 p4 p5 p6 : List MemPlace} (h0 : DataW.Trod enc P w base spare held t0 v0 d0 p0) (h1 : DataW.Trod enc P w base spare held t1 v1 d1 p1) (h2 : DataW.Trod enc P w base spare held t2 v2 d2 p2) (h3 : DataW.Trod enc P w base spare held t3 v3 d3 p3) (h4 : DataW.Trod enc P w base spare held t4 v4 d4 p4) (h5 : DataW.Trod enc P w base spare held t5 v5 d5 p5) (h6 : DataW.Trod enc P w base spare held t6 v6 d6 p6) :
    DataW.TrodAll enc P w base spare held [t0, t1, t2, t3, t4, t5, t6] [v0, v1, v2, v3, v4, v5, v6] [d0, d1, d2, d3, d4, d5, d6] (p0 ++ (p1 ++ (p2 ++ (p3 ++ (p4 ++ (p5 ++ (p6))))))) := ⟨p0, _, h0, trodAll_mkn6 h1 h2 h3 h4 h5 h6, rfl⟩
end
end Go.Proofs.YtcnbpfecgokhiaaGreatDoor
namespace Go.Proofs.YtcnbpfecgokhiaaGreatDoor
open Go
theorem kLaid : laidOutB Tryz.pinned.checked.prog = true := by kernel_rfl
theorem kMaps : mapsRowed Tryz.pinned.checked.prog = true := by kernel_rfl
theorem kStops : (Tryz.pinned.checked.prog.stops == []) = true := by kernel_rfl
theorem kKnobs : (Tryz.pinned.checked.prog.stopKnobs == []) = true := by kernel_rfl
theorem kHeard : Tryz.pinned.checked.prog.stopsHeard = true := by kernel_rfl
theorem kEnter : Tryz.pinned.checked.prog.mayEnter = true := by kernel_rfl
theorem kPlain : Tryz.pinned.checked.prog.plainKeys = false := by kernel_rfl
theorem kLifts : Tryz.pinned.checked.prog.liftsFinal = false := by kernel_rfl
end Go.Proofs.YtcnbpfecgokhiaaGreatDoor
namespace Go.Proofs.YtcnbpfecgokhiaaGreatDoor
open Go.Eng Go.RowKit
set_option maxRecDepth 100000 in
theorem refWaivers_spec {w : World} {A : Option Addr} {es : List Entry} {c : Nat} (h : HL Entry.cells w A es c) (hl : es.length ≤ 2 ^ 16) (hA : Acc es) (day : Int) :
    CallsV C.P 51 #[.agg #[.slice A es.length c], .int .i64 day] w fun v w' => NewL Waiv.cells 35 9 w.heap.size w' v (waiversAt es day) ∧ Ext w w' := by
  have hal := asOfL_length es day
  have hwl := waivL_length (asOfL es day)
  refine callsV_of C_ok (args := [_, _]) (plans := []) Tryz.func51 rfl Tryz.ntmps51 (by kernel_rfl) (Nat.le_of_ble_eq_true rfl) ?_
  intro g w1 h1
  have M1 : Mem w w1 [(g, .cells #[.slice A es.length c] 30 (0, 0))] := (Mem.start w).alloc h1
  refine ⟨[_], rfl, M1.rd 0 rfl, ?_⟩
  refine (refAsOf_spec (h.ext M1.ext) hl day).mono ?_
  rintro v w2 ⟨⟨v', rfl, hv⟩, e2⟩
  obtain ⟨A2, c2, rfl, h2⟩ := hv.hl
  refine (Granted_spec h2 (by omega) (acc_asOf hA day)).mono ?_
  rintro v w3 ⟨hw, e3⟩
  obtain ⟨A3, c3, rfl, h3⟩ := hw.hl
  have e03 : Ext w w3 := M1.ext.trans (e2.trans e3)
  obtain ⟨l, hle⟩ : ∃ l, l = waivL (asOfL es day) := ⟨_, rfl⟩
  have hfin : waiversAt es day = l.filter (forceB day) := by rw [hle]; rfl
  rw [← hle] at h3 hwl ⊢
  refine loopE C_ok (fun (p : Nat × Value) => [(1, .int .i64 day), (6, .slice A3 l.length c3), (5, p.2), (7, .int .i64 p.1)])
    (fun p w' => p.1 ≤ l.length ∧ NewL Waiv.cells 35 9 w3.heap.size w' p.2 ((l.take p.1).filter (forceB day)) ∧ Ext w3 w') (fun p => l.length - p.1) (0, .slice none 0 0) ⟨rfl, rfl, rfl, rfl, trivial⟩
    ⟨Nat.zero_le _, newL_nil, Ext.refl _⟩ ?_
  rintro ⟨i, v⟩ w4 ⟨hi', ho', e4⟩
  have hi : i ≤ l.length := hi'
  have ho : NewL Waiv.cells 35 9 w3.heap.size w4 v ((l.take i).filter (forceB day)) := ho'
  clear hi' ho'
  have hfl : ((l.take i).filter (forceB day)).length ≤ i := Nat.le_trans (List.length_filter_le _ _) (by rw [List.length_take]; omega)
  refine brE_dec (fun hlt => ?_) (fun hge => ?_)
  · have hlti : i < l.length := by have : (i : Int) < (l.length : Nat) := hlt; omega
    have next : IntKind.i64.wrap ((i : Int) + 1) = ((i + 1 : Nat) : Int) := fit ⟨by omega, by omega⟩
    obtain ⟨b, o, hA3, hc⟩ := (h3.ext e4).at Waiv.len (by omega) hlti
    have hs : (l.take (i + 1)).filter (forceB day) = (l.take i).filter (forceB day) ++ if (forceB day) l[i] = true then [l[i]] else [] := by
      rw [List.take_succ_eq_append_getElem hlti, List.filter_append, List.filter_cons, List.filter_nil]
    refine ⟨i, b, o, rfl, hlti, hA3, ?_⟩
    refine ⟨_, hc 7 _ rfl, ?_⟩
    refine brE_dec (fun d1 => ?_) (fun d1 => ?_)
    · have d1 : l[i].since ≤ day := d1
      refine ⟨i, b, o, rfl, hlti, hA3, ?_⟩
      refine ⟨_, hc 8 _ rfl, ?_⟩
      refine brE_dec (fun d2 => ?_) (fun d2 => ?_)
      · have d2 : day < l[i].til := d2
        have hP : (forceB day) l[i] = true := by unfold forceB; rw [decide_eq_true d1, decide_eq_true d2]; rfl
        refine ⟨i, b, o, rfl, hlti, hA3, ?_⟩
        refine ⟨l[i].cells, rfl, hc, ?_⟩
        intro g6 w5 h5
        have ho5 := ho.ext h5.ext
        have e5 := e4.trans h5.ext
        refine ⟨rfl, rfl, rfl, w3.heap.size, _, _, l[i].cells, ho5, e5.size, Nat.le_of_ble_eq_true rfl, rfl, rfl, .inr ⟨g6, 0, rfl, Rd.of_block h5.here⟩, rfl, rfl, by omega, by simp only [maxLen]; omega, ?_⟩
        intro v6 w6 ho6 hg6 hpl
        have e6 : Ext w3 w6 := app_ext e5 ho5 hg6
        refine ⟨_, next, ?_⟩
        refine ⟨(i + 1, v6), ⟨rfl, rfl, rfl, rfl, trivial⟩, ⟨hlti, ?_, e6⟩, by show l.length - (i + 1) < l.length - i; omega⟩
        show NewL _ _ _ _ _ _ ((l.take (i + 1)).filter (forceB day))
        rw [hs, if_pos hP]
        unfold NewL
        rw [List.length_append, List.flatMap_append]
        simpa using ho6
      · have d2 : ¬ day < l[i].til := d2
        have hP : (forceB day) l[i] = false := by unfold forceB; rw [decide_eq_false d2, Bool.and_false]
        refine ⟨_, next, ?_⟩
        refine ⟨(i + 1, v), ⟨rfl, rfl, rfl, rfl, trivial⟩, ⟨hlti, ?_, e4⟩, by show l.length - (i + 1) < l.length - i; omega⟩
        show NewL _ _ _ _ _ _ ((l.take (i + 1)).filter (forceB day))
        rw [hs, if_neg (by rw [hP]; decide), List.append_nil]; exact ho
    · have d1 : ¬ l[i].since ≤ day := d1
      have hP : (forceB day) l[i] = false := by unfold forceB; rw [decide_eq_false d1, Bool.false_and]
      refine ⟨_, next, ?_⟩
      refine ⟨(i + 1, v), ⟨rfl, rfl, rfl, rfl, trivial⟩, ⟨hlti, ?_, e4⟩, by show l.length - (i + 1) < l.length - i; omega⟩
      show NewL _ _ _ _ _ _ ((l.take (i + 1)).filter (forceB day))
      rw [hs, if_neg (by rw [hP]; decide), List.append_nil]; exact ho
  · have hie : i = l.length := by have : ¬ (i : Int) < (l.length : Nat) := hge; omega
    rw [hie, List.take_length] at ho
    rw [hfin]
    exact ⟨NewL.base ho e03.size, e03.trans e4⟩
set_option maxRecDepth 100000 in
theorem refGifts_spec {w : World} {A : Option Addr} {es : List Entry} {c : Nat} (h : HL Entry.cells w A es c) (hl : es.length ≤ 2 ^ 16) (hA : Acc es) (st day : Int) :
    CallsV C.P 55 #[.agg #[.slice A es.length c], .int .i64 st, .int .i64 day] w fun v w' => NewL Gift.cells 37 10 w.heap.size w' v (giftsAt es st day) ∧ Ext w w' := by
  have hal := asOfL_length es day
  have hwl := giftL_length (asOfL es day)
  refine callsV_of C_ok (args := [_, _, _]) (plans := []) Tryz.func55 rfl Tryz.ntmps55 (by kernel_rfl) (Nat.le_of_ble_eq_true rfl) ?_
  intro g w1 h1
  have M1 : Mem w w1 [(g, .cells #[.slice A es.length c] 30 (0, 0))] := (Mem.start w).alloc h1
  refine ⟨[_], rfl, M1.rd 0 rfl, ?_⟩
  refine (refAsOf_spec (h.ext M1.ext) hl day).mono ?_
  rintro v w2 ⟨⟨v', rfl, hv⟩, e2⟩
  obtain ⟨A2, c2, rfl, h2⟩ := hv.hl
  refine (Given_spec h2 (by omega) (acc_asOf hA day)).mono ?_
  rintro v w3 ⟨hw, e3⟩
  obtain ⟨A3, c3, rfl, h3⟩ := hw.hl
  have e03 : Ext w w3 := M1.ext.trans (e2.trans e3)
  obtain ⟨l, hle⟩ : ∃ l, l = giftL (asOfL es day) := ⟨_, rfl⟩
  have hfin : giftsAt es st day = l.filter (fun g : Gift => decide (g.frm = st) || decide (g.to = st)) := by rw [hle]; rfl
  rw [← hle] at h3 hwl ⊢
  refine loopE C_ok (fun (p : Nat × Value) => [(1, .int .i64 st), (2, .int .i64 day), (7, .slice A3 l.length c3), (8, p.2), (9, .int .i64 p.1)])
    (fun p w' => p.1 ≤ l.length ∧ NewL Gift.cells 37 10 w3.heap.size w' p.2 ((l.take p.1).filter (fun g : Gift => decide (g.frm = st) || decide (g.to = st))) ∧ Ext w3 w') (fun p => l.length - p.1) (0, .slice none 0 0) ⟨rfl, rfl, rfl, rfl, rfl, trivial⟩
    ⟨Nat.zero_le _, newL_nil, Ext.refl _⟩ ?_
  rintro ⟨i, v⟩ w4 ⟨hi', ho', e4⟩
  have hi : i ≤ l.length := hi'
  have ho : NewL Gift.cells 37 10 w3.heap.size w4 v ((l.take i).filter (fun g : Gift => decide (g.frm = st) || decide (g.to = st))) := ho'
  clear hi' ho'
  have hfl : ((l.take i).filter (fun g : Gift => decide (g.frm = st) || decide (g.to = st))).length ≤ i := Nat.le_trans (List.length_filter_le _ _) (by rw [List.length_take]; omega)
  refine brE_dec (fun hlt => ?_) (fun hge => ?_)
  · have hlti : i < l.length := by have : (i : Int) < (l.length : Nat) := hlt; omega
    have next : IntKind.i64.wrap ((i : Int) + 1) = ((i + 1 : Nat) : Int) := fit ⟨by omega, by omega⟩
    obtain ⟨b, o, hA3, hc⟩ := (h3.ext e4).at Gift.len (by omega) hlti
    have hs : (l.take (i + 1)).filter (fun g : Gift => decide (g.frm = st) || decide (g.to = st)) = (l.take i).filter (fun g : Gift => decide (g.frm = st) || decide (g.to = st)) ++ if (fun g : Gift => decide (g.frm = st) || decide (g.to = st)) l[i] = true then [l[i]] else [] := by
      rw [List.take_succ_eq_append_getElem hlti, List.filter_append, List.filter_cons, List.filter_nil]
    refine ⟨i, b, o, rfl, hlti, hA3, ?_⟩
    refine ⟨_, hc 2 _ rfl, ?_⟩
    refine brE_dec (fun d1 => ?_) (fun d1 => ?_)
    · have d1 : l[i].frm = st := d1
      have hP : (fun g : Gift => decide (g.frm = st) || decide (g.to = st)) l[i] = true := by show (decide (l[i].frm = st) || decide (l[i].to = st)) = true; rw [decide_eq_true d1, Bool.true_or]
      refine ⟨i, b, o, rfl, hlti, hA3, ?_⟩
      refine ⟨l[i].cells, rfl, hc, ?_⟩
      intro g6 w5 h5
      have ho5 := ho.ext h5.ext
      have e5 := e4.trans h5.ext
      refine ⟨rfl, rfl, rfl, w3.heap.size, _, _, l[i].cells, ho5, e5.size, Nat.le_of_ble_eq_true rfl, rfl, rfl, .inr ⟨g6, 0, rfl, Rd.of_block h5.here⟩, rfl, rfl, by omega, by simp only [maxLen]; omega, ?_⟩
      intro v6 w6 ho6 hg6 hpl
      have e6 : Ext w3 w6 := app_ext e5 ho5 hg6
      refine ⟨_, next, ?_⟩
      refine ⟨(i + 1, v6), ⟨rfl, rfl, rfl, rfl, rfl, trivial⟩, ⟨hlti, ?_, e6⟩, by show l.length - (i + 1) < l.length - i; omega⟩
      show NewL _ _ _ _ _ _ ((l.take (i + 1)).filter (fun g : Gift => decide (g.frm = st) || decide (g.to = st)))
      rw [hs, if_pos hP]
      unfold NewL
      rw [List.length_append, List.flatMap_append]
      simpa using ho6
    · have d1 : ¬ l[i].frm = st := d1
      refine ⟨i, b, o, rfl, hlti, hA3, ?_⟩
      refine ⟨_, hc 3 _ rfl, ?_⟩
      refine brE_dec (fun d2 => ?_) (fun d2 => ?_)
      · have d2 : l[i].to = st := d2
        have hP : (fun g : Gift => decide (g.frm = st) || decide (g.to = st)) l[i] = true := by show (decide (l[i].frm = st) || decide (l[i].to = st)) = true; rw [decide_eq_true d2, Bool.or_true]
        refine ⟨i, b, o, rfl, hlti, hA3, ?_⟩
        refine ⟨l[i].cells, rfl, hc, ?_⟩
        intro g6 w5 h5
        have ho5 := ho.ext h5.ext
        have e5 := e4.trans h5.ext
        refine ⟨rfl, rfl, rfl, w3.heap.size, _, _, l[i].cells, ho5, e5.size, Nat.le_of_ble_eq_true rfl, rfl, rfl, .inr ⟨g6, 0, rfl, Rd.of_block h5.here⟩, rfl, rfl, by omega, by simp only [maxLen]; omega, ?_⟩
        intro v6 w6 ho6 hg6 hpl
        have e6 : Ext w3 w6 := app_ext e5 ho5 hg6
        refine ⟨_, next, ?_⟩
        refine ⟨(i + 1, v6), ⟨rfl, rfl, rfl, rfl, rfl, trivial⟩, ⟨hlti, ?_, e6⟩, by show l.length - (i + 1) < l.length - i; omega⟩
        show NewL _ _ _ _ _ _ ((l.take (i + 1)).filter (fun g : Gift => decide (g.frm = st) || decide (g.to = st)))
        rw [hs, if_pos hP]
        unfold NewL
        rw [List.length_append, List.flatMap_append]
        simpa using ho6
      · have d2 : ¬ l[i].to = st := d2
        have hP : (fun g : Gift => decide (g.frm = st) || decide (g.to = st)) l[i] = false := by show (decide (l[i].frm = st) || decide (l[i].to = st)) = false; rw [decide_eq_false d1, decide_eq_false d2]; rfl
        refine ⟨_, next, ?_⟩
        refine ⟨(i + 1, v), ⟨rfl, rfl, rfl, rfl, rfl, trivial⟩, ⟨hlti, ?_, e4⟩, by show l.length - (i + 1) < l.length - i; omega⟩
        show NewL _ _ _ _ _ _ ((l.take (i + 1)).filter (fun g : Gift => decide (g.frm = st) || decide (g.to = st)))
        rw [hs, if_neg (by rw [hP]; decide), List.append_nil]; exact ho
  · have hie : i = l.length := by have : ¬ (i : Int) < (l.length : Nat) := hge; omega
    rw [hie, List.take_length] at ho
    rw [hfin]
    exact ⟨NewL.base ho e03.size, e03.trans e4⟩
set_option maxRecDepth 100000 in
theorem refOverdue_spec {w : World} {A : Option Addr} {es : List Entry} {c : Nat} (h : HL Entry.cells w A es c) (hl : es.length ≤ 2 ^ 16) (hA : Acc es) (day : Int) :
    CallsV C.P 58 #[.agg #[.slice A es.length c], .int .i64 day] w fun v w' => NewL Gift.cells 37 10 w.heap.size w' v (overdueAt es day) ∧ Ext w w' := by
  have hal := asOfL_length es day
  have hwl := giftL_length (asOfL es day)
  refine callsV_of C_ok (args := [_, _]) (plans := []) Tryz.func58 rfl Tryz.ntmps58 (by kernel_rfl) (Nat.le_of_ble_eq_true rfl) ?_
  intro g w1 h1
  have M1 : Mem w w1 [(g, .cells #[.slice A es.length c] 30 (0, 0))] := (Mem.start w).alloc h1
  refine ⟨[_], rfl, M1.rd 0 rfl, ?_⟩
  refine (refAsOf_spec (h.ext M1.ext) hl day).mono ?_
  rintro v w2 ⟨⟨v', rfl, hv⟩, e2⟩
  obtain ⟨A2, c2, rfl, h2⟩ := hv.hl
  refine (Given_spec h2 (by omega) (acc_asOf hA day)).mono ?_
  rintro v w3 ⟨hw, e3⟩
  obtain ⟨A3, c3, rfl, h3⟩ := hw.hl
  have e03 : Ext w w3 := M1.ext.trans (e2.trans e3)
  obtain ⟨l, hle⟩ : ∃ l, l = giftL (asOfL es day) := ⟨_, rfl⟩
  have hfin : overdueAt es day = l.filter (fun g : Gift => debtB g && decide (day > g.answered + 365)) := by rw [hle]; rfl
  have hday : ∀ g ∈ l, 0 ≤ g.answered ∧ g.answered ≤ 100000 := by rw [hle]; exact answered_ok (acc_asOf hA day)
  rw [← hle] at h3 hwl ⊢
  refine loopE C_ok (fun (p : Nat × Value) => [(1, .int .i64 day), (5, .slice A3 l.length c3), (6, p.2), (7, .int .i64 p.1)])
    (fun p w' => p.1 ≤ l.length ∧ NewL Gift.cells 37 10 w3.heap.size w' p.2 ((l.take p.1).filter (fun g : Gift => debtB g && decide (day > g.answered + 365))) ∧ Ext w3 w') (fun p => l.length - p.1) (0, .slice none 0 0) ⟨rfl, rfl, rfl, rfl, trivial⟩
    ⟨Nat.zero_le _, newL_nil, Ext.refl _⟩ ?_
  rintro ⟨i, v⟩ w4 ⟨hi', ho', e4⟩
  have hi : i ≤ l.length := hi'
  have ho : NewL Gift.cells 37 10 w3.heap.size w4 v ((l.take i).filter (fun g : Gift => debtB g && decide (day > g.answered + 365))) := ho'
  clear hi' ho'
  have hfl : ((l.take i).filter (fun g : Gift => debtB g && decide (day > g.answered + 365))).length ≤ i := Nat.le_trans (List.length_filter_le _ _) (by rw [List.length_take]; omega)
  refine brE_dec (fun hlt => ?_) (fun hge => ?_)
  · have hlti : i < l.length := by have : (i : Int) < (l.length : Nat) := hlt; omega
    have next : IntKind.i64.wrap ((i : Int) + 1) = ((i + 1 : Nat) : Int) := fit ⟨by omega, by omega⟩
    obtain ⟨b, o, hA3, hc⟩ := (h3.ext e4).at Gift.len (by omega) hlti
    have hs : (l.take (i + 1)).filter (fun g : Gift => debtB g && decide (day > g.answered + 365)) = (l.take i).filter (fun g : Gift => debtB g && decide (day > g.answered + 365)) ++ if (fun g : Gift => debtB g && decide (day > g.answered + 365)) l[i] = true then [l[i]] else [] := by
      rw [List.take_succ_eq_append_getElem hlti, List.filter_append, List.filter_cons, List.filter_nil]
    have hans := hday l[i] (List.getElem_mem hlti)
    refine ⟨i, b, o, rfl, hlti, hA3, ?_⟩
    refine ⟨_, hc 9 _ rfl, ?_⟩
    refine brE_dec (fun d1 => ?_) (fun d1 => ?_)
    · have d1 : l[i].returns = 0 := d1
      refine ⟨i, b, o, rfl, hlti, hA3, ?_⟩
      refine ⟨_, hc 7 _ rfl, ?_⟩
      refine brE_dec (fun d2 => ?_) (fun d2 => ?_)
      · have d2 : l[i].state = 2 := d2
        refine ⟨i, b, o, rfl, hlti, hA3, ?_⟩
        refine ⟨_, hc 8 _ rfl, ?_⟩
        refine ⟨l[i].answered + 365, fit ⟨by omega, by omega⟩, ?_⟩
        refine brE_dec (fun d3 => ?_) (fun d3 => ?_)
        · have d3 : day > l[i].answered + 365 := d3
          have hP : (fun g : Gift => debtB g && decide (day > g.answered + 365)) l[i] = true := by show (debtB l[i] && decide (day > l[i].answered + 365)) = true; unfold debtB; rw [decide_eq_true d1, decide_eq_true d2, decide_eq_true d3]; rfl
          refine ⟨i, b, o, rfl, hlti, hA3, ?_⟩
          refine ⟨l[i].cells, rfl, hc, ?_⟩
          intro g6 w5 h5
          have ho5 := ho.ext h5.ext
          have e5 := e4.trans h5.ext
          refine ⟨rfl, rfl, rfl, w3.heap.size, _, _, l[i].cells, ho5, e5.size, Nat.le_of_ble_eq_true rfl, rfl, rfl, .inr ⟨g6, 0, rfl, Rd.of_block h5.here⟩, rfl, rfl, by omega, by simp only [maxLen]; omega, ?_⟩
          intro v6 w6 ho6 hg6 hpl
          have e6 : Ext w3 w6 := app_ext e5 ho5 hg6
          refine ⟨_, next, ?_⟩
          refine ⟨(i + 1, v6), ⟨rfl, rfl, rfl, rfl, trivial⟩, ⟨hlti, ?_, e6⟩, by show l.length - (i + 1) < l.length - i; omega⟩
          show NewL _ _ _ _ _ _ ((l.take (i + 1)).filter (fun g : Gift => debtB g && decide (day > g.answered + 365)))
          rw [hs, if_pos hP]
          unfold NewL
          rw [List.length_append, List.flatMap_append]
          simpa using ho6
        · have d3 : ¬ day > l[i].answered + 365 := d3
          have hP : (fun g : Gift => debtB g && decide (day > g.answered + 365)) l[i] = false := by show (debtB l[i] && decide (day > l[i].answered + 365)) = false; rw [decide_eq_false d3, Bool.and_false]
          refine ⟨_, next, ?_⟩
          refine ⟨(i + 1, v), ⟨rfl, rfl, rfl, rfl, trivial⟩, ⟨hlti, ?_, e4⟩, by show l.length - (i + 1) < l.length - i; omega⟩
          show NewL _ _ _ _ _ _ ((l.take (i + 1)).filter (fun g : Gift => debtB g && decide (day > g.answered + 365)))
          rw [hs, if_neg (by rw [hP]; decide), List.append_nil]; exact ho
      · have d2 : ¬ l[i].state = 2 := d2
        have hP : (fun g : Gift => debtB g && decide (day > g.answered + 365)) l[i] = false := by show (debtB l[i] && decide (day > l[i].answered + 365)) = false; unfold debtB; rw [decide_eq_false d2, Bool.and_false, Bool.false_and]
        refine ⟨_, next, ?_⟩
        refine ⟨(i + 1, v), ⟨rfl, rfl, rfl, rfl, trivial⟩, ⟨hlti, ?_, e4⟩, by show l.length - (i + 1) < l.length - i; omega⟩
        show NewL _ _ _ _ _ _ ((l.take (i + 1)).filter (fun g : Gift => debtB g && decide (day > g.answered + 365)))
        rw [hs, if_neg (by rw [hP]; decide), List.append_nil]; exact ho
    · have d1 : ¬ l[i].returns = 0 := d1
      have hP : (fun g : Gift => debtB g && decide (day > g.answered + 365)) l[i] = false := by show (debtB l[i] && decide (day > l[i].answered + 365)) = false; unfold debtB; rw [decide_eq_false d1, Bool.false_and, Bool.false_and]
      refine ⟨_, next, ?_⟩
      refine ⟨(i + 1, v), ⟨rfl, rfl, rfl, rfl, trivial⟩, ⟨hlti, ?_, e4⟩, by show l.length - (i + 1) < l.length - i; omega⟩
      show NewL _ _ _ _ _ _ ((l.take (i + 1)).filter (fun g : Gift => debtB g && decide (day > g.answered + 365)))
      rw [hs, if_neg (by rw [hP]; decide), List.append_nil]; exact ho
  · have hie : i = l.length := by have : ¬ (i : Int) < (l.length : Nat) := hge; omega
    rw [hie, List.take_length] at ho
    rw [hfin]
    exact ⟨NewL.base ho e03.size, e03.trans e4⟩
end Go.Proofs.YtcnbpfecgokhiaaGreatDoor
namespace Go.Proofs.YtcnbpfecgokhiaaGreatDoor
open Go.Eng Go.RowKit
set_option maxRecDepth 100000 in
set_option maxHeartbeats 1000000 in
theorem refCovers_spec {w : World} {A : Option Addr} {es : List Entry} {c : Nat} (h : HL Entry.cells w A es c) (hl : es.length ≤ 2 ^ 16) (hA : Acc es) (u o : Guest) (day : Int) :
    CallsV C.P 54 #[.agg #[.slice A es.length c], u.val, o.val, .int .i64 day] w fun v w' => v = .bool (coversAt es u o day) ∧ Ext w w' := by
  have hwl := waiversAt_length es day
  refine callsV_of C_ok (args := [_, _, _, _]) (plans := []) Tryz.func54 rfl Tryz.ntmps54 (by kernel_rfl) (Nat.le_of_ble_eq_true rfl) ?_
  intro g4 w1 h1
  have M1 : Mem w w1 [(g4, .cells #[.slice A es.length c] 30 (0, 0))] := (Mem.start w).alloc h1
  intro g5 w2 h2
  have M2 : Mem w w2 [(g5, .cells u.cells.toArray 70 (0, 0)), (g4, .cells #[.slice A es.length c] 30 (0, 0))] := M1.alloc h2
  intro g6 w3 h3
  have M3 : Mem w w3 [(g6, .cells o.cells.toArray 70 (0, 0)), (g5, .cells u.cells.toArray 70 (0, 0)), (g4, .cells #[.slice A es.length c] 30 (0, 0))] := M2.alloc h3
  clear M1 M2 h1 h2 h3
  refine ⟨[_], rfl, M3.rd 2 rfl, ?_⟩
  refine (refWaivers_spec (h.ext M3.ext) hl hA day).mono ?_
  rintro v w4 ⟨hv, e4⟩
  obtain ⟨A4, c4, rfl, h4⟩ := hv.hl
  have M4 := M3.grow e4
  obtain ⟨l, hle⟩ : ∃ l, l = waiversAt es day := ⟨_, rfl⟩
  have hfin : coversAt es u o day = l.any fun x => coversB x u o := by rw [hle]; rfl
  rw [← hle] at h4 hwl ⊢
  refine loopE C_ok (fun (i : Nat) => [(5, .pointer (some ⟨g5, 0, none⟩)), (6, .pointer (some ⟨g6, 0, none⟩)), (9, .slice A4 l.length c4), (10, .int .i64 i)])
    (fun i w' => i ≤ l.length ∧ (∀ j (hj : j < l.length), j < i → coversB l[j] u o = false) ∧ Ext w4 w') (fun i => l.length - i) 0 ⟨rfl, rfl, rfl, rfl, trivial⟩
    ⟨Nat.zero_le _, (fun _ _ h => absurd h (Nat.not_lt_zero _)), Ext.refl _⟩ ?_
  rintro i w5 ⟨hi, hall, e5⟩
  refine brE_dec (fun hlt => ?_) (fun hge => ?_)
  · have hlti : i < l.length := by have : (i : Int) < (l.length : Nat) := hlt; omega
    have next : IntKind.i64.wrap ((i : Int) + 1) = ((i + 1 : Nat) : Int) := fit ⟨by omega, by omega⟩
    have M5 := M4.grow e5
    obtain ⟨x, hx⟩ : ∃ x, x = l[i] := ⟨_, rfl⟩
    obtain ⟨b, ofs, hA4, hc⟩ := (h4.ext e5).at Waiv.len (by omega) hlti
    rw [← hx] at hc
    refine ⟨i, b, ofs, rfl, hlti, hA4, ?_⟩
    refine ⟨x.cells, rfl, hc, ?_⟩
    intro g11 w6 h6
    refine ⟨rfl, _, _, h6.here, Nat.le_of_ble_eq_true rfl, rfl, ?_⟩
    intro w7 h7
    have M7 : Mem w w7 [(g11, .cells x.cells.toArray 35 (0, 0)), (g6, .cells o.cells.toArray 70 (0, 0)), (g5, .cells u.cells.toArray 70 (0, 0)), (g4, .cells #[.slice A es.length c] 30 (0, 0))] := (M5.alloc h6).put 0 rfl h7
    have e57 : Ext w5 w7 := h7.ext_of h6.ext (by rw [h6.new]; exact Nat.le_refl _)
    have yes : coversB x u o = true → Value.bool true = .bool (coversAt es u o day) ∧ Ext w w7 := fun hP =>
      ⟨congrArg Value.bool (by rw [hfin]; exact (List.any_eq_true.2 ⟨l[i], List.getElem_mem hlti, by rw [← hx]; exact hP⟩).symm), M7.ext⟩
    have no : coversB x u o = false → (i + 1 ≤ l.length ∧ (∀ j (hj : j < l.length), j < i + 1 → coversB l[j] u o = false) ∧ Ext w4 w7) := fun hP =>
      ⟨hlti, fun j hj hji => by
        rcases Nat.lt_or_ge j i with hlt | hge
        · exact hall j hj hlt
        · obtain rfl : j = i := by omega
          rw [← hx]; exact hP, e5.trans e57⟩
    refine ⟨_, M7.cell 0 rfl rfl, ?_⟩
    refine ⟨_, M7.cell 2 rfl rfl, ?_⟩
    refine brE_dec (fun k1 => ?y1) (fun k1 => ?n1)
    case' n1 =>
      have k1 : ¬ x.giver = u.state := k1
      have hP : coversB x u o = false := by unfold coversB; rw [decide_eq_false k1, Bool.false_and]
    case' y1 =>
      have k1 : x.giver = u.state := k1
      refine ⟨_, M7.cell 0 rfl rfl, ?_⟩
      refine ⟨_, M7.cell 1 rfl rfl, ?_⟩
      refine brE_dec (fun k2 => ?y2) (fun k2 => ?n2)
    case' n2 =>
      have k2 : ¬ x.taker = o.state := k2
      have hP : coversB x u o = false := by unfold coversB; rw [decide_eq_false k2, Bool.false_and, Bool.and_false]
    case' y2 =>
      have k2 : x.taker = o.state := k2
      refine ⟨_, M7.cell 0 rfl rfl, ?_⟩
      refine brE_dec (fun k3 => ?y3) (fun k3 => ?n3)
    case' y3 =>
      have k3 : x.under = 0 := k3
      have kk : (decide (x.under = 0) || decide (x.under = u.person)) = true := by rw [decide_eq_true k3, Bool.true_or]
    case' n3 =>
      have k3 : ¬ x.under = 0 := k3
      refine ⟨_, M7.cell 0 rfl rfl, ?_⟩
      refine ⟨_, M7.cell 2 rfl rfl, ?_⟩
      refine brE_dec (fun k4 => ?y4) (fun k4 => ?n4)
    case' n4 =>
      have k4 : ¬ x.under = u.person := k4
      have hP : coversB x u o = false := by unfold coversB; rw [decide_eq_false k3, decide_eq_false k4, Bool.false_or, Bool.false_and, Bool.and_false, Bool.and_false]
    case' y4 =>
      have k4 : x.under = u.person := k4
      have kk : (decide (x.under = 0) || decide (x.under = u.person)) = true := by rw [decide_eq_true k4, Bool.or_true]
    case n1 | n2 | n4 =>
      refine ⟨_, next, ?_⟩
      exact ⟨i + 1, ⟨rfl, rfl, rfl, rfl, trivial⟩, no hP, by show l.length - (i + 1) < l.length - i; omega⟩
    all_goals
      refine ⟨_, M7.cell 0 rfl rfl, ?_⟩
      refine brE_dec (fun k5 => ?_) (fun k5 => ?_)
      · have k5 : x.over = 0 := k5
        exact yes (by unfold coversB; rw [decide_eq_true k1, decide_eq_true k2, kk, decide_eq_true k5]; rfl)
      · have k5 : ¬ x.over = 0 := k5
        refine ⟨_, M7.cell 0 rfl rfl, ?_⟩
        refine ⟨_, M7.cell 1 rfl rfl, ?_⟩
        refine brE_dec (fun k6 => ?_) (fun k6 => ?_)
        · have k6 : x.over = o.person := k6
          exact yes (by unfold coversB; rw [decide_eq_true k1, decide_eq_true k2, kk, decide_eq_true k6, Bool.or_true]; rfl)
        · have k6 : ¬ x.over = o.person := k6
          refine ⟨_, next, ?_⟩
          exact ⟨i + 1, ⟨rfl, rfl, rfl, rfl, trivial⟩, no (by unfold coversB; rw [decide_eq_false k5, decide_eq_false k6, Bool.or_false, Bool.and_false, Bool.and_false, Bool.and_false]), by show l.length - (i + 1) < l.length - i; omega⟩
  · have hie : i = l.length := by have : ¬ (i : Int) < (l.length : Nat) := hge; omega
    refine ⟨congrArg Value.bool ?_, M4.ext.trans e5⟩
    rw [hfin]
    refine (List.any_eq_false.2 fun x hx => ?_).symm
    obtain ⟨j, hj, rfl⟩ := List.getElem_of_mem hx
    rw [hall j hj (by omega)]; decide
set_option maxRecDepth 100000 in
set_option maxHeartbeats 1000000 in
theorem refPairs_spec {w : World} {A : Option Addr} {es : List Entry} {c : Nat} (h : HL Entry.cells w A es c) (hl : es.length ≤ 2 ^ 16) (hA : Acc es) {B : Option Addr} {g : List Guest} {d : Nat} (hg : HL Guest.cells w B g d) (day : Int) :
    CallsV C.P 52 #[.agg #[.slice A es.length c], .slice B g.length d, .int .i64 day] w fun v w' => NewL IPair.cells 67 2 w.heap.size w' v (pairsAt es g day) ∧ Ext w w' := by
  have hcap := hg.cap
  refine callsV_of C_ok (args := [_, _, _]) (plans := plans52) Tryz.func52 rfl Tryz.ntmps52 (by kernel_rfl) (Nat.le_of_ble_eq_true rfl) ?_
  intro g3 w1 h1
  have M1 : Mem w w1 [(g3, .cells #[.slice A es.length c] 30 (0, 0))] := (Mem.start w).alloc h1
  refine brE_dec (fun b1 => ?_) (fun b1 => ?_)
  · have b1 : (g.length : Int) > 24 := b1
    have e : pairsAt es g day = [] := if_pos (by omega)
    rw [e]
    exact ⟨newL_nil, M1.ext⟩
  have b1 : ¬ (g.length : Int) > 24 := b1
  have hgl : g.length ≤ 24 := by omega
  obtain ⟨ws, hws⟩ : ∃ ws, ws = waiversAt es day := ⟨_, rfl⟩
  have e : pairsAt es g day = pairsTo ws g g.length := by rw [hws]; exact if_neg (by omega)
  refine loopE C_ok (fun (p : Nat × Value) => [(1, .slice B g.length d), (2, .int .i64 day), (3, .pointer (some ⟨g3, 0, none⟩)), (7, p.2), (8, .int .i64 p.1)])
    (fun p w' => p.1 ≤ g.length ∧ NewL IPair.cells 67 2 w1.heap.size w' p.2 (pairsTo ws g p.1) ∧ Ext w1 w') (fun p => g.length - p.1) (0, .slice none 0 0) ⟨rfl, rfl, rfl, rfl, rfl, trivial⟩
    ⟨Nat.zero_le _, newL_nil, Ext.refl _⟩ ?_
  rintro ⟨i, v⟩ w3 ⟨hi', ho', e3⟩
  have hi : i ≤ g.length := hi'
  have ho : NewL IPair.cells 67 2 w1.heap.size w3 v (pairsTo ws g i) := ho'
  clear hi' ho'
  refine brE_dec (fun hlt => ?_) (fun hge => ?_)
  · have hlt : i < g.length := by have : (i : Int) < (g.length : Nat) := hlt; omega
    have plen := pairsTo_len ws g i
    have pl : (pairsTo ws g i).length ≤ 24 * 24 := Nat.le_trans plen (Nat.mul_le_mul (by omega) hgl)
    refine loopE C_ok (fun (p : Nat × Value) => [(1, .slice B g.length d), (2, .int .i64 day), (3, .pointer (some ⟨g3, 0, none⟩)), (7, p.2), (8, .int .i64 i), (9, .int .i64 p.1)])
      (fun p w' => p.1 ≤ g.length ∧ NewL IPair.cells 67 2 w1.heap.size w' p.2 (pairsTo ws g i ++ rowTo ws g i p.1) ∧ Ext w1 w') (fun p => g.length - p.1) (0, v) ⟨rfl, rfl, rfl, rfl, rfl, rfl, trivial⟩
      ⟨Nat.zero_le _, by show NewL _ _ _ _ _ _ (pairsTo ws g i ++ []); rw [List.append_nil]; exact ho, e3⟩ ?_
    rintro ⟨j, u⟩ w6 ⟨hj', ho', e6⟩
    have hj : j ≤ g.length := hj'
    have ho6 : NewL IPair.cells 67 2 w1.heap.size w6 u (pairsTo ws g i ++ rowTo ws g i j) := ho'
    clear hj' ho'
    refine brE_dec (fun hlt2 => ?_) (fun hge2 => ?_)
    · have hlt2 : j < g.length := by have : (j : Int) < (g.length : Nat) := hlt2; omega
      have next : IntKind.i64.wrap ((j : Int) + 1) = ((j + 1 : Nat) : Int) := fit ⟨by omega, by omega⟩
      have M6 := M1.grow e6
      have rlen := rowTo_len ws g i j
      have ea : g.getD i guestZ = g[i] := by rw [List.getD_eq_getElem?_getD, List.getElem?_eq_getElem hlt]; rfl
      have eb : g.getD j guestZ = g[j] := by rw [List.getD_eq_getElem?_getD, List.getElem?_eq_getElem hlt2]; rfl
      obtain ⟨b1, o1, hA1, hr1⟩ := (hg.ext M6.ext).at Guest.len (by omega) hlt
      obtain ⟨b2, o2, hA2, hr2⟩ := (hg.ext M6.ext).at Guest.len (by omega) hlt2
      refine ⟨[_], rfl, M6.rd 0 rfl, ?_⟩
      refine ⟨i, b1, o1, rfl, hlt, hA1, ?_⟩
      refine ⟨g[i].cells, rfl, hr1, ?_⟩
      refine ⟨j, b2, o2, rfl, hlt2, hA2, ?_⟩
      refine ⟨g[j].cells, rfl, hr2, ?_⟩
      refine (refCovers_spec (h.ext M6.ext) hl hA g[i] g[j] day).mono ?_
      rintro v w7 ⟨rfl, e7⟩
      have ho7 := ho6.ext e7
      have hcov : coversAt es g[i] g[j] day = ws.any (fun w => coversB w (g.getD i guestZ) (g.getD j guestZ)) := by rw [ea, eb, hws]; rfl
      rw [hcov]
      refine brE_mk (fun hc => ?_) (fun hc => ?_)
      · have hcc : ws.any (fun w => coversB w (g.getD i guestZ) (g.getD j guestZ)) = true := hc
        intro g11 w10 h10
        have ho10 := ho7.ext h10.ext
        have e10 := (e6.trans e7).trans h10.ext
        refine ⟨rfl, rfl, rfl, w1.heap.size, _, _, (IPair.mk (i : Nat) (j : Nat)).cells, ho10, e10.size, Nat.le_of_ble_eq_true rfl, rfl, rfl, .inr ⟨g11, 0, rfl, Rd.of_block h10.here⟩, rfl, rfl, by rw [List.length_append]; omega, by rw [List.length_append]; simp only [maxLen]; omega, ?_⟩
        intro v' w11 ho11 hg11 hpl
        refine ⟨_, next, ?_⟩
        refine ⟨(j + 1, v'), ⟨rfl, rfl, rfl, rfl, rfl, rfl, trivial⟩, ⟨hlt2, ?_, app_ext e10 ho10 hg11⟩, by show g.length - (j + 1) < g.length - j; omega⟩
        show NewL _ _ _ _ _ _ (pairsTo ws g i ++ rowTo ws g i (j + 1))
        rw [rowTo_succ, hcc, if_pos rfl, ← List.append_assoc]
        generalize pairsTo ws g i ++ rowTo ws g i j = P at ho11 ⊢
        unfold NewL
        rw [List.flatMap_append, List.length_append]
        have : ([⟨(i : Int), (j : Int)⟩] : List IPair).flatMap IPair.cells = (IPair.mk (i : Nat) (j : Nat)).cells := rfl
        rw [this]
        exact ho11
      · have hcc : ws.any (fun w => coversB w (g.getD i guestZ) (g.getD j guestZ)) = false := hc
        refine ⟨_, next, ?_⟩
        refine ⟨(j + 1, u), ⟨rfl, rfl, rfl, rfl, rfl, rfl, trivial⟩, ⟨hlt2, ?_, e6.trans e7⟩, by show g.length - (j + 1) < g.length - j; omega⟩
        show NewL _ _ _ _ _ _ (pairsTo ws g i ++ rowTo ws g i (j + 1))
        rw [rowTo_succ, hcc, if_neg (by decide), List.append_nil]
        exact ho7
    · have hj : j = g.length := by have : ¬ (j : Int) < (g.length : Nat) := hge2; omega
      refine ⟨((i + 1 : Nat) : Int), fit ⟨by omega, by omega⟩, ?_⟩
      refine ⟨(i + 1, u), ⟨rfl, rfl, rfl, rfl, rfl, trivial⟩, ⟨hlt, ?_, e6⟩, by show g.length - (i + 1) < g.length - i; omega⟩
      show NewL _ _ _ _ _ _ (pairsTo ws g (i + 1))
      rw [pairsTo_succ, ← hj]
      exact ho6
  · have hi : i = g.length := by have : ¬ (i : Int) < (g.length : Nat) := hge; omega
    rw [hi] at ho
    rw [e]
    exact ⟨NewL.base ho M1.ext.size, M1.ext.trans e3⟩
end Go.Proofs.YtcnbpfecgokhiaaGreatDoor
namespace Go.Proofs.YtcnbpfecgokhiaaGreatDoor
open Go.Eng Go.RowKit
theorem debtR_bounds {gs : List Gift} (h : GiftsOk gs) (frm to : Int) {g : Gift} (hg : g ∈ gs) : 0 ≤ debtR gs frm to g ∧ debtR gs frm to g ≤ 1000000000000 := by
  obtain ⟨i, hi, rfl⟩ := List.getElem_of_mem hg
  have hm := metL_bounds h gs[i].id
  have hw := h.worth i hi
  unfold debtR
  split
  · rename_i hc
    obtain ⟨_, _, c3, c4⟩ := hc
    have := h.marks i hi c3
    have hn : ¬ ((gs[i].state = 2 ∨ gs[i].state = 4) ∧ gs[i].worth ≤ metL gs gs[i].id) := fun e => by
      have := this.2 e
      omega
    have : ¬ gs[i].worth ≤ metL gs gs[i].id := fun e => hn ⟨.inl c4, e⟩
    omega
  · omega
theorem sumTo_bounds {gs : List Gift} (h : GiftsOk gs) (frm to : Int) (i : Nat) : 0 ≤ ((gs.take i).map (debtR gs frm to)).sum ∧ ((gs.take i).map (debtR gs frm to)).sum ≤ 500000000000000 := by
  have h1 := sum_bounds (debtR gs frm to) 1000000000000 (gs.take i) fun x hx => debtR_bounds h frm to (List.mem_of_mem_take hx)
  have h2 := h.len
  have h3 : (gs.take i).length ≤ 500 := by rw [List.length_take]; omega
  omega
set_option maxRecDepth 100000 in
set_option maxHeartbeats 1000000 in
theorem refDebt_spec {w : World} {A : Option Addr} {es : List Entry} {c : Nat} (h : HL Entry.cells w A es c) (hl : es.length ≤ 2 ^ 16) (hA : Acc es) (frm to day : Int) :
    CallsV C.P 56 #[.agg #[.slice A es.length c], .int .i64 frm, .int .i64 to, .int .i64 day] w fun v w' => v = .int .i64 (debtAt es frm to day) ∧ Ext w w' := by
  have hal := asOfL_length es day
  have hG := (acc_ok (acc_asOf hA day)).gifts
  refine callsV_of C_ok (args := [_, _, _, _]) (plans := plans56) Tryz.func56 rfl Tryz.ntmps56 (by kernel_rfl) (Nat.le_of_ble_eq_true rfl) ?_
  intro g4 w1 h1
  have M1 : Mem w w1 [(g4, .cells #[.slice A es.length c] 30 (0, 0))] := (Mem.start w).alloc h1
  refine ⟨[_], rfl, M1.rd 0 rfl, ?_⟩
  refine (refAsOf_spec (h.ext M1.ext) hl day).mono ?_
  rintro v w2 ⟨⟨v', rfl, hv⟩, e2⟩
  obtain ⟨A2, c2, rfl, h2⟩ := hv.hl
  refine (Given_spec h2 (by omega) (acc_asOf hA day)).mono ?_
  rintro v w3 ⟨hw, e3⟩
  obtain ⟨A3, c3, rfl, h3⟩ := hw.hl
  have e03 : Ext w w3 := M1.ext.trans (e2.trans e3)
  obtain ⟨l, hle⟩ : ∃ l, l = giftL (asOfL es day) := ⟨_, rfl⟩
  have hfin : debtAt es frm to day = (l.map (debtR l frm to)).sum := by rw [hle, debtR_eq hG]; rfl
  rw [← hle] at h3 hG ⊢
  have hgl := hG.len
  refine loopE C_ok (fun (i : Nat) => [(1, .int .i64 frm), (2, .int .i64 to), (9, .slice A3 l.length c3), (10, .int .i64 ((l.take i).map (debtR l frm to)).sum), (11, .int .i64 i)])
    (fun i w' => i ≤ l.length ∧ Ext w3 w') (fun i => l.length - i) 0 ⟨rfl, rfl, rfl, rfl, rfl, trivial⟩
    ⟨Nat.zero_le _, Ext.refl _⟩ ?_
  rintro i w4 ⟨hi, e4⟩
  refine brE_dec (fun hlt => ?_) (fun hge => ?_)
  · have hlti : i < l.length := by have : (i : Int) < (l.length : Nat) := hlt; omega
    have next : IntKind.i64.wrap ((i : Int) + 1) = ((i + 1 : Nat) : Int) := fit ⟨by omega, by omega⟩
    have hs : ((l.take (i + 1)).map (debtR l frm to)).sum = ((l.take i).map (debtR l frm to)).sum + debtR l frm to l[i] := by
      rw [List.take_succ_eq_append_getElem hlti, List.map_append, List.sum_append]; simp
    have b0 := sumTo_bounds hG frm to i
    have b1 := hG.worth i hlti
    have b2 := metL_bounds hG l[i].id
    obtain ⟨b, o, hA3, hc⟩ := (h3.ext e4).at Gift.len (by omega) hlti
    refine ⟨i, b, o, rfl, hlti, hA3, ?_⟩
    refine ⟨l[i].cells, rfl, hc, ?_⟩
    intro g12 w5 h5
    refine ⟨rfl, _, _, h5.here, Nat.le_of_ble_eq_true rfl, rfl, ?_⟩
    intro w6 h6
    have M6 : Mem w4 w6 [(g12, .cells l[i].cells.toArray 37 (0, 0))] := ((Mem.start w4).alloc h5).put 0 rfl h6
    obtain ⟨S, hS⟩ : ∃ S, S = ((l.take i).map (debtR l frm to)).sum := ⟨_, rfl⟩
    rw [← hS] at b0 hs ⊢
    have env : ∀ n : Int, n = S + debtR l frm to l[i] → (some (Value.int .i64 n)) = some (Value.int .i64 ((l.take (i + 1)).map (debtR l frm to)).sum) := fun n hn => by rw [hs, hn]
    refine ⟨_, M6.cell 0 rfl rfl, ?_⟩
    refine brE_dec (fun k1 => ?y1) (fun k1 => ?n1)
    case' n1 =>
      have k1 : ¬ l[i].frm = to := k1
      have hd : debtR l frm to l[i] = 0 := if_neg fun e => k1 e.1
    case' y1 =>
      have k1 : l[i].frm = to := k1
      refine ⟨_, M6.cell 0 rfl rfl, ?_⟩
      refine brE_dec (fun k2 => ?y2) (fun k2 => ?n2)
    case' n2 =>
      have k2 : ¬ l[i].to = frm := k2
      have hd : debtR l frm to l[i] = 0 := if_neg fun e => k2 e.2.1
    case' y2 =>
      have k2 : l[i].to = frm := k2
      refine ⟨_, M6.cell 0 rfl rfl, ?_⟩
      refine brE_dec (fun k3 => ?y3) (fun k3 => ?n3)
    case' n3 =>
      have k3 : ¬ l[i].returns = 0 := k3
      have hd : debtR l frm to l[i] = 0 := if_neg fun e => k3 e.2.2.1
    case' y3 =>
      have k3 : l[i].returns = 0 := k3
      refine ⟨_, M6.cell 0 rfl rfl, ?_⟩
      refine brE_dec (fun k4 => ?y4) (fun k4 => ?n4)
    case' n4 =>
      have k4 : ¬ l[i].state = 2 := k4
      have hd : debtR l frm to l[i] = 0 := if_neg fun e => k4 e.2.2.2
    case n1 | n2 | n3 | n4 =>
      refine ⟨_, next, ?_⟩
      exact ⟨i + 1, ⟨rfl, rfl, rfl, env S (by rw [hd]; omega), rfl, trivial⟩, ⟨hlti, e4.trans M6.ext⟩, by show l.length - (i + 1) < l.length - i; omega⟩
    have k4 : l[i].state = 2 := k4
    have hd : debtR l frm to l[i] = l[i].worth - metL l l[i].id := if_pos ⟨k1, k2, k3, k4⟩
    refine ⟨_, M6.cell 0 rfl rfl, ?_⟩
    refine ⟨S + l[i].worth, fit ⟨by omega, by omega⟩, ?_⟩
    refine ⟨_, M6.cell 0 rfl rfl, ?_⟩
    refine (refMet_spec (h3.ext (e4.trans M6.ext)) (fun x hx => by
      obtain ⟨j, hj, rfl⟩ := List.getElem_of_mem hx
      have := hG.worth j hj
      omega) hgl l[i].id).mono ?_
    rintro v w7 ⟨rfl, e7⟩
    refine ⟨e7, ?_⟩
    refine ⟨S + l[i].worth - metL l l[i].id, fit ⟨by omega, by omega⟩, ?_⟩
    refine ⟨_, next, ?_⟩
    exact ⟨i + 1, ⟨rfl, rfl, rfl, env _ (by rw [hd]; omega), rfl, trivial⟩, ⟨hlti, e4.trans (M6.ext.trans e7)⟩, by show l.length - (i + 1) < l.length - i; omega⟩
  · have hie : i = l.length := by have : ¬ (i : Int) < (l.length : Nat) := hge; omega
    refine ⟨?_, e03.trans e4⟩
    rw [hfin, hie, List.take_length]
def seenX (ws : List Waiv) (gs : List Gift) (state day : Int) (x : Entry) : Option (Int × Int × Int × Int × Int) := if x.day ≤ day then seeX ws gs state x else none
set_option maxRecDepth 100000 in
set_option maxHeartbeats 4000000 in
theorem refSight_spec {w : World} {A : Option Addr} {es : List Entry} {c : Nat} (h : HL Entry.cells w A es c) (hl : es.length ≤ 2 ^ 16) (hA : Acc es) (state day : Int) :
    CallsV C.P 59 #[.agg #[.slice A es.length c], .int .i64 state, .int .i64 day] w fun v w' => NewL Sight.cells 142 6 w.heap.size w' v (sightAt es state day) ∧ Ext w w' := by
  have hwl := (acc_ok hA).wlen
  have hgl := (acc_ok hA).gifts.len
  refine callsV_of C_ok (args := [_, _, _]) (plans := []) Tryz.func59 rfl Tryz.ntmps59 (by kernel_rfl) (Nat.le_of_ble_eq_true rfl) ?_
  intro g3 w1 h1
  have M1 : Mem w w1 [(g3, .cells #[.slice A es.length c] 30 (0, 0))] := (Mem.start w).alloc h1
  refine ⟨[_], rfl, M1.rd 0 rfl, ?_⟩
  refine (Granted_spec (h.ext M1.ext) hl hA).mono ?_
  rintro v w2 ⟨hw2, e2⟩
  obtain ⟨Aw, cw, rfl, hW⟩ := hw2.hl
  have M2 := M1.grow e2
  refine ⟨[_], rfl, M2.rd 0 rfl, ?_⟩
  refine (Given_spec (h.ext M2.ext) hl hA).mono ?_
  rintro v w3 ⟨hg3, e3⟩
  obtain ⟨Ag, cg, rfl, hG⟩ := hg3.hl
  have M3 := M2.grow e3
  have hW := hW.ext e3
  have hfin : sightAt es state day = numS (es.filterMap (seenX (waivL es) (giftL es) state day)) := by
    unfold sightAt
    rw [← sight_ref hA state day]; rfl
  have hrefs := refers hA
  have hkinds : ∀ x ∈ es, x.kind = 1 ∨ x.kind = 2 ∨ x.kind = 3 ∨ x.kind = 4 ∨ x.kind = 5 ∨ x.kind = 6 ∨ x.kind = 7 := fun x hx => ok_kind (form_okE ((acc_ok hA).forms x hx)).1
  obtain ⟨ws, hws⟩ : ∃ ws, ws = waivL es := ⟨_, rfl⟩
  obtain ⟨gs, hgs⟩ : ∃ gs, gs = giftL es := ⟨_, rfl⟩
  rw [← hws] at hW hwl hfin hrefs ⊢
  rw [← hgs] at hG hgl hfin hrefs ⊢
  refine loopE C_ok (fun (p : Nat × Value) => [(1, .int .i64 state), (2, .int .i64 day), (3, .pointer (some ⟨g3, 0, none⟩)), (7, p.2), (8, .slice Aw ws.length cw), (9, .slice Ag gs.length cg), (10, .int .i64 p.1)])
    (fun p w' => p.1 ≤ es.length ∧ NewL Sight.cells 142 6 w3.heap.size w' p.2 (numS ((es.take p.1).filterMap (seenX ws gs state day))) ∧ Ext w3 w') (fun p => es.length - p.1) (0, .slice none 0 0) ⟨rfl, rfl, rfl, rfl, rfl, rfl, rfl, trivial⟩
    ⟨Nat.zero_le _, newL_nil, Ext.refl _⟩ ?_
  rintro ⟨i, v⟩ w4 ⟨hi', ho', e4⟩
  have hi : i ≤ es.length := hi'
  have ho : NewL Sight.cells 142 6 w3.heap.size w4 v (numS ((es.take i).filterMap (seenX ws gs state day))) := ho'
  clear hi' ho'
  have hsl : (numS ((es.take i).filterMap (seenX ws gs state day))).length ≤ i := by
    rw [numS_length]
    have := List.length_filterMap_le (seenX ws gs state day) (es.take i)
    rw [List.length_take] at this
    omega
  obtain ⟨A', c', rfl, _⟩ := ho.hl
  have M4 := M3.grow e4
  refine ⟨_, M4.cell 0 rfl rfl, ?_⟩
  refine brE_dec (fun hlt => ?_) (fun hge => ?_)
  · have hlti : i < es.length := by have : (i : Int) < (es.length : Nat) := hlt; omega
    clear hlt
    have next : IntKind.i64.wrap ((i : Int) + 1) = ((i + 1 : Nat) : Int) := fit ⟨by omega, by omega⟩
    obtain ⟨x, hx⟩ : ∃ x, x = es[i] := ⟨_, rfl⟩
    have hk := hkinds es[i] (List.getElem_mem hlti)
    obtain ⟨hk3, hk5⟩ := hrefs es[i] (List.getElem_mem hlti)
    obtain ⟨b, o, hAe, hc⟩ := (h.ext M4.ext).at Entry.len (by omega) hlti
    have hsnoc : (es.take (i + 1)).filterMap (seenX ws gs state day) = (es.take i).filterMap (seenX ws gs state day) ++ (seenX ws gs state day x).toList := by
      rw [List.take_succ_eq_append_getElem hlti, List.filterMap_append, ← hx]
      congr 1
    rw [← hx] at hk hk3 hk5 hc
    refine ⟨_, M4.cell 0 rfl rfl, ?_⟩
    refine ⟨i, b, o, rfl, hlti, hAe, ?_⟩
    refine ⟨x.cells, rfl, hc, ?_⟩
    intro g11 w5 h5
    refine ⟨rfl, _, _, h5.here, Nat.le_of_ble_eq_true rfl, rfl, ?_⟩
    intro w6 h6
    have M6 : Mem w4 w6 [(g11, .cells x.cells.toArray 39 (0, 0))] := ((Mem.start w4).alloc h5).put 0 rfl h6
    clear h5 h6
    obtain ⟨N, hN⟩ : ∃ N, N = (numS ((es.take i).filterMap (seenX ws gs state day))).length := ⟨_, rfl⟩
    rw [← hN] at hsl ⊢
    have hNl : ((es.take i).filterMap (seenX ws gs state day)).length = N := by rw [hN, numS_length]
    refine ⟨_, M6.cell 0 rfl rfl, ?_⟩
    refine ⟨_, M6.cell 0 rfl rfl, ?_⟩
    refine ⟨_, M6.cell 0 rfl rfl, ?_⟩
    refine ⟨_, M6.cell 0 rfl rfl, ?_⟩
    intro g12 w7 h7
    have M7 := M6.alloc h7
    refine ⟨rfl, _, _, M7.get 0 rfl, Nat.le_of_ble_eq_true rfl, rfl, ?_⟩
    intro w8 h8
    have M8 : Mem w4 w8 [(g12, .cells (Sight.mk (N : Nat) x.kind x.day x.a 0 x.n).cells.toArray 142 (0, 0)), (g11, .cells x.cells.toArray 39 (0, 0))] := M7.put 0 rfl h8
    clear M6 M7 h7 h8
    refine ⟨_, M8.cell 1 rfl rfl, ?_⟩
    refine ⟨_, M8.cell 1 rfl rfl, ?_⟩
    -- what is laid behind: a sight that is seen, or none
    have skip : seenX ws gs state day x = none → ∀ w9, Ext w4 w9 → NewL Sight.cells 142 6 w3.heap.size w9 (.slice A' N c') (numS ((es.take (i + 1)).filterMap (seenX ws gs state day))) := fun hn w9 e9 => by
      rw [hsnoc, hn]
      show NewL _ _ _ _ _ _ (numS (_ ++ []))
      rw [List.append_nil]
      have := ho.ext e9
      rw [← hN] at this
      exact this
    have ho' := ho
    rw [← hN] at ho'
    have late : ¬ x.day ≤ day → seenX ws gs state day x = none := fun hd => if_neg hd
    have soon : x.day ≤ day → seenX ws gs state day x = seeX ws gs state x := fun hd => if_pos hd
    refine brE_dec (fun k3 => ?k3) (fun k3 => ?n3)
    case' n3 =>
      have k3 : ¬ x.kind = 3 := k3
      refine brE_dec (fun k4 => ?k4) (fun k4 => ?n4)
    case' k3 =>
      have k3 : x.kind = 3 := k3
      have kk : x.kind = 3 ∨ x.kind = 4 := .inl k3
      refine brE_true (decide_eq_true k3) ?_
    case' k4 =>
      have k4 : x.kind = 4 := k4
      have kk : x.kind = 3 ∨ x.kind = 4 := .inr k4
    case k3 | k4 =>
      obtain ⟨k, hkl, hke⟩ := hk3 kk
      have hat : atN ws x.w.id = ws[k] := by rw [hke]; exact atN_get hkl
      have hsee : seeX ws gs state x = some (x.kind, x.day, ws[k].giver, ws[k].taker, ws[k].id) := by
        unfold seeX; rw [if_neg (by omega), if_pos kk, hat]
      obtain ⟨b6, o6, hA6, hc6⟩ := (hW.ext (e4.trans M8.ext)).at Waiv.len (by omega) hkl
      refine ⟨_, M8.cell 1 rfl rfl, ?_⟩
      refine ⟨(k : Int), by show IntKind.i64.wrap (x.w.id - 1) = _; rw [hke, fit ⟨by omega, by omega⟩]; omega, ?_⟩
      refine ⟨k, b6, o6, rfl, hkl, hA6, ?_⟩
      refine ⟨ws[k].cells, rfl, hc6, ?_⟩
      intro g14 w9 h9
      have M9 := M8.alloc h9
      refine ⟨rfl, _, _, M9.get 0 rfl, Nat.le_of_ble_eq_true rfl, rfl, ?_⟩
      intro w10 h10
      have M10 : Mem w4 w10 [(g14, .cells ws[k].cells.toArray 35 (0, 0)), (g12, .cells (Sight.mk (N : Nat) x.kind x.day x.a 0 x.n).cells.toArray 142 (0, 0)), (g11, .cells x.cells.toArray 39 (0, 0))] := M9.put 0 rfl h10
      refine ⟨_, M10.cell 0 rfl rfl, ?_⟩
      refine ⟨rfl, _, _, M10.get 1 rfl, Nat.le_of_ble_eq_true rfl, rfl, ?_⟩
      intro w11 h11
      have M11 := M10.put 1 rfl h11
      refine ⟨_, M11.cell 0 rfl rfl, ?_⟩
      refine ⟨rfl, _, _, M11.get 1 rfl, Nat.le_of_ble_eq_true rfl, rfl, ?_⟩
      intro w12 h12
      have M12 := M11.put 1 rfl h12
      refine ⟨_, M12.cell 0 rfl rfl, ?_⟩
      refine ⟨rfl, _, _, M12.get 1 rfl, Nat.le_of_ble_eq_true rfl, rfl, ?_⟩
      intro w13 h13
      have M13 : Mem w4 w13 [(g12, .cells (Sight.mk (N : Nat) x.kind x.day ws[k].giver ws[k].taker ws[k].id).cells.toArray 142 (0, 0)), (g11, .cells x.cells.toArray 39 (0, 0))] := (M12.put 1 rfl h13).tail
      refine brE_dec (fun hd => ?_) (fun hd => ?_)
      · have hd : x.day ≤ day := hd
        refine ⟨_, rfl, M13.rd 0 rfl, ?_⟩
        intro g16 w14 h14
        have ho14 := ho'.ext (M13.ext.trans h14.ext)
        have e14 := e4.trans (M13.ext.trans h14.ext)
        refine ⟨rfl, rfl, rfl, w3.heap.size, _, _, _, ho14, e14.size, Nat.le_of_ble_eq_true rfl, rfl, rfl, .inr ⟨g16, 0, rfl, Rd.of_block h14.here⟩, rfl, rfl, by omega, by simp only [maxLen]; omega, ?_⟩
        intro v' w15 ho15 hg15 hpl
        refine ⟨_, next, ?_⟩
        refine ⟨(i + 1, v'), ⟨rfl, rfl, rfl, rfl, rfl, rfl, rfl, trivial⟩, ⟨hlti, ?_, app_ext e14 ho14 hg15⟩, by show es.length - (i + 1) < es.length - i; omega⟩
        show NewL Sight.cells 142 6 w3.heap.size w15 v' (numS ((es.take (i + 1)).filterMap (seenX ws gs state day)))
        rw [hsnoc, soon hd, hsee]
        simp only [Option.toList_some]
        rw [numS_snoc]
        unfold NewL
        rw [List.length_append, List.flatMap_append, hNl]
        exact ho15
      · have hd : ¬ x.day ≤ day := hd
        refine ⟨_, next, ?_⟩
        exact ⟨(i + 1, .slice A' N c'), ⟨rfl, rfl, rfl, rfl, rfl, rfl, rfl, trivial⟩, ⟨hlti, skip (late hd) _ M13.ext, e4.trans M13.ext⟩, by show es.length - (i + 1) < es.length - i; omega⟩
    have k4 : ¬ x.kind = 4 := k4
    refine brE_dec (fun k5 => ?k5) (fun k5 => ?n5)
    case' n5 =>
      have k5 : ¬ x.kind = 5 := k5
      refine brE_dec (fun k6 => ?k6) (fun k6 => ?n6)
    case' n6 =>
      have k6 : ¬ x.kind = 6 := k6
      refine brE_dec (fun k7 => ?k7) (fun k7 => ?n7)
    case n7 =>
      have k7 : ¬ x.kind = 7 := k7
      have k12 : x.kind = 1 ∨ x.kind = 2 := by
        rcases hk with h | h | h | h | h | h | h
        · exact .inl h
        · exact .inr h
        · exact absurd h k3
        · exact absurd h k4
        · exact absurd h k5
        · exact absurd h k6
        · exact absurd h k7
      have hsee : seeX ws gs state x = some (x.kind, x.day, x.a, 0, x.n) := if_pos k12
      have M13 := M8
      refine brE_dec (fun hd => ?_) (fun hd => ?_)
      · have hd : x.day ≤ day := hd
        refine ⟨_, rfl, M13.rd 0 rfl, ?_⟩
        intro g16 w14 h14
        have ho14 := ho'.ext (M13.ext.trans h14.ext)
        have e14 := e4.trans (M13.ext.trans h14.ext)
        refine ⟨rfl, rfl, rfl, w3.heap.size, _, _, _, ho14, e14.size, Nat.le_of_ble_eq_true rfl, rfl, rfl, .inr ⟨g16, 0, rfl, Rd.of_block h14.here⟩, rfl, rfl, by omega, by simp only [maxLen]; omega, ?_⟩
        intro v' w15 ho15 hg15 hpl
        refine ⟨_, next, ?_⟩
        refine ⟨(i + 1, v'), ⟨rfl, rfl, rfl, rfl, rfl, rfl, rfl, trivial⟩, ⟨hlti, ?_, app_ext e14 ho14 hg15⟩, by show es.length - (i + 1) < es.length - i; omega⟩
        show NewL Sight.cells 142 6 w3.heap.size w15 v' (numS ((es.take (i + 1)).filterMap (seenX ws gs state day)))
        rw [hsnoc, soon hd, hsee]
        simp only [Option.toList_some]
        rw [numS_snoc]
        unfold NewL
        rw [List.length_append, List.flatMap_append, hNl]
        exact ho15
      · have hd : ¬ x.day ≤ day := hd
        refine ⟨_, next, ?_⟩
        exact ⟨(i + 1, .slice A' N c'), ⟨rfl, rfl, rfl, rfl, rfl, rfl, rfl, trivial⟩, ⟨hlti, skip (late hd) _ M13.ext, e4.trans M13.ext⟩, by show es.length - (i + 1) < es.length - i; omega⟩
    case' k5 =>
      have k5 : x.kind = 5 := k5
      have kk : x.kind = 5 ∨ x.kind = 6 ∨ x.kind = 7 := .inl k5
      refine brE_true (decide_eq_true k5) ?_
    case' k6 =>
      have k6 : x.kind = 6 := k6
      have kk : x.kind = 5 ∨ x.kind = 6 ∨ x.kind = 7 := .inr (.inl k6)
      refine brE_true (decide_eq_true k6) ?_
    case' k7 =>
      have k7 : x.kind = 7 := k7
      have kk : x.kind = 5 ∨ x.kind = 6 ∨ x.kind = 7 := .inr (.inr k7)
    all_goals
      obtain ⟨k, hkl, hke⟩ := hk5 kk
      have hat : atN gs x.g.id = gs[k] := by rw [hke]; exact atN_get hkl
      have hsee0 : seeX ws gs state x = if gs[k].frm = state ∨ gs[k].to = state then some (x.kind, x.day, gs[k].frm, gs[k].to, gs[k].worth) else none := by
        unfold seeX; rw [if_neg (by omega), if_neg (by omega), hat]
      obtain ⟨b6, o6, hA6, hc6⟩ := (hG.ext (e4.trans M8.ext)).at Gift.len (by omega) hkl
      refine ⟨_, M8.cell 1 rfl rfl, ?_⟩
      refine ⟨(k : Int), by show IntKind.i64.wrap (x.g.id - 1) = _; rw [hke, fit ⟨by omega, by omega⟩]; omega, ?_⟩
      refine ⟨k, b6, o6, rfl, hkl, hA6, ?_⟩
      refine ⟨gs[k].cells, rfl, hc6, ?_⟩
      intro g14 w9 h9
      have M9 := M8.alloc h9
      refine ⟨rfl, _, _, M9.get 0 rfl, Nat.le_of_ble_eq_true rfl, rfl, ?_⟩
      intro w10 h10
      have M10 : Mem w4 w10 [(g14, .cells gs[k].cells.toArray 37 (0, 0)), (g12, .cells (Sight.mk (N : Nat) x.kind x.day x.a 0 x.n).cells.toArray 142 (0, 0)), (g11, .cells x.cells.toArray 39 (0, 0))] := M9.put 0 rfl h10
      refine ⟨_, M10.cell 0 rfl rfl, ?_⟩
      refine ⟨rfl, _, _, M10.get 1 rfl, Nat.le_of_ble_eq_true rfl, rfl, ?_⟩
      intro w11 h11
      have M11 := M10.put 1 rfl h11
      refine ⟨_, M11.cell 0 rfl rfl, ?_⟩
      refine ⟨rfl, _, _, M11.get 1 rfl, Nat.le_of_ble_eq_true rfl, rfl, ?_⟩
      intro w12 h12
      have M12 := M11.put 1 rfl h12
      refine ⟨_, M12.cell 0 rfl rfl, ?_⟩
      refine ⟨rfl, _, _, M12.get 1 rfl, Nat.le_of_ble_eq_true rfl, rfl, ?_⟩
      intro w13 h13
      have M13' : Mem w4 w13 [(g14, .cells gs[k].cells.toArray 37 (0, 0)), (g12, .cells (Sight.mk (N : Nat) x.kind x.day gs[k].frm gs[k].to gs[k].worth).cells.toArray 142 (0, 0)), (g11, .cells x.cells.toArray 39 (0, 0))] := M12.put 1 rfl h13
      have M13 := M13'.tail
      refine brE_dec (fun hd => ?_) (fun hd => ?_)
      · have hd : x.day ≤ day := hd
        refine ⟨_, M13'.cell 0 rfl rfl, ?_⟩
        refine brE_dec (fun c1 => ?_) (fun c1 => ?_)
        · have c1 : gs[k].frm = state := c1
          have hsee : seeX ws gs state x = some (x.kind, x.day, gs[k].frm, gs[k].to, gs[k].worth) := by rw [hsee0, if_pos (.inl c1)]
          refine ⟨_, rfl, M13.rd 0 rfl, ?_⟩
          intro g16 w14 h14
          have ho14 := ho'.ext (M13.ext.trans h14.ext)
          have e14 := e4.trans (M13.ext.trans h14.ext)
          refine ⟨rfl, rfl, rfl, w3.heap.size, _, _, _, ho14, e14.size, Nat.le_of_ble_eq_true rfl, rfl, rfl, .inr ⟨g16, 0, rfl, Rd.of_block h14.here⟩, rfl, rfl, by omega, by simp only [maxLen]; omega, ?_⟩
          intro v' w15 ho15 hg15 hpl
          refine ⟨_, next, ?_⟩
          refine ⟨(i + 1, v'), ⟨rfl, rfl, rfl, rfl, rfl, rfl, rfl, trivial⟩, ⟨hlti, ?_, app_ext e14 ho14 hg15⟩, by show es.length - (i + 1) < es.length - i; omega⟩
          show NewL Sight.cells 142 6 w3.heap.size w15 v' (numS ((es.take (i + 1)).filterMap (seenX ws gs state day)))
          rw [hsnoc, soon hd, hsee]
          simp only [Option.toList_some]
          rw [numS_snoc]
          unfold NewL
          rw [List.length_append, List.flatMap_append, hNl]
          exact ho15
        · have c1 : ¬ gs[k].frm = state := c1
          refine ⟨_, M13'.cell 0 rfl rfl, ?_⟩
          refine brE_dec (fun c2 => ?_) (fun c2 => ?_)
          · have c2 : gs[k].to = state := c2
            have hsee : seeX ws gs state x = some (x.kind, x.day, gs[k].frm, gs[k].to, gs[k].worth) := by rw [hsee0, if_pos (.inr c2)]
            refine ⟨_, rfl, M13.rd 0 rfl, ?_⟩
            intro g16 w14 h14
            have ho14 := ho'.ext (M13.ext.trans h14.ext)
            have e14 := e4.trans (M13.ext.trans h14.ext)
            refine ⟨rfl, rfl, rfl, w3.heap.size, _, _, _, ho14, e14.size, Nat.le_of_ble_eq_true rfl, rfl, rfl, .inr ⟨g16, 0, rfl, Rd.of_block h14.here⟩, rfl, rfl, by omega, by simp only [maxLen]; omega, ?_⟩
            intro v' w15 ho15 hg15 hpl
            refine ⟨_, next, ?_⟩
            refine ⟨(i + 1, v'), ⟨rfl, rfl, rfl, rfl, rfl, rfl, rfl, trivial⟩, ⟨hlti, ?_, app_ext e14 ho14 hg15⟩, by show es.length - (i + 1) < es.length - i; omega⟩
            show NewL Sight.cells 142 6 w3.heap.size w15 v' (numS ((es.take (i + 1)).filterMap (seenX ws gs state day)))
            rw [hsnoc, soon hd, hsee]
            simp only [Option.toList_some]
            rw [numS_snoc]
            unfold NewL
            rw [List.length_append, List.flatMap_append, hNl]
            exact ho15
          · have c2 : ¬ gs[k].to = state := c2
            have hsee : seeX ws gs state x = none := by rw [hsee0, if_neg (fun e => e.elim c1 c2)]
            refine ⟨_, next, ?_⟩
            exact ⟨(i + 1, .slice A' N c'), ⟨rfl, rfl, rfl, rfl, rfl, rfl, rfl, trivial⟩, ⟨hlti, skip ((soon hd).trans hsee) _ M13.ext, e4.trans M13.ext⟩, by show es.length - (i + 1) < es.length - i; omega⟩
      · have hd : ¬ x.day ≤ day := hd
        refine ⟨_, next, ?_⟩
        exact ⟨(i + 1, .slice A' N c'), ⟨rfl, rfl, rfl, rfl, rfl, rfl, rfl, trivial⟩, ⟨hlti, skip (late hd) _ M13.ext, e4.trans M13.ext⟩, by show es.length - (i + 1) < es.length - i; omega⟩
  · have hi : i = es.length := by have : ¬ (i : Int) < (es.length : Nat) := hge; omega
    have e : numS ((es.take i).filterMap (seenX ws gs state day)) = sightAt es state day := by rw [hfin, hi, List.take_length]
    rw [← e]
    exact ⟨NewL.base ho M3.ext.size, M3.ext.trans e4⟩
end Go.Proofs.YtcnbpfecgokhiaaGreatDoor
namespace Go.Proofs.YtcnbpfecgokhiaaGreatDoor
open Go.Eng Go.RowKit
theorem right_one {x : Waiv} (h : rightW x = true) : rightW { x with id := 1 } = true := by
  unfold rightW at *
  simp only [Bool.and_eq_true] at *
  obtain ⟨⟨⟨⟨⟨⟨⟨⟨⟨⟨⟨_, a1⟩, a2⟩, a3⟩, a4⟩, a5⟩, a6⟩, a7⟩, a8⟩, a9⟩, a10⟩, a11⟩ := h
  exact ⟨⟨⟨⟨⟨⟨⟨⟨⟨⟨⟨by decide, a1⟩, a2⟩, a3⟩, a4⟩, a5⟩, a6⟩, a7⟩, a8⟩, a9⟩, a10⟩, a11⟩
set_option maxRecDepth 100000 in
theorem refGrant_spec {w : World} {A : Option Addr} {es : List Entry} {c : Nat} (h : HL Entry.cells w A es c) (hl : es.length ≤ 2 ^ 16) (hA : Acc es) {x : Waiv} (hr : rightW x = true) {B : Option Addr} {f : List Fact} {d : Nat} (hf : HF w B f d) (hfl : f.length ≤ 2 ^ 20) :
    CallsV C.P 144 #[.agg #[.slice A es.length c], .slice B f.length d, x.val] w fun v w' => v = .int .i64 (grantedE (sgF f x) es x) ∧ Ext w w' := by
  have hwl := (acc_ok hA).wlen
  refine callsV_of C_ok (args := [_, _, _]) (plans := plans144) Tryz.func144 rfl Tryz.ntmps144 (by kernel_rfl) (Nat.le_of_ble_eq_true rfl) ?_
  intro g3 w1 h1
  have M1 : Mem w w1 [(g3, .cells #[.slice A es.length c] 30 (0, 0))] := (Mem.start w).alloc h1
  intro g5 w2 h2
  have M2 : Mem w w2 [(g5, .cells x.cells.toArray 35 (0, 0)), (g3, .cells #[.slice A es.length c] 30 (0, 0))] := M1.alloc h2
  refine ⟨[_], rfl, M2.rd 1 rfl, ?_⟩
  refine (Granted_spec (h.ext M2.ext) hl hA).mono ?_
  rintro v w3 ⟨hv, e3⟩
  obtain ⟨Aw, cw, rfl, hHw⟩ := hv.hl
  have M3 := M2.grow e3
  refine brE_dec (fun b1 => ?_) (fun b1 => ?_)
  · have b1 : ((waivL es).length : Nat) ≥ (500 : Int) := b1
    exact ⟨congrArg _ (by unfold grantedE; rw [if_pos (by omega)]), M3.ext⟩
  have b1 : ¬ ((waivL es).length : Nat) ≥ (500 : Int) := b1
  refine ⟨_, M3.cell 0 rfl rfl, ?_⟩
  refine ⟨(((waivL es).length + 1 : Nat) : Int), fit ⟨by omega, by omega⟩, ?_⟩
  refine brE_ndec (fun b2 => ?_) (fun b2 => ?_)
  · have b2 : ¬ x.id = (((waivL es).length + 1 : Nat) : Int) := b2
    exact ⟨congrArg _ (by unfold grantedE; rw [if_neg (by omega), if_pos (by omega)]), M3.ext⟩
  have b2 : x.id = (((waivL es).length + 1 : Nat) : Int) := b2
  refine ⟨x.cells, rfl, M3.rd 0 rfl, ?_⟩
  refine (refMaySign_spec (hf.ext M3.ext) hfl x).mono ?_
  rintro v w4 ⟨rfl, e4⟩
  have M4 := M3.grow e4
  have hme : mayE f x = (chkF f).2 := by unfold mayE; rw [if_neg (by rw [right_one hr]; decide)]
  rw [hme]
  refine brE_ndec (fun b3 => ?_) (fun b3 => ?_)
  · have b3 : ¬ (chkF f).2 = 0 := b3
    exact ⟨congrArg _ (by unfold grantedE sgF; rw [if_neg (by omega), if_neg (by omega), if_pos b3, if_pos b3]), M4.ext⟩
  have b3 : (chkF f).2 = 0 := b3
  have hmb : mayB f x = decide (leastL (atL x.day x.day f) x.signer x.giver ≤ 2) := by unfold mayB; rw [right_one hr, decide_eq_true b3]; rfl
  refine brE_mk (fun b4 => ?_) (fun b4 => ?_)
  · have b4 : mayB f x = false := by simpa using b4
    rw [hmb] at b4
    have hsg : sgF f x = 60 := by unfold sgF; rw [if_neg (fun h => h b3), if_neg (of_decide_eq_false b4)]
    exact ⟨congrArg _ (by unfold grantedE; rw [if_neg (by omega), if_neg (by omega), hsg, if_pos (by decide)]), M4.ext⟩
  have b4 : mayB f x = true := by simpa using b4
  rw [hmb] at b4
  have hg : grantedE (sgF f x) es x = if owesB (dueL es) x.giver x.taker = true then 61 else 0 := by
    have hsg : sgF f x = 0 := by unfold sgF; rw [if_neg (fun h => h b3), if_pos (of_decide_eq_true b4)]
    unfold grantedE
    rw [if_neg (by omega), if_neg (by omega), hsg, if_neg (by decide)]
  have hHw4 := hHw.ext e4
  refine (owing_spec hHw4 (by omega)).mono ?_
  rintro v w5 ⟨hv5, e5⟩
  rw [owing_eq] at hv5
  have M5 := M4.grow e5
  obtain ⟨Ad, cd, rfl, hHd⟩ := hv5.hl
  have hcap := hHd.cap
  rw [hg]
  obtain ⟨l, hle⟩ : ∃ l, l = dueL es := ⟨_, rfl⟩
  rw [← hle] at hHd hcap ⊢
  refine loopE C_ok (fun (i : Nat) => [(5, .pointer (some ⟨g5, 0, none⟩)), (10, .slice Ad l.length cd), (11, .int .i64 i)]) (fun i w' => i ≤ l.length ∧ w' = w5 ∧ ∀ k (hk : k < l.length), k < i → ¬ (l[k].cred = x.giver ∧ l[k].debt = x.taker)) (fun i => l.length - i) 0 ⟨rfl, rfl, rfl, trivial⟩ ⟨Nat.zero_le _, rfl, fun k _ hk => absurd hk (Nat.not_lt_zero _)⟩ ?_
  rintro i w6 ⟨hi, rfl, hno⟩
  refine brE_dec (fun hlt => ?_) (fun hge => ?_)
  · have hlti : i < l.length := by have : (i : Int) < (l.length : Nat) := hlt; omega
    have next : IntKind.i64.wrap ((i : Int) + 1) = ((i + 1 : Nat) : Int) := fit ⟨by omega, by omega⟩
    obtain ⟨b, o, hAd, hc⟩ := hHd.at Due.len (by omega) hlti
    refine ⟨i, b, o, rfl, hlti, hAd, ?_⟩
    refine ⟨_, hc 0 _ rfl, ?_⟩
    refine ⟨_, M5.cell 0 rfl rfl, ?_⟩
    refine brE_dec (fun c1 => ?_) (fun c1 => ?_)
    · have c1 : l[i].cred = x.giver := c1
      refine ⟨i, b, o, rfl, hlti, hAd, ?_⟩
      refine ⟨_, hc 1 _ rfl, ?_⟩
      refine ⟨_, M5.cell 0 rfl rfl, ?_⟩
      refine brE_dec (fun c2 => ?_) (fun c2 => ?_)
      · have c2 : l[i].debt = x.taker := c2
        exact ⟨congrArg _ (by rw [if_pos (owes_iff.2 ⟨l[i], List.getElem_mem hlti, c1, c2⟩)]), M5.ext⟩
      · have c2 : ¬ l[i].debt = x.taker := c2
        refine ⟨_, next, ?_⟩
        exact ⟨i + 1, ⟨rfl, rfl, rfl, trivial⟩, ⟨hlti, rfl, fun k hk hki e => if he : k = i then by subst he; exact c2 e.2 else hno k hk (by omega) e⟩, by show l.length - (i + 1) < l.length - i; omega⟩
    · have c1 : ¬ l[i].cred = x.giver := c1
      refine ⟨_, next, ?_⟩
      exact ⟨i + 1, ⟨rfl, rfl, rfl, trivial⟩, ⟨hlti, rfl, fun k hk hki e => if he : k = i then by subst he; exact c1 e.1 else hno k hk (by omega) e⟩, by show l.length - (i + 1) < l.length - i; omega⟩
  · have hie : i = l.length := by have : ¬ (i : Int) < (l.length : Nat) := hge; omega
    refine ⟨congrArg _ (by
      rw [if_neg]
      intro ho
      obtain ⟨y, hy, e1, e2⟩ := owes_iff.1 ho
      obtain ⟨k, hk, rfl⟩ := List.getElem_of_mem hy
      exact hno k hk (by omega) ⟨e1, e2⟩), M5.ext⟩
set_option maxRecDepth 100000 in
theorem refOffer_spec {w : World} {A : Option Addr} {es : List Entry} {c : Nat} (h : HL Entry.cells w A es c) (hl : es.length ≤ 2 ^ 16) (hA : Acc es) {x : Gift} (hx : x.Nums) (hn : 1 ≤ x.n ∧ x.n ≤ 1000000) (hret : 0 ≤ x.returns) :
    CallsV C.P 145 #[.agg #[.slice A es.length c], x.val] w fun v w' => v = .int .i64 (offeredE es x) ∧ Ext w w' := by
  have hgl := (acc_ok hA).gifts.len
  have hrate := (acc_ok hA).rate x.cur
  have hceil := (acc_ok hA).ceil x.to
  have hcur := hx.cur
  have hb : 0 ≤ x.n * rateL es x.cur ∧ x.n * rateL es x.cur ≤ 1000000 * 1000000 := ⟨Int.mul_nonneg (by omega) hrate.1, Int.mul_le_mul hn.2 hrate.2 hrate.1 (by omega)⟩
  refine callsV_of C_ok (args := [_, _]) (plans := []) Tryz.func145 rfl Tryz.ntmps145 (by kernel_rfl) (Nat.le_of_ble_eq_true rfl) ?_
  intro g2 w1 h1
  have M1 : Mem w w1 [(g2, .cells #[.slice A es.length c] 30 (0, 0))] := (Mem.start w).alloc h1
  intro g3 w2 h2
  have M2 : Mem w w2 [(g3, .cells x.cells.toArray 37 (0, 0)), (g2, .cells #[.slice A es.length c] 30 (0, 0))] := M1.alloc h2
  refine ⟨[_], rfl, M2.rd 1 rfl, ?_⟩
  refine (Given_spec (h.ext M2.ext) hl hA).mono ?_
  rintro v w3 ⟨hv, e3⟩
  obtain ⟨Ag, cg, rfl, hHg⟩ := hv.hl
  have M3 := M2.grow e3
  refine brE_dec (fun b1 => ?_) (fun b1 => ?_)
  · have b1 : ((giftL es).length : Nat) ≥ (500 : Int) := b1
    exact ⟨congrArg _ (by unfold offeredE; rw [if_pos (by omega)]), M3.ext⟩
  have b1 : ¬ ((giftL es).length : Nat) ≥ (500 : Int) := b1
  refine ⟨_, M3.cell 0 rfl rfl, ?_⟩
  refine ⟨(((giftL es).length + 1 : Nat) : Int), fit ⟨by omega, by omega⟩, ?_⟩
  refine brE_ndec (fun b2 => ?_) (fun b2 => ?_)
  · have b2 : ¬ x.id = (((giftL es).length + 1 : Nat) : Int) := b2
    exact ⟨congrArg _ (by unfold offeredE; rw [if_neg (by omega), if_pos (by omega)]), M3.ext⟩
  have b2 : x.id = (((giftL es).length + 1 : Nat) : Int) := b2
  refine ⟨_, M3.cell 1 rfl rfl, ?_⟩
  refine ⟨_, M3.cell 0 rfl rfl, ?_⟩
  refine (refRate_spec (h.ext M3.ext) hl hcur).mono ?_
  rintro v w4 ⟨rfl, e4⟩
  have M4 := M3.grow e4
  have hHg4 := hHg.ext e4
  refine brE_dec (fun b3 => ?_) (fun b3 => ?_)
  · have b3 : rateL es x.cur = 0 := b3
    exact ⟨congrArg _ (by unfold offeredE; rw [if_neg (by omega), if_neg (by omega), if_pos b3]), M4.ext⟩
  have b3 : ¬ rateL es x.cur = 0 := b3
  refine ⟨_, M4.cell 0 rfl rfl, ?_⟩
  refine brE_dec (fun b4 => ?_) (fun b4 => ?_)
  · have b4 : x.returns > ((giftL es).length : Nat) := b4
    exact ⟨congrArg _ (by unfold offeredE; rw [if_neg (by omega), if_neg (by omega), if_neg b3, if_pos (by omega)]), M4.ext⟩
  have b4 : ¬ x.returns > ((giftL es).length : Nat) := b4
  have hof : offeredE es x = if x.returns > 0 ∧ (let r := atN (giftL es) x.returns; ¬ (r.frm = x.to ∧ r.to = x.frm ∧ r.returns = 0 ∧ r.state = 2)) then 8 else if ceilL es x.to > 0 ∧ x.n * rateL es x.cur > ceilL es x.to then 2 else 0 := by
    unfold offeredE
    rw [if_neg (by omega), if_neg (by omega), if_neg b3, if_neg b4]
  refine ⟨_, M4.cell 0 rfl rfl, ?_⟩
  refine brE_dec (fun b5 => ?yes) (fun b5 => ?no)
  case' yes =>
    have b5 : x.returns > 0 := b5
    obtain ⟨j, hj, hje⟩ := num_of (n := (giftL es).length) (i := x.returns) (by omega) (by omega)
    obtain ⟨b, o, hA', hrd⟩ := hHg4.at Gift.len (by omega) hj
    have hat : atN (giftL es) x.returns = (giftL es)[j] := by rw [hje]; exact atN_get hj
    rw [hat] at hof
    refine ⟨_, M4.cell 0 rfl rfl, ?_⟩
    refine ⟨(j : Int), by show IntKind.i64.wrap (x.returns - 1) = _; rw [hje, fit ⟨by omega, by omega⟩]; omega, ?_⟩
    refine ⟨j, b, o, rfl, hj, hA', ?_⟩
    refine ⟨(giftL es)[j].cells, rfl, hrd, ?_⟩
    intro g7 w5 h5
    have M5 := M4.alloc h5
    refine ⟨rfl, _, _, M5.get 0 rfl, Nat.le_of_ble_eq_true rfl, rfl, ?_⟩
    intro w6 h6
    have M6 : Mem w w6 [(g7, .cells (giftL es)[j].cells.toArray 37 (0, 0)), (g3, .cells x.cells.toArray 37 (0, 0)), (g2, .cells #[.slice A es.length c] 30 (0, 0))] := M5.put 0 rfl h6
    refine ⟨_, M6.cell 0 rfl rfl, ?_⟩
    refine ⟨_, M6.cell 1 rfl rfl, ?_⟩
    refine brE_ndec (fun c1 => ?_) (fun c1 => ?_)
    · have c1 : ¬ (giftL es)[j].frm = x.to := c1
      exact ⟨congrArg _ (by rw [hof, if_pos ⟨b5, fun e => c1 e.1⟩]), M6.ext⟩
    have c1 : (giftL es)[j].frm = x.to := c1
    refine ⟨_, M6.cell 0 rfl rfl, ?_⟩
    refine ⟨_, M6.cell 1 rfl rfl, ?_⟩
    refine brE_ndec (fun c2 => ?_) (fun c2 => ?_)
    · have c2 : ¬ (giftL es)[j].to = x.frm := c2
      exact ⟨congrArg _ (by rw [hof, if_pos ⟨b5, fun e => c2 e.2.1⟩]), M6.ext⟩
    have c2 : (giftL es)[j].to = x.frm := c2
    refine ⟨_, M6.cell 0 rfl rfl, ?_⟩
    refine brE_ndec (fun c3 => ?_) (fun c3 => ?_)
    · have c3 : ¬ (giftL es)[j].returns = 0 := c3
      exact ⟨congrArg _ (by rw [hof, if_pos ⟨b5, fun e => c3 e.2.2.1⟩]), M6.ext⟩
    have c3 : (giftL es)[j].returns = 0 := c3
    refine ⟨_, M6.cell 0 rfl rfl, ?_⟩
    refine brE_ndec (fun c4 => ?_) (fun c4 => ?_)
    · have c4 : ¬ (giftL es)[j].state = 2 := c4
      exact ⟨congrArg _ (by rw [hof, if_pos ⟨b5, fun e => c4 e.2.2.2⟩]), M6.ext⟩
    have c4 : (giftL es)[j].state = 2 := c4
    rw [if_neg (fun e => e.2 ⟨c1, c2, c3, c4⟩)] at hof
    have M7 := M6.tail
  case' no =>
    have b5 : ¬ x.returns > 0 := b5
    rw [if_neg (fun e => b5 e.1)] at hof
    have M7 := M4
  all_goals
    refine ⟨_, M7.cell 1 rfl rfl, ?_⟩
    refine ⟨_, M7.cell 0 rfl rfl, ?_⟩
    refine (refCeil_spec (h.ext M7.ext) hl x.to).mono ?_
    rintro v w8 ⟨rfl, e8⟩
    have M8 := M7.grow e8
    refine brE_dec (fun d1 => ?_) (fun d1 => ?_)
    · have d1 : ceilL es x.to > 0 := d1
      refine ⟨_, M8.cell 0 rfl rfl, ?_⟩
      refine ⟨x.n * rateL es x.cur, fit ⟨by omega, by omega⟩, ?_⟩
      refine brE_dec (fun d2 => ?_) (fun d2 => ?_)
      · have d2 : x.n * rateL es x.cur > ceilL es x.to := d2
        exact ⟨congrArg _ (by rw [hof, if_pos ⟨d1, d2⟩]), M8.ext⟩
      · have d2 : ¬ x.n * rateL es x.cur > ceilL es x.to := d2
        exact ⟨congrArg _ (by rw [hof, if_neg (fun e => d2 e.2)]), M8.ext⟩
    · have d1 : ¬ ceilL es x.to > 0 := d1
      exact ⟨congrArg _ (by rw [hof, if_neg (fun e => d1 e.1)]), M8.ext⟩
end Go.Proofs.YtcnbpfecgokhiaaGreatDoor
namespace Go.Proofs.YtcnbpfecgokhiaaGreatDoor
open Go.Eng Go.RowKit
theorem form_right {x : Entry} (hf : formX x = true) (hk : x.kind = 3) : rightW x.w = true := by
  obtain ⟨hok, _, _⟩ := form_okE hf
  unfold okE at hok
  rw [if_neg (by omega), if_neg (by omega), if_pos hk, Bool.and_eq_true] at hok
  exact hok.1
set_option maxRecDepth 100000 in
theorem Refused_spec {w : World} {A : Option Addr} {es : List Entry} {c : Nat} (h : HL Entry.cells w A es c) (hl : es.length ≤ 2 ^ 16) (hA : Acc es) {x : Entry} (hx : x.Nums) {B : Option Addr} {f : List Fact} {d : Nat} (hf : HF w B f d) (hfl : f.length ≤ 2 ^ 20) :
    CallsV C.P 100 #[.agg #[.slice A es.length c], .slice B f.length d, x.val] w fun v w' => v = .int .i64 (doF f es x) ∧ Ext w w' := by
  have hwl := (acc_ok hA).wlen
  have hgl := (acc_ok hA).gifts.len
  refine callsV_of C_ok (args := [_, _, _]) (plans := plans100) Tryz.func100 rfl Tryz.ntmps100 (by kernel_rfl) (Nat.le_of_ble_eq_true rfl) ?_
  intro g3 w1 h1
  have M1 : Mem w w1 [(g3, .cells #[.slice A es.length c] 30 (0, 0))] := (Mem.start w).alloc h1
  intro g5 w2 h2
  have M2 : Mem w w2 [(g5, .cells x.cells.toArray 39 (0, 0)), (g3, .cells #[.slice A es.length c] 30 (0, 0))] := M1.alloc h2
  refine ⟨x.cells, rfl, M2.rd 0 rfl, ?_⟩
  refine (formed6_spec x hx w2).mono ?_
  rintro v w3 ⟨rfl, e3⟩
  have M3 := M2.grow e3
  refine brE_mk (fun b1 => ?_) (fun b1 => ?_)
  · have b1 : formX x = false := by simpa using b1
    exact ⟨congrArg _ (by unfold doF doE; rw [if_pos b1]), M3.ext⟩
  have b1 : formX x = true := by simpa using b1
  refine ⟨_, M3.cell 0 rfl rfl, ?_⟩
  refine ⟨[_], rfl, M3.rd 1 rfl, ?_⟩
  refine (refDay_spec (h.ext M3.ext)).mono ?_
  rintro v w4 ⟨rfl, e4⟩
  refine ⟨e4, ?_⟩
  have M4 := M3.grow e4
  refine brE_dec (fun b2 => ?_) (fun b2 => ?_)
  · have b2 : x.day < lastDay es := b2
    exact ⟨congrArg _ (by unfold doF doE; rw [if_neg (by rw [b1]; decide), if_pos b2]), M4.ext⟩
  have b2 : ¬ x.day < lastDay es := b2
  have hdo : doF f es x = refusedE (sgF f x.w) es x := by unfold doF doE; rw [if_neg (by rw [b1]; decide), if_neg b2]
  rw [hdo]
  refine ⟨_, M4.cell 0 rfl rfl, ?_⟩
  refine brE_dec (fun k3 => ?_) (fun k3 => ?_)
  · have k3 : x.kind = 3 := k3
    refine ⟨[_], rfl, M4.rd 1 rfl, ?_⟩
    refine ⟨x.w.cells, rfl, (M4.rd 0 rfl).part x.w_part, ?_⟩
    refine (refGrant_spec (h.ext M4.ext) hl hA (form_right b1 k3) (hf.ext M4.ext) hfl).mono ?_
    rintro v w5 ⟨rfl, e5⟩
    exact ⟨congrArg _ (by unfold refusedE; rw [if_pos k3]), M4.ext.trans e5⟩
  have k3 : ¬ x.kind = 3 := k3
  refine brE_dec (fun k4 => ?_) (fun k4 => ?_)
  · have k4 : x.kind = 4 := k4
    have hid := end_id b1 k4
    have hr : refusedE (sgF f x.w) es x = if x.w.id > (waivL es).length then 5 else if (atN (waivL es) x.w.id).til ≤ x.day then 8 else 0 := by
      unfold refusedE; rw [if_neg k3, if_pos k4]
    refine ⟨[_], rfl, M4.rd 1 rfl, ?_⟩
    refine (Granted_spec (h.ext M4.ext) hl hA).mono ?_
    rintro v w5 ⟨hv, e5⟩
    obtain ⟨Aw, cw, rfl, hHw⟩ := hv.hl
    have M5 := M4.grow e5
    refine ⟨_, M5.cell 0 rfl rfl, ?_⟩
    refine brE_dec (fun c1 => ?_) (fun c1 => ?_)
    · have c1 : x.w.id > ((waivL es).length : Nat) := c1
      exact ⟨congrArg _ (by rw [hr, if_pos c1]), M5.ext⟩
    have c1 : ¬ x.w.id > ((waivL es).length : Nat) := c1
    obtain ⟨j, hj, hje⟩ := num_of (n := (waivL es).length) (i := x.w.id) (by omega) (by omega)
    obtain ⟨b, o, hA', hrd⟩ := hHw.at Waiv.len (by omega) hj
    have hat : atN (waivL es) x.w.id = (waivL es)[j] := by rw [hje]; exact atN_get hj
    rw [hat, if_neg c1] at hr
    refine ⟨_, M5.cell 0 rfl rfl, ?_⟩
    refine ⟨(j : Int), by show IntKind.i64.wrap (x.w.id - 1) = _; rw [hje, fit ⟨by omega, by omega⟩]; omega, ?_⟩
    refine ⟨j, b, o, rfl, hj, hA', ?_⟩
    refine ⟨_, hrd 8 _ rfl, ?_⟩
    refine ⟨_, M5.cell 0 rfl rfl, ?_⟩
    refine brE_dec (fun c2 => ?_) (fun c2 => ?_)
    · have c2 : (waivL es)[j].til ≤ x.day := c2
      exact ⟨congrArg _ (by rw [hr, if_pos c2]), M5.ext⟩
    · have c2 : ¬ (waivL es)[j].til ≤ x.day := c2
      exact ⟨congrArg _ (by rw [hr, if_neg c2]), M5.ext⟩
  have k4 : ¬ x.kind = 4 := k4
  refine brE_dec (fun k5 => ?_) (fun k5 => ?_)
  · have k5 : x.kind = 5 := k5
    obtain ⟨hn, hret⟩ := offer_nums b1 k5
    refine ⟨[_], rfl, M4.rd 1 rfl, ?_⟩
    refine ⟨x.g.cells, rfl, (M4.rd 0 rfl).part x.g_part, ?_⟩
    refine (refOffer_spec (h.ext M4.ext) hl hA hx.g hn hret).mono ?_
    rintro v w5 ⟨rfl, e5⟩
    exact ⟨congrArg _ (by unfold refusedE; rw [if_neg k3, if_neg k4, if_pos k5]), M4.ext.trans e5⟩
  have k5 : ¬ x.kind = 5 := k5
  have ans : x.kind = 6 ∨ x.kind = 7 → refusedE (sgF f x.w) es x = if x.g.id > (giftL es).length then 5 else if ¬ (atN (giftL es) x.g.id).state = 1 then 8 else 0 := fun k => by
    unfold refusedE; rw [if_neg k3, if_neg k4, if_neg k5, if_pos k]
  refine brE_dec (fun k6 => ?k6) (fun k6 => ?no)
  case' no =>
    have k6 : ¬ x.kind = 6 := k6
    refine brE_dec (fun k7 => ?k7) (fun k7 => ?k8)
  case k8 =>
    have k7 : ¬ x.kind = 7 := k7
    exact ⟨congrArg _ (by unfold refusedE; rw [if_neg k3, if_neg k4, if_neg k5, if_neg (by omega)]), M4.ext⟩
  case' k6 =>
    have kk : x.kind = 6 ∨ x.kind = 7 := .inl k6
    refine brE_true (decide_eq_true k6) ?_
  case' k7 => have kk : x.kind = 6 ∨ x.kind = 7 := .inr k7
  all_goals
    have hid := ans_id b1 kk
    have hr := ans kk
    refine ⟨[_], rfl, M4.rd 1 rfl, ?_⟩
    refine (Given_spec (h.ext M4.ext) hl hA).mono ?_
    rintro v w5 ⟨hv, e5⟩
    obtain ⟨Ag, cg, rfl, hHg⟩ := hv.hl
    have M5 := M4.grow e5
    refine ⟨_, M5.cell 0 rfl rfl, ?_⟩
    refine brE_dec (fun c1 => ?_) (fun c1 => ?_)
    · have c1 : x.g.id > ((giftL es).length : Nat) := c1
      exact ⟨congrArg _ (by rw [hr, if_pos c1]), M5.ext⟩
    have c1 : ¬ x.g.id > ((giftL es).length : Nat) := c1
    obtain ⟨j, hj, hje⟩ := num_of (n := (giftL es).length) (i := x.g.id) (by omega) (by omega)
    obtain ⟨b, o, hA', hrd⟩ := hHg.at Gift.len (by omega) hj
    have hat : atN (giftL es) x.g.id = (giftL es)[j] := by rw [hje]; exact atN_get hj
    rw [hat, if_neg c1] at hr
    refine ⟨_, M5.cell 0 rfl rfl, ?_⟩
    refine ⟨(j : Int), by show IntKind.i64.wrap (x.g.id - 1) = _; rw [hje, fit ⟨by omega, by omega⟩]; omega, ?_⟩
    refine ⟨j, b, o, rfl, hj, hA', ?_⟩
    refine ⟨_, hrd 7 _ rfl, ?_⟩
    refine brE_ndec (fun c2 => ?_) (fun c2 => ?_)
    · have c2 : ¬ (giftL es)[j].state = 1 := c2
      exact ⟨congrArg _ (by rw [hr, if_pos c2]), M5.ext⟩
    · have c2 : (giftL es)[j].state = 1 := c2
      exact ⟨congrArg _ (by rw [hr, if_neg (fun e => e c2)]), M5.ext⟩
end Go.Proofs.YtcnbpfecgokhiaaGreatDoor
