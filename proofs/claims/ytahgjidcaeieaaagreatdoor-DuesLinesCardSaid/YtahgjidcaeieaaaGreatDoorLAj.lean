/- a part of the proof: steps, walks and plain laws that the law below stands on; no condition. -/
import Derived.Test.YtahgjidcaeieaaaGreatDoorLAa
import Derived.Test.YtahgjidcaeieaaaGreatDoorLAb
import Derived.Test.YtahgjidcaeieaaaGreatDoorLAc
import Derived.Test.YtahgjidcaeieaaaGreatDoorLAd
import Derived.Test.YtahgjidcaeieaaaGreatDoorLAe
import Derived.Test.YtahgjidcaeieaaaGreatDoorLAf
import Derived.Test.YtahgjidcaeieaaaGreatDoorLAg
import Derived.Test.YtahgjidcaeieaaaGreatDoorLAh
import Derived.Test.YtahgjidcaeieaaaGreatDoorLAi
import Derived.Test.YtahgjidcaeieaaaGreatDoorRows
import Derived.Test.YtahgjidcaeieaaaGreatDoorCards
import Derived.Test.YtahgjidcaeieaaaGreatDoorTie
import Derived.ProofKit
import Derived.Lib.SmallJoins
import Derived.Deep.Slices
import Derived.Deep.SlicePairs
import Derived.SizedLaws
import Derived.ChangeSame
import Derived.ChangeVars
import Derived.ChangeMaps5
import Derived.JoinedOf
import Derived.JoinedAt
import Derived.RowKit
import Derived.RowKit3
import Derived.RowKitTokens
import Derived.LaidLaws
import Derived.Stop.LaidErr
import Derived.Lib.LaidTab
import Derived.SevenTiedAt
import Derived.Sort.Walk0
import Derived.Ground.SlsfProg
import Derived.Scope
import Derived.Laws.StructEq
import Derived.RangeFuncRecord
import Derived.RangeFuncSeq
import Derived.Recover
import Derived.Laws.IdiomStrings
set_option linter.unusedVariables false
set_option linter.unusedSimpArgs false
set_option linter.unnecessarySimpa false
set_option linter.unusedSectionVars false
namespace Go.Proofs.YtahgjidcaeieaaaGreatDoor
open Go.Eng Go.RowKit Go.ChangeShapes Go.WideShapes Go.ChangeAt
open Go.ChangeMaps (open_string shut_string)
theorem own : ownKnob Tryz.prog.godebug = none := by kernel_rfl
theorem cells3 : Tryz.prog.cellsOf 3 = 1 := by kernel_rfl
theorem cells5 : Tryz.prog.cellsOf 5 = 1 := by kernel_rfl
theorem cells9 : Tryz.prog.cellsOf 9 = 1 := by kernel_rfl
theorem rec9 : Tryz.prog.readableRec 9 = true := by kernel_rfl
theorem row9 : (9 : TypeId) < Tryz.prog.types.size := of_decide_eq_true (by kernel_rfl)
theorem wf_u8 {a : Int} (h : (Lit.int .u8 a).wf = true) : 0 ≤ a ∧ a ≤ 255 := by
  simp [Lit.wf, IntKind.min, IntKind.max, IntKind.bits, IntKind.signed] at h
  omega
theorem gPow : Tryz.prog.globalNamed "internal/strconv.uint64pow10" = some 3 := by kernel_rfl
theorem gPowT : (Tryz.prog.globals[3]?).map (·.type) = some 160 := by kernel_rfl
theorem gSyn : Tryz.prog.globalNamed "strconv.ErrSyntax" = some 1 := by kernel_rfl
theorem gSynT : (Tryz.prog.globals[1]?).map (·.type) = some 74 := by kernel_rfl
theorem gRng : Tryz.prog.globalNamed "strconv.ErrRange" = some 2 := by kernel_rfl
theorem gRngT : (Tryz.prog.globals[2]?).map (·.type) = some 74 := by kernel_rfl
theorem cells64 : Tryz.prog.cellsOf 140 = 1 := by kernel_rfl
theorem cells20 : Tryz.prog.cellsOf 160 = 20 := by kernel_rfl
theorem cellsES : Tryz.prog.cellsOf 171 = 1 := by kernel_rfl
theorem star : "*" ++ "errors.errorString" = "*errors.errorString" := by decide
theorem rowES (u : TypeId) (h : Tryz.prog.typeName? 3 u = some "*errors.errorString") : u = 169 :=
  typeName_ptr_named (nm := "errors.errorString") (by rw [star]; kernel_rfl) (by kernel_rfl) (by decide) u (by rw [star]; exact h)
theorem pow_data : (Rows.laid_internal_strconv_uint64pow10 : DataW Unit) = Lib.tabData .u64 Lib.pow10Tab := by kernel_rfl
abbrev laidL : List (String × DataW Unit) := Rows.duesLinesRow.laid
theorem tabs2_of_laid {W : World} (h : laidMet Tryz.prog laidL W) : Tabs W := by
  have h2 : laidMet Tryz.prog (("internal/strconv.uint64pow10", Lib.tabData .u64 Lib.pow10Tab) :: laidL.tail.tail.tail) W := by
    rw [← pow_data]; exact h.tail.tail
  have h3 : laidMet Tryz.prog laidL.tail.tail.tail W := h2.tail
  have t1 := Lib.tabIs_of_head gPow gPowT Tryz.underlying160 Tryz.underlying140 cells64 cells20 h2
  obtain ⟨a0, s0, hv0, -, -, -⟩ := laid_sentinel h3 gRng gRngT Tryz.underlying74 rowES Tryz.underlying169 Tryz.underlying171 rfl rfl Tryz.underlying9 cellsES cells9
  obtain ⟨a1, s1, hv1, -, -, -⟩ := laid_sentinel h3.tail gSyn gSynT Tryz.underlying74 rowES Tryz.underlying169 Tryz.underlying171 rfl rfl Tryz.underlying9 cellsES cells9
  exact ⟨t1, ⟨_, _, by have h0 := World.var?_cell gSyn hv1 0; simpa using h0⟩, ⟨_, _, by have h0 := World.var?_cell gRng hv0 0; simpa using h0⟩⟩
abbrev synS : ByteArray := ⟨#[105, 110, 118, 97, 108, 105, 100, 32, 115, 121, 110, 116, 97, 120]⟩
abbrev rngS : ByteArray := ⟨#[118, 97, 108, 117, 101, 32, 111, 117, 116, 32, 111, 102, 32, 114, 97, 110, 103, 101]⟩
noncomputable def low : Nat := (World.holding Tryz.prog default ⟨#[], #[], []⟩).heap.size
def litCells : DataW Unit → Array Value
  | .agg ds => (ds.map fun d => match d with | .lit (.int k n) => Value.int k n | _ => undef).toArray
  | _ => #[]
def setCells (cs : Array Value) : Obj → Obj
  | .cells _ t frozen => .cells cs t frozen
  | o => o
noncomputable def laidWorld (os : Os) : World :=
  let w0 := World.holding Tryz.prog os ⟨#[.cells #[.string synS] 171, .cells #[.string rngS] 171], #[], []⟩
  { w0 with heap := ((((w0.heap.modify 1 (setCells #[.iface 169 (.pointer (some ⟨low, 0, none⟩))])).modify 2 (setCells #[.iface 169 (.pointer (some ⟨low + 1, 0, none⟩))])).modify 3 (setCells (litCells Rows.laid_internal_strconv_uint64pow10))).modify 4 (setCells (litCells Rows.laid_math_bits_deBruijn32tab))).modify 5 (setCells (litCells Rows.laid_math_bits_deBruijn64tab)) }
theorem laidWorld_met (os : Os) (args : Array Value) : laidMet Tryz.prog laidL ((laidWorld os).forCall (fun _ _ => 0) ⟨#[], args, []⟩).memory :=
  laidMet_of_run' 8 (by kernel_rfl) (by kernel_rfl)
section
variable {H : Type} {enc : TypeId × Value → H} {W : World}
theorem dropSplit {α : Type} (l : List α) (i k : Nat) : l.drop i = (l.drop i).take k ++ l.drop (i + k) := by
  rw [← List.drop_drop]; exact (List.take_append_drop k (l.drop i)).symm
theorem open_i3 {base n : Nat} {spare : Nat → Bool} {held : Bool} {cs : List Value} {x : DataW H × List MemPlace} (h : DataW.trod enc Tryz.prog W base spare held n 3 cs = some x) : ∃ z : Int, cs = [.int .i64 z] ∧ In64 z := by
  obtain ⟨z, e, _, wz⟩ := DataW.trod_int under3 h
  exact ⟨z, e, wf_in64 wz⟩
theorem open_i5 {base n : Nat} {spare : Nat → Bool} {held : Bool} {cs : List Value} {x : DataW H × List MemPlace} (h : DataW.trod enc Tryz.prog W base spare held n 5 cs = some x) : ∃ z : Int, cs = [.int .u8 z] ∧ 0 ≤ z ∧ z ≤ 255 := by
  obtain ⟨z, e, _, wz⟩ := DataW.trod_int under5 h
  exact ⟨z, e, wf_u8 wz⟩
theorem cellsW : Tryz.prog.cellsOf 23 = 9 := by kernel_rfl
theorem open_cW {base n : Nat} {spare : Nat → Bool} {held : Bool} {cs : List Value} {x : DataW H × List MemPlace} (h : DataW.trod enc Tryz.prog W base spare held n 23 cs = some x) : ∃ y : Waiv, cs = y.cells ∧ y.Nums := by
  obtain ⟨xs, n', _, _, hlen, hxs, hg⟩ := DataW.trod_struct underW h
  rw [cellsW] at hlen
  have some_ : ∀ i, i < 9 → ∃ y, xs[i]? = some y := fun i hi => ⟨_, List.getElem?_eq_getElem (by rw [hxs]; exact hi)⟩
  have f0 : DataW.trod enc Tryz.prog W base spare held n' 3 ((cs.drop 0).take (Tryz.prog.cellsOf 3)) = xs[0]? := hg 0 _ rfl
  obtain ⟨y0, hy0⟩ := some_ 0 (by omega)
  rw [hy0, cells3] at f0
  obtain ⟨z0, e0, n0⟩ := open_i3 f0
  have f1 : DataW.trod enc Tryz.prog W base spare held n' 3 ((cs.drop 1).take (Tryz.prog.cellsOf 3)) = xs[1]? := hg 1 _ rfl
  obtain ⟨y1, hy1⟩ := some_ 1 (by omega)
  rw [hy1, cells3] at f1
  obtain ⟨z1, e1, n1⟩ := open_i3 f1
  have f2 : DataW.trod enc Tryz.prog W base spare held n' 3 ((cs.drop 2).take (Tryz.prog.cellsOf 3)) = xs[2]? := hg 2 _ rfl
  obtain ⟨y2, hy2⟩ := some_ 2 (by omega)
  rw [hy2, cells3] at f2
  obtain ⟨z2, e2, n2⟩ := open_i3 f2
  have f3 : DataW.trod enc Tryz.prog W base spare held n' 3 ((cs.drop 3).take (Tryz.prog.cellsOf 3)) = xs[3]? := hg 3 _ rfl
  obtain ⟨y3, hy3⟩ := some_ 3 (by omega)
  rw [hy3, cells3] at f3
  obtain ⟨z3, e3, n3⟩ := open_i3 f3
  have f4 : DataW.trod enc Tryz.prog W base spare held n' 3 ((cs.drop 4).take (Tryz.prog.cellsOf 3)) = xs[4]? := hg 4 _ rfl
  obtain ⟨y4, hy4⟩ := some_ 4 (by omega)
  rw [hy4, cells3] at f4
  obtain ⟨z4, e4, n4⟩ := open_i3 f4
  have f5 : DataW.trod enc Tryz.prog W base spare held n' 3 ((cs.drop 5).take (Tryz.prog.cellsOf 3)) = xs[5]? := hg 5 _ rfl
  obtain ⟨y5, hy5⟩ := some_ 5 (by omega)
  rw [hy5, cells3] at f5
  obtain ⟨z5, e5, n5⟩ := open_i3 f5
  have f6 : DataW.trod enc Tryz.prog W base spare held n' 3 ((cs.drop 6).take (Tryz.prog.cellsOf 3)) = xs[6]? := hg 6 _ rfl
  obtain ⟨y6, hy6⟩ := some_ 6 (by omega)
  rw [hy6, cells3] at f6
  obtain ⟨z6, e6, n6⟩ := open_i3 f6
  have f7 : DataW.trod enc Tryz.prog W base spare held n' 3 ((cs.drop 7).take (Tryz.prog.cellsOf 3)) = xs[7]? := hg 7 _ rfl
  obtain ⟨y7, hy7⟩ := some_ 7 (by omega)
  rw [hy7, cells3] at f7
  obtain ⟨z7, e7, n7⟩ := open_i3 f7
  have f8 : DataW.trod enc Tryz.prog W base spare held n' 3 ((cs.drop 8).take (Tryz.prog.cellsOf 3)) = xs[8]? := hg 8 _ rfl
  obtain ⟨y8, hy8⟩ := some_ 8 (by omega)
  rw [hy8, cells3] at f8
  obtain ⟨z8, e8, n8⟩ := open_i3 f8
  have hc : cs = (cs.drop 0).take 1 ++ ((cs.drop 1).take 1 ++ ((cs.drop 2).take 1 ++ ((cs.drop 3).take 1 ++ ((cs.drop 4).take 1 ++ ((cs.drop 5).take 1 ++ ((cs.drop 6).take 1 ++ ((cs.drop 7).take 1 ++ ((cs.drop 8).take 1 ++ cs.drop 9)))))))) := by
    have h0 : cs = cs.drop 0 := rfl
    have h1 := dropSplit cs 0 1
    have h2 := dropSplit cs 1 1
    have h3 := dropSplit cs 2 1
    have h4 := dropSplit cs 3 1
    have h5 := dropSplit cs 4 1
    have h6 := dropSplit cs 5 1
    have h7 := dropSplit cs 6 1
    have h8 := dropSplit cs 7 1
    have h9 := dropSplit cs 8 1
    conv => lhs; rw [h0, h1]
    rw [show 0 + 1 = 1 from rfl]
    conv => lhs; rw [h2]
    rw [show 1 + 1 = 2 from rfl]
    conv => lhs; rw [h3]
    rw [show 2 + 1 = 3 from rfl]
    conv => lhs; rw [h4]
    rw [show 3 + 1 = 4 from rfl]
    conv => lhs; rw [h5]
    rw [show 4 + 1 = 5 from rfl]
    conv => lhs; rw [h6]
    rw [show 5 + 1 = 6 from rfl]
    conv => lhs; rw [h7]
    rw [show 6 + 1 = 7 from rfl]
    conv => lhs; rw [h8]
    rw [show 7 + 1 = 8 from rfl]
    conv => lhs; rw [h9]
  rw [List.drop_eq_nil_of_le (by omega : cs.length ≤ 9), e0, e1, e2, e3, e4, e5, e6, e7, e8] at hc
  refine ⟨⟨z0, z1, z2, z3, z4, z5, z6, z7, z8⟩, hc.trans ?_, ⟨n0, n1, n2, n3, n4, n5, n6, n7, n8⟩⟩
  rfl
theorem cellsG : Tryz.prog.cellsOf 25 = 10 := by kernel_rfl
theorem open_cG {base n : Nat} {spare : Nat → Bool} {held : Bool} {cs : List Value} {x : DataW H × List MemPlace} (h : DataW.trod enc Tryz.prog W base spare held n 25 cs = some x) : ∃ y : Gift, cs = y.cells ∧ y.Nums := by
  obtain ⟨xs, n', _, _, hlen, hxs, hg⟩ := DataW.trod_struct underG h
  rw [cellsG] at hlen
  have some_ : ∀ i, i < 10 → ∃ y, xs[i]? = some y := fun i hi => ⟨_, List.getElem?_eq_getElem (by rw [hxs]; exact hi)⟩
  have f0 : DataW.trod enc Tryz.prog W base spare held n' 3 ((cs.drop 0).take (Tryz.prog.cellsOf 3)) = xs[0]? := hg 0 _ rfl
  obtain ⟨y0, hy0⟩ := some_ 0 (by omega)
  rw [hy0, cells3] at f0
  obtain ⟨z0, e0, n0⟩ := open_i3 f0
  have f1 : DataW.trod enc Tryz.prog W base spare held n' 3 ((cs.drop 1).take (Tryz.prog.cellsOf 3)) = xs[1]? := hg 1 _ rfl
  obtain ⟨y1, hy1⟩ := some_ 1 (by omega)
  rw [hy1, cells3] at f1
  obtain ⟨z1, e1, n1⟩ := open_i3 f1
  have f2 : DataW.trod enc Tryz.prog W base spare held n' 3 ((cs.drop 2).take (Tryz.prog.cellsOf 3)) = xs[2]? := hg 2 _ rfl
  obtain ⟨y2, hy2⟩ := some_ 2 (by omega)
  rw [hy2, cells3] at f2
  obtain ⟨z2, e2, n2⟩ := open_i3 f2
  have f3 : DataW.trod enc Tryz.prog W base spare held n' 3 ((cs.drop 3).take (Tryz.prog.cellsOf 3)) = xs[3]? := hg 3 _ rfl
  obtain ⟨y3, hy3⟩ := some_ 3 (by omega)
  rw [hy3, cells3] at f3
  obtain ⟨z3, e3, n3⟩ := open_i3 f3
  have f4 : DataW.trod enc Tryz.prog W base spare held n' 5 ((cs.drop 4).take (Tryz.prog.cellsOf 5)) = xs[4]? := hg 4 _ rfl
  obtain ⟨y4, hy4⟩ := some_ 4 (by omega)
  rw [hy4, cells5] at f4
  obtain ⟨z4, e4, n4⟩ := open_i5 f4
  have f5 : DataW.trod enc Tryz.prog W base spare held n' 3 ((cs.drop 5).take (Tryz.prog.cellsOf 3)) = xs[5]? := hg 5 _ rfl
  obtain ⟨y5, hy5⟩ := some_ 5 (by omega)
  rw [hy5, cells3] at f5
  obtain ⟨z5, e5, n5⟩ := open_i3 f5
  have f6 : DataW.trod enc Tryz.prog W base spare held n' 3 ((cs.drop 6).take (Tryz.prog.cellsOf 3)) = xs[6]? := hg 6 _ rfl
  obtain ⟨y6, hy6⟩ := some_ 6 (by omega)
  rw [hy6, cells3] at f6
  obtain ⟨z6, e6, n6⟩ := open_i3 f6
  have f7 : DataW.trod enc Tryz.prog W base spare held n' 5 ((cs.drop 7).take (Tryz.prog.cellsOf 5)) = xs[7]? := hg 7 _ rfl
  obtain ⟨y7, hy7⟩ := some_ 7 (by omega)
  rw [hy7, cells5] at f7
  obtain ⟨z7, e7, n7⟩ := open_i5 f7
  have f8 : DataW.trod enc Tryz.prog W base spare held n' 3 ((cs.drop 8).take (Tryz.prog.cellsOf 3)) = xs[8]? := hg 8 _ rfl
  obtain ⟨y8, hy8⟩ := some_ 8 (by omega)
  rw [hy8, cells3] at f8
  obtain ⟨z8, e8, n8⟩ := open_i3 f8
  have f9 : DataW.trod enc Tryz.prog W base spare held n' 3 ((cs.drop 9).take (Tryz.prog.cellsOf 3)) = xs[9]? := hg 9 _ rfl
  obtain ⟨y9, hy9⟩ := some_ 9 (by omega)
  rw [hy9, cells3] at f9
  obtain ⟨z9, e9, n9⟩ := open_i3 f9
  have hc : cs = (cs.drop 0).take 1 ++ ((cs.drop 1).take 1 ++ ((cs.drop 2).take 1 ++ ((cs.drop 3).take 1 ++ ((cs.drop 4).take 1 ++ ((cs.drop 5).take 1 ++ ((cs.drop 6).take 1 ++ ((cs.drop 7).take 1 ++ ((cs.drop 8).take 1 ++ ((cs.drop 9).take 1 ++ cs.drop 10))))))))) := by
    have h0 : cs = cs.drop 0 := rfl
    have h1 := dropSplit cs 0 1
    have h2 := dropSplit cs 1 1
    have h3 := dropSplit cs 2 1
    have h4 := dropSplit cs 3 1
    have h5 := dropSplit cs 4 1
    have h6 := dropSplit cs 5 1
    have h7 := dropSplit cs 6 1
    have h8 := dropSplit cs 7 1
    have h9 := dropSplit cs 8 1
    have h10 := dropSplit cs 9 1
    conv => lhs; rw [h0, h1]
    rw [show 0 + 1 = 1 from rfl]
    conv => lhs; rw [h2]
    rw [show 1 + 1 = 2 from rfl]
    conv => lhs; rw [h3]
    rw [show 2 + 1 = 3 from rfl]
    conv => lhs; rw [h4]
    rw [show 3 + 1 = 4 from rfl]
    conv => lhs; rw [h5]
    rw [show 4 + 1 = 5 from rfl]
    conv => lhs; rw [h6]
    rw [show 5 + 1 = 6 from rfl]
    conv => lhs; rw [h7]
    rw [show 6 + 1 = 7 from rfl]
    conv => lhs; rw [h8]
    rw [show 7 + 1 = 8 from rfl]
    conv => lhs; rw [h9]
    rw [show 8 + 1 = 9 from rfl]
    conv => lhs; rw [h10]
  rw [List.drop_eq_nil_of_le (by omega : cs.length ≤ 10), e0, e1, e2, e3, e4, e5, e6, e7, e8, e9] at hc
  refine ⟨⟨z0, z1, z2, z3, z4, z5, z6, z7, z8, z9⟩, hc.trans ?_, ⟨n0, n1, n2, n3, n4, n5, n6, n7, n8, n9⟩⟩
  rfl
theorem cellsEn : Tryz.prog.cellsOf 27 = 24 := by kernel_rfl
theorem recE6 : Tryz.prog.readableRec 27 = true := by kernel_rfl
theorem rowE6 : (27 : TypeId) < Tryz.prog.types.size := of_decide_eq_true (by kernel_rfl)
theorem open_cE {base n : Nat} {spare : Nat → Bool} {held : Bool} {cs : List Value} {x : DataW H × List MemPlace} (h : DataW.trod enc Tryz.prog W base spare held n 27 cs = some x) : ∃ y : Entry, cs = y.cells ∧ y.Nums := by
  obtain ⟨xs, n', _, _, hlen, hxs, hg⟩ := DataW.trod_struct underE h
  rw [cellsEn] at hlen
  have some_ : ∀ i, i < 7 → ∃ y, xs[i]? = some y := fun i hi => ⟨_, List.getElem?_eq_getElem (by rw [hxs]; exact hi)⟩
  have f0 : DataW.trod enc Tryz.prog W base spare held n' 5 ((cs.drop 0).take (Tryz.prog.cellsOf 5)) = xs[0]? := hg 0 _ rfl
  obtain ⟨y0, hy0⟩ := some_ 0 (by omega)
  rw [hy0, cells5] at f0
  obtain ⟨z0, e0, n0⟩ := open_i5 f0
  have f1 : DataW.trod enc Tryz.prog W base spare held n' 3 ((cs.drop 1).take (Tryz.prog.cellsOf 3)) = xs[1]? := hg 1 _ rfl
  obtain ⟨y1, hy1⟩ := some_ 1 (by omega)
  rw [hy1, cells3] at f1
  obtain ⟨z1, e1, n1⟩ := open_i3 f1
  have f2 : DataW.trod enc Tryz.prog W base spare held n' 23 ((cs.drop 2).take (Tryz.prog.cellsOf 23)) = xs[2]? := hg 2 _ rfl
  obtain ⟨y2, hy2⟩ := some_ 2 (by omega)
  rw [hy2, cellsW] at f2
  obtain ⟨z2, e2, n2⟩ := open_cW f2
  have f3 : DataW.trod enc Tryz.prog W base spare held n' 25 ((cs.drop 11).take (Tryz.prog.cellsOf 25)) = xs[3]? := hg 3 _ rfl
  obtain ⟨y3, hy3⟩ := some_ 3 (by omega)
  rw [hy3, cellsG] at f3
  obtain ⟨z3, e3, n3⟩ := open_cG f3
  have f4 : DataW.trod enc Tryz.prog W base spare held n' 3 ((cs.drop 21).take (Tryz.prog.cellsOf 3)) = xs[4]? := hg 4 _ rfl
  obtain ⟨y4, hy4⟩ := some_ 4 (by omega)
  rw [hy4, cells3] at f4
  obtain ⟨z4, e4, n4⟩ := open_i3 f4
  have f5 : DataW.trod enc Tryz.prog W base spare held n' 3 ((cs.drop 22).take (Tryz.prog.cellsOf 3)) = xs[5]? := hg 5 _ rfl
  obtain ⟨y5, hy5⟩ := some_ 5 (by omega)
  rw [hy5, cells3] at f5
  obtain ⟨z5, e5, n5⟩ := open_i3 f5
  have f6 : DataW.trod enc Tryz.prog W base spare held n' 3 ((cs.drop 23).take (Tryz.prog.cellsOf 3)) = xs[6]? := hg 6 _ rfl
  obtain ⟨y6, hy6⟩ := some_ 6 (by omega)
  rw [hy6, cells3] at f6
  obtain ⟨z6, e6, n6⟩ := open_i3 f6
  have hc : cs = (cs.drop 0).take 1 ++ ((cs.drop 1).take 1 ++ ((cs.drop 2).take 9 ++ ((cs.drop 11).take 10 ++ ((cs.drop 21).take 1 ++ ((cs.drop 22).take 1 ++ ((cs.drop 23).take 1 ++ cs.drop 24)))))) := by
    have h0 : cs = cs.drop 0 := rfl
    have h1 := dropSplit cs 0 1
    have h2 := dropSplit cs 1 1
    have h3 := dropSplit cs 2 9
    have h4 := dropSplit cs 11 10
    have h5 := dropSplit cs 21 1
    have h6 := dropSplit cs 22 1
    have h7 := dropSplit cs 23 1
    conv => lhs; rw [h0, h1]
    rw [show 0 + 1 = 1 from rfl]
    conv => lhs; rw [h2]
    rw [show 1 + 1 = 2 from rfl]
    conv => lhs; rw [h3]
    rw [show 2 + 9 = 11 from rfl]
    conv => lhs; rw [h4]
    rw [show 11 + 10 = 21 from rfl]
    conv => lhs; rw [h5]
    rw [show 21 + 1 = 22 from rfl]
    conv => lhs; rw [h6]
    rw [show 22 + 1 = 23 from rfl]
    conv => lhs; rw [h7]
  rw [List.drop_eq_nil_of_le (by omega : cs.length ≤ 24), e0, e1, e2, e3, e4, e5, e6] at hc
  refine ⟨⟨z0, z1, z2, z3, z4, z5, z6⟩, hc.trans ?_, ⟨n0, n1, n2, n3, n4, n5, n6⟩⟩
  simp [Entry.cells, Opn.cells, Waiv.cells, Gift.cells]
set_option maxRecDepth 100000 in
theorem open_vE {v : Value} {d : DataW H} {p : List MemPlace} {b0 : Nat} (hv : Value.okWide Tryz.prog W .any b0 27 v) (h : DataW.Trod enc Tryz.prog W 0 (fun _ => true) true 27 v d p) : ∃ y : Entry, v = y.val ∧ y.Nums := by
  obtain ⟨cs, rfl, hsz⟩ := okWide_struct underE hv
  obtain ⟨fuel, hf⟩ := h
  obtain ⟨y, hy, hn⟩ := open_cE hf
  refine ⟨y, ?_, hn⟩
  show Value.agg cs = Value.agg _
  congr 1
  apply Array.ext'
  exact hy
end
end Go.Proofs.YtahgjidcaeieaaaGreatDoor
namespace Go.Eng
open Go.RowKit
section
variable {n : Nat} {D : List Deferred} {a : Act} {l : Env}
end
section
variable {C : Cfg} {n : Nat}
theorem Snd.seq {x y : Code} {l : Env} {w : World} {Q : Exit → Env → World → Prop} (h : Snd C n x l w (thenE Q fun l' w' => Rest C n y l' w' Q)) : Snd C n (.seq x y) l w Q := by
  intro d a w₁ hr hs hd
  refine wp_seq (wp_mono (h d a w₁ hr hs hd) ?_)
  rintro e a' w' ⟨l', w'', hq, hr', hs', hd'⟩
  cases e with
  | normal => exact hq.snd d a' w' hr' hs' hd'
  | _ => exact ⟨l', w'', hq, hr', hs', hd'⟩
theorem Snd.cond {c : Operand} {x y : Code} {b : Bool} {l : Env} {w : World} {Q : Exit → Env → World → Prop} (hc : evo l c = some (.bool b)) (hx : b = true → Snd C n x l w Q) (hy : b = false → Snd C n y l w Q) : Snd C n (.cond c x y) l w Q := by
  intro d a w₁ hr hs hd
  have he := hr.evo hc
  cases b with
  | true => exact wp_cond_true he (hx rfl d a w₁ hr hs hd)
  | false => exact wp_cond_false he (hy rfl d a w₁ hr hs hd)
theorem Snd.skip {l : Env} {w : World} {Q : Exit → Env → World → Prop} (h : Q .normal l w) : Snd C n .skip l w Q := fun _ _ _ hr hs hd => wp_skip ⟨l, w, h, hr, hs, hd⟩
end
end Go.Eng
namespace Go.Eng
open Go.RowKit
def CallsP (b : Bool) (P : Program) (f : Nat) (args : Array Value) (w : World) (K KP : Value → World → Prop) : Prop :=
  ∀ w₁, Same w w₁ → Calls P f args w₁ fun e w' => ((∃ v w'', e = .returned v ∧ K v w'' ∧ Same w'' w') ∨ (∃ v w'', e = .panicked [{ v, recovered := false }] ∧ KP v w'' ∧ Same w'' w')) ∧ (b = true → w₁.drawn ≤ w'.drawn)
theorem CallsP.mono {b : Bool} {P : Program} {f : Nat} {args : Array Value} {w : World} {K K' KP KP' : Value → World → Prop} (h : CallsP b P f args w K KP) (hk : ∀ v w', K v w' → K' v w') (hp : ∀ v w', KP v w' → KP' v w') : CallsP b P f args w K' KP' :=
  fun w₁ hs => (h w₁ hs).mono fun _ _ ⟨h, hd⟩ => ⟨h.elim (fun ⟨v, w'', he, hv, hw⟩ => .inl ⟨v, w'', he, hk v w'' hv, hw⟩) (fun ⟨v, w'', he, hv, hw⟩ => .inr ⟨v, w'', he, hp v w'' hv, hw⟩), hd⟩
def isIn (g : Nat) : List Nat → Bool
  | [] => false
  | k :: r => match Nat.beq k g with
    | true => true
    | false => isIn g r
def opP (C : Cfg) (pf : List Nat) (o : Oper) (l : Env) (w : World) (K KP : Value → World → Prop) : Prop := match o.op with
  | .panic x => withO (evo l x) fun v => match v with
    | .iface t u => KP (.iface t u) w
    | _ => False
  | .call ⟨.value f, args, _⟩ => withO (evo l f) fun fv => match fv with
    | .func (.func g) first captured => match isIn g pf with
      | true => brE (C.can g) (withO (argsOf l args.toList) fun vs => CallsP C.dr C.P g (first ++ vs.toArray ++ captured) w K KP) False
      | false => opE C o l w K
    | _ => False
  | _ => opE C o l w K
abbrev RunPT := Env → World → (Exit → Env → World → Prop) → Prop
noncomputable def runP (C : Cfg) (pf : List Nat) (all : List Oper) (os : List Oper) : RunPT :=
  List.rec (motive := fun _ => RunPT) (fun l w Q => Q .normal l w)
    (fun o _ ih l w Q => guardE all o l (fun l => opP C pf o l w (fun v w' => ih (bindv o.dst v l) w' Q) (fun v w' => Q (.panic [{ v, recovered := false }]) l w')) (fun l => ih (bindv o.dst undef l) w Q)) os
theorem runP_cons (C : Cfg) (pf : List Nat) (all : List Oper) (o : Oper) (r : List Oper) (l : Env) (w : World) (Q : Exit → Env → World → Prop) :
    runP C pf all (o :: r) l w Q = guardE all o l (fun l => opP C pf o l w (fun v w' => runP C pf all r (bindv o.dst v l) w' Q) (fun v w' => Q (.panic [{ v, recovered := false }]) l w')) (fun l => runP C pf all r (bindv o.dst undef l) w Q) := rfl
noncomputable def codeP (C : Cfg) (pf : List Nat) (n : Nat) (plans : List (Nat × PlanT)) (c : Code) : CodeT :=
  Code.rec (motive := fun _ => CodeT)
    (fun l w Q => Q .normal l w)
    (fun id ops draw l w Q => match draw with
      | false => runP C pf ops.toList ops.toList l w Q
      | true => withO (lookP plans id) fun p => match hasMid p with
        | false => runD C (fun _ => True) w ops.toList p l w (Q .normal)
        | true => ∃ D : Nat → Prop, runD C D w ops.toList p l w (Q .normal))
    (fun _ _ x y l w Q => x l w (thenE Q fun l w => y l w Q))
    (fun c _ _ x y l w Q => withO (evo l c) fun v => match v with
      | .bool b => brE b (x l w Q) (y l w Q)
      | _ => False)
    (fun id _ x l w Q => x l w (blockE id Q))
    (fun c _ l w Q => LoopE C n plans c l w Q)
    (fun _ _ _ _ _ _ _ _ _ => False)
    (fun id l w Q => Q (.exit id) l w)
    (fun c _ l w Q => ScopeE C n plans c l w Q)
    (fun _ l w Q => Q .normal l w)
    (fun k l w Q => Q (.goto k) l w)
    (fun l w Q => Q .ret l w)
    (fun _ _ _ _ => False) c
section
variable {C : Cfg} {n : Nat} {pf : List Nat}
theorem opE_sound (hC : C.Ok) {o : Oper} {l : Env} {w : World} {K : Value → World → Prop} (h : opE C o l w K) {a : Act} {w₁ : World} (hρ : ∀ x u, evo l x = some u → a.eval x = u) (hs : Same w w₁)
    {K' : Act → World → Prop} {Q : Exit → Act → World → Prop} (hK : ∀ v w' w'', K v w' → Same w' w'' → (C.dr = true → w₁.drawn ≤ w''.drawn) → K' (a.put o.dst v) w'') : o.wp C.P a w₁ K' Q := by
  unfold opE at h
  cases hloud : isLoud o.op with
  | true =>
    simp only [hloud] at h
    exact opL_sound hC h hρ hs hK
  | false =>
    simp only [hloud] at h
    obtain ⟨v, hk, hrun⟩ := opQ_sound hC h
    have := hrun a.eval hρ w₁ (.inr hs.ext)
    unfold Oper.wp
    rw [this]
    exact hK v w w₁ hk hs fun _ => Nat.le_refl _
theorem opP_sound (hC : C.Ok) {o : Oper} {l : Env} {w : World} {K KP : Value → World → Prop} (h : opP C pf o l w K KP) {a : Act} {w₁ : World} (hρ : ∀ x u, evo l x = some u → a.eval x = u) (hs : Same w w₁)
    {K' : Act → World → Prop} {Q : Exit → Act → World → Prop} (hK : ∀ v w' w'', K v w' → Same w' w'' → (C.dr = true → w₁.drawn ≤ w''.drawn) → K' (a.put o.dst v) w'')
    (hP : ∀ v w' w'', KP v w' → Same w' w'' → (C.dr = true → w₁.drawn ≤ w''.drawn) → Q (.panic [{ v, recovered := false }]) a w'') : o.wp C.P a w₁ K' Q := by
  obtain ⟨dst, op, type, pos, after, guard⟩ := o
  unfold opP at h
  simp only at h
  split at h
  · rename_i x
    obtain ⟨v, hv, h⟩ := withO_iff h
    split at h
    · rename_i t u
      unfold Oper.wp
      have e : a.eval x = .iface t u := hρ x _ hv
      have hrun : (execOp a.eval ⟨dst, .panic x, type, pos, after, guard⟩).run C.P w₁ = .halt (.panic (.iface t u)) w₁ := by
        simp only [execOp, e]
        rfl
      rw [hrun]
      exact hP _ w w₁ h hs fun _ => Nat.le_refl _
    · exact h.elim
  · rename_i f args ts
    obtain ⟨fv, hf, h⟩ := withO_iff h
    split at h
    · rename_i g first captured
      split at h
      · rcases Bool.eq_false_or_eq_true (C.can g) with hlt | hlt
        · rw [hlt] at h
          have h : withO (argsOf l args.toList) fun vs => CallsP C.dr C.P g (first ++ vs.toArray ++ captured) w K KP := h
          obtain ⟨vs, hvs, h⟩ := withO_iff h
          have hc := hC.funcs g hlt
          have hargs := argsOf_eval hρ hvs
          unfold callable at hc
          cases hfn : C.P.funcs[g]? with
          | none => simp [hfn] at hc
          | some fn =>
            simp [hfn] at hc
            have hb : fn.body.isNone = false := by
              cases hb : fn.body with
              | none => simp [hb] at hc
              | some c => rfl
            have hm : args.map a.eval = vs.toArray := by apply Array.ext'; simp [hargs]
            have hrun : (execOp a.eval ⟨dst, .call ⟨.value f, args, ts⟩, type, pos, after, guard⟩).run C.P w₁ = .ok (.enter g (first ++ vs.toArray ++ captured)) w₁ := by
              simp [execOp, resolve, hρ _ _ hf, Deferred.ofValue, invoke, callFunc, hfn, hc.1, hm]
              intro hn; simp [hn] at hb
            unfold Oper.wp
            rw [hrun]
            refine (h w₁ hs).mono ?_
            rintro e w' ⟨⟨v, w'', rfl, hk, hw⟩ | ⟨v, w'', rfl, hk, hw⟩, hd⟩
            · exact hK v w'' w' hk hw hd
            · exact hP v w'' w' hk hw hd
        · rw [hlt] at h
          exact (show False from h).elim
      · exact opE_sound hC h hρ hs hK
    · exact h.elim
  · exact opE_sound hC h hρ hs hK
theorem runP_sound (hC : C.Ok) {d : Nat} {all : List Oper} (hd : dstsOk n all.toArray = true) {Q : Exit → Env → World → Prop} : ∀ (r : List Oper) (k : Nat) (l : Env) (w : World) (a : Act) (w₁ : World),
    (∀ j, r[j]? = all[k + j]?) → runP C pf all r l w Q → Rep n C.df a l → Same w w₁ → Dr C d w₁ → wpOps C.P all.toArray (Lift C n d Q) (List.range' k r.length) a w₁
  | [], k, l, w, a, w₁, _, h, hr, hs, hdw => by simpa [wpOps] using ⟨l, w, h, hr, hs, hdw⟩
  | o :: r, k, l, w, a, w₁, hl, h, hr, hs, hdw => by
    have h0 : all[k]? = some o := by simpa using (hl 0).symm
    have h0' : all.toArray[k]? = some o := by simpa using h0
    have hdst := dstsOk_spec hd (Array.mem_of_getElem? h0')
    have hnext : ∀ j, r[j]? = all[k + 1 + j]? := fun j => by have := hl (j + 1); simpa [Nat.add_assoc, Nat.add_comm 1 j] using this
    simp only [List.length_cons, List.range'_succ, wpOps, h0']
    rw [runP_cons] at h
    rcases guard_sound h hr with ⟨hw, l', hr', h⟩ | ⟨hw, l', hr', h⟩
    · simp only [hw, if_true]
      refine .inl ?_
      exact opP_sound hC h (fun x u hx => hr'.evo hx) hs (fun v w' w'' hk hw' hd' => runP_sound hC hd r (k + 1) _ w' _ w'' hnext hk (hr'.bindv hdst v) hw' (hdw.step hd'))
        (fun v w' w'' hk hw' hd' => ⟨l', w', hk, hr', hw', hdw.step hd'⟩)
    · simp only [hw, Bool.false_eq_true, if_false]
      exact runP_sound hC hd r (k + 1) _ w _ w₁ hnext h (hr'.bindv hdst undef) hs hdw
theorem wp_runP (hC : C.Ok) {id : Nat} {ops : Array Oper} (hd : dstsOk n ops = true) {l : Env} {w : World} {Q : Exit → Env → World → Prop} (h : runP C pf ops.toList ops.toList l w Q) : Snd C n (.region id ops false) l w Q := by
  intro d a w₁ hr hs hdw
  refine wp_region ?_
  have := runP_sound hC (d := d) (all := ops.toList) (by simpa using hd) ops.toList 0 l w a w₁ (by simp) h hr hs hdw
  rw [List.range_eq_range']
  simpa using this
theorem codeP_sound (hC : C.Ok) {plans : List (Nat × PlanT)} : ∀ (c : Code) (l : Env) (w : World) (Q : Exit → Env → World → Prop), codeOk n plans c = true → codeP C pf n plans c l w Q → Snd C n c l w Q := by
  intro c
  induction c with
  | skip => exact fun l w Q _ h d a w₁ hr hs hdw => wp_skip ⟨l, w, h, hr, hs, hdw⟩
  | region id ops draw =>
    intro l w Q hok h
    simp only [codeOk, Bool.and_eq_true] at hok
    cases draw with
    | false => exact wp_runP hC hok.1 h
    | true =>
      obtain ⟨p, hp, h⟩ := withO_iff (show withO _ _ from h)
      have hok2 := hok.2
      simp only [Bool.not_true, Bool.false_or, hp] at hok2
      cases hm : hasMid p with
      | false => rw [hm] at h; exact wp_runD hC hok.1 hok2 h
      | true =>
        rw [hm] at h
        obtain ⟨D, h⟩ := h
        exact wp_runD hC hok.1 hok2 h
  | seq x y ihx ihy =>
    intro l w Q hok h
    simp only [codeOk, Bool.and_eq_true] at hok
    intro d a w₁ hr hs hdw
    refine wp_seq (wp_mono (ihx l w _ hok.1 h d a w₁ hr hs hdw) ?_)
    rintro e a' w' ⟨l', w'', hq, hr', hs', hd'⟩
    cases e with
    | normal => exact ihy l' w'' Q hok.2 hq d a' w' hr' hs' hd'
    | _ => exact ⟨l', w'', hq, hr', hs', hd'⟩
  | cond c x y ihx ihy =>
    intro l w Q hok h
    simp only [codeOk, Bool.and_eq_true] at hok
    intro d a w₁ hr hs hdw
    obtain ⟨v, hv, h⟩ := withO_iff (show withO _ _ from h)
    have he := hr.evo hv
    cases v with
    | bool b =>
      cases b with
      | true => exact wp_cond_true he (ihx l w Q hok.1 h d a w₁ hr hs hdw)
      | false => exact wp_cond_false he (ihy l w Q hok.2 h d a w₁ hr hs hdw)
    | _ => exact h.elim
  | block id c ih =>
    intro l w Q hok h d a w₁ hr hs hdw
    refine wp_block (wp_mono (ih l w _ hok h d a w₁ hr hs hdw) ?_)
    rintro e a' w' ⟨l', w'', hq, hr', hs', hd'⟩
    cases e with
    | exit id' =>
      simp only [blockE] at hq
      cases hb : Nat.beq id' id with
      | true =>
        rw [hb] at hq
        have := Nat.eq_of_beq_eq_true hb
        subst this
        simp only [Exit.inBlock, if_true]
        exact ⟨l', w'', hq, hr', hs', hd'⟩
      | false =>
        rw [hb] at hq
        have : id' ≠ id := fun e => by subst e; rw [Nat.beq_refl] at hb; cases hb
        simp only [Exit.inBlock, this, if_false]
        exact ⟨l', w'', hq, hr', hs', hd'⟩
    | _ => exact ⟨l', w'', hq, hr', hs', hd'⟩
  | loop c _ => exact fun l w Q hok h => h hok
  | scope c _ => exact fun l w Q hok h => h hok
  | exit id => exact fun l w Q _ h d a w₁ hr hs hdw => wp_exit ⟨l, w, h, hr, hs, hdw⟩
  | label k => exact fun l w Q _ h d a w₁ hr hs hdw => wp_label ⟨l, w, h, hr, hs, hdw⟩
  | goto k => exact fun l w Q _ h d a w₁ hr hs hdw => wp_goto ⟨l, w, h, hr, hs, hdw⟩
  | ret => exact fun l w Q _ h d a w₁ hr hs hdw => wp_ret ⟨l, w, h, hr, hs, hdw⟩
  | rangeFunc f ps a b _ _ => exact fun l w Q _ h => h.elim
  | refuse why => exact fun l w Q _ h => h.elim
theorem loopP (hC : C.Ok) (pf : List Nat) {plans : List (Nat × PlanT)} {σ : Type} (E : σ → Env) (I : σ → World → Prop) (μ : σ → Nat) (s₀ : σ) {c : Code} {l : Env} {w : World} {Q : Exit → Env → World → Prop} (hcov : Cov l (E s₀)) (h0 : I s₀ w)
    (step : ∀ s w, I s w → codeP C pf n plans c (E s) w (thenE Q fun l' w' => ∃ s', Cov l' (E s') ∧ I s' w' ∧ μ s' < μ s)) : LoopE C n plans c l w Q := by
  intro hok d a w₁ hr hs hdw
  refine wp_loop_ghost (fun m a w₁ => ∃ s w, μ s = m ∧ I s w ∧ Same w w₁ ∧ Rep n C.df a (E s) ∧ Dr C d w₁) (μ s₀) ⟨s₀, w, rfl, h0, hs, hr.sub hcov.sub, hdw⟩ ?_
  rintro m a w₁ ⟨s, w, rfl, hI, hs, hr, hdw⟩
  refine wp_mono (codeP_sound hC c (E s) w _ hok (step s w hI) d a w₁ hr hs hdw) ?_
  rintro e a' w' ⟨l', w'', hq, hr', hs', hd'⟩
  cases e with
  | normal =>
    obtain ⟨s', hc', hI', hlt⟩ := hq
    exact ⟨μ s', hlt, s', w'', rfl, hI', hs', hr'.sub hc'.sub, hd'⟩
  | _ => exact ⟨l', w'', hq, hr', hs', hd'⟩
theorem Snd.finP (hC : C.Ok) (pf : List Nat) {plans : List (Nat × PlanT)} {c : Code} {l : Env} {w : World} {Q : Exit → Env → World → Prop} (hok : codeOk n plans c = true) (h : codeP C pf n plans c l w Q) : Snd C n c l w Q := codeP_sound hC c l w Q hok h
theorem Snd.goP (hC : C.Ok) (pf : List Nat) (plans : List (Nat × PlanT)) {x y : Code} {l : Env} {w : World} {Q : Exit → Env → World → Prop} (hok : codeOk n plans x = true) (h : codeP C pf n plans x l w (thenE Q fun l' w' => Rest C n y l' w' Q)) : Snd C n (.seq x y) l w Q := by
  intro d a w₁ hr hs hd
  refine wp_seq (wp_mono (codeP_sound hC x l w _ hok h d a w₁ hr hs hd) ?_)
  rintro e a' w' ⟨l', w'', hq, hr', hs', hd'⟩
  cases e with
  | normal => exact hq.snd d a' w' hr' hs' hd'
  | _ => exact ⟨l', w'', hq, hr', hs', hd'⟩
theorem Snd.joinP (hC : C.Ok) (pf : List Nat) (plans : List (Nat × PlanT)) {σ : Type} (E : σ → Env) (I : σ → World → Prop) {x y : Code} {l : Env} {w : World} {Q : Exit → Env → World → Prop} (hok : codeOk n plans x = true)
    (hx : codeP C pf n plans x l w (thenE Q fun l' w' => Joined E I l' w')) (hy : ∀ s w', I s w' → Snd C n y (E s) w' Q) : Snd C n (.seq x y) l w Q := by
  intro d a w₁ hr hs hd
  refine wp_seq (wp_mono (codeP_sound hC x l w _ hok hx d a w₁ hr hs hd) ?_)
  rintro e a' w' ⟨l', w'', hq, hr', hs', hd'⟩
  cases e with
  | normal =>
    obtain ⟨⟨s, hc, hI⟩⟩ := hq
    exact (hy s w'' hI).weak hc d a' w' hr' hs' hd'
  | _ => exact ⟨l', w'', hq, hr', hs', hd'⟩
def resP (C : Cfg) (rs : List ResultVar) (K KP : Value → World → Prop) : Exit → Env → World → Prop
  | .panic [⟨v, false, false⟩], _, w => KP v w
  | e, l, w => resE C rs K e l w
theorem callsP_of (hC : C.Ok) {f : Nat} {fn : Func} {c : Code} {plans : List (Nat × PlanT)} (pf : List Nat) (hf : C.P.funcs[f]? = some fn) (hb : fn.body = some c) (hn : fn.ntmps = n) (hok : codeOk n plans c = true)
    {args : List Value} (ha : args.length ≤ n) {w : World} {K KP : Value → World → Prop} (h : codeP C pf n plans c (envOf 0 args) w (resP C fn.results.toList K KP)) (hdf : C.df = [] := by rfl) : CallsP C.dr C.P f args.toArray w K KP := by
  intro w₁ hs
  refine calls_of_wp hf hb ?_
  have hr : Rep n C.df ({ tmps := args.toArray ++ Array.replicate (fn.ntmps - args.toArray.size) undef, defers := [] } : Act) (envOf 0 args) := by
    refine ⟨by simp [hn]; omega, hdf.symm, fun t v hv => ?_⟩
    obtain ⟨j, rfl, hj⟩ := look_envOf args 0 t v hv
    have hlt : j < args.length := (List.getElem?_eq_some_iff.1 hj).1
    simp only [Nat.zero_add]
    rw [Array.getElem?_append_left (by simpa using hlt)]
    simpa using hj
  refine wp_mono (codeP_sound hC c _ w _ hok h w₁.drawn _ w₁ hr hs (fun _ => Nat.le_refl _)) ?_
  rintro e a' w' ⟨l', w'', hq, hr', hs', hd'⟩
  cases e with
  | normal =>
    obtain ⟨v, hv, hrun⟩ := run_results hC hr' hs' hq
    exact ⟨hr'.defers.trans hdf, v, hrun, .inl ⟨v, w'', rfl, hv, hs'⟩, hd'⟩
  | ret =>
    obtain ⟨v, hv, hrun⟩ := run_results hC hr' hs' hq
    exact ⟨hr'.defers.trans hdf, v, hrun, .inl ⟨v, w'', rfl, hv, hs'⟩, hd'⟩
  | panic ch =>
    unfold resP at hq
    split at hq
    · rename_i heq
      cases heq
      exact ⟨hr'.defers.trans hdf, .inr ⟨_, _, rfl, hq, hs'⟩, hd'⟩
    · exact hq.elim
  | _ => exact hq.elim
def CallsDV (C : Cfg) (g : Nat) (args : Array Value) (u : FrameMode) (w : World) (KD : FrameMode → World → Prop) : Prop :=
  ∀ w₁, Same w w₁ → CallsD C.P g args u w₁ fun e u' w' => (∃ v w'', e = .returned v ∧ KD u' w'' ∧ Same w'' w') ∧ (C.dr = true → w₁.drawn ≤ w'.drawn)
theorem CallsDV.mono {g : Nat} {args : Array Value} {u : FrameMode} {w : World} {K K' : FrameMode → World → Prop} (h : CallsDV C g args u w K) (hk : ∀ u w', K u w' → K' u w') : CallsDV C g args u w K' :=
  fun w₁ hs => (h w₁ hs).mono fun _ _ _ ⟨⟨v, w'', he, hv, hw⟩, hd⟩ => ⟨⟨v, w'', he, hk _ w'' hv, hw⟩, hd⟩
def recov : FrameMode → Value × FrameMode
  | .panicking ({ v, recovered := false, goexit := false } :: older) => (v, .panicking ({ v, recovered := true } :: older))
  | u => (.nilIface, u)
theorem recov_ok (c₀ : Frame) (cs : List Frame) {u : FrameMode} (hu : c₀.mode = u) :
    (recoverD (c₀ :: cs) = some ((recov u).1, { c₀ with mode := (recov u).2 } :: cs)) ∨ (recoverD (c₀ :: cs) = none ∧ (recov u).1 = .nilIface ∧ c₀ :: cs = { c₀ with mode := (recov u).2 } :: cs) := by
  subst hu
  obtain ⟨fn, tmps, todo, defers, mode, kind, roundOf⟩ := c₀
  cases mode with
  | panicking ch =>
    cases ch with
    | nil => exact .inr ⟨rfl, rfl, rfl⟩
    | cons x older =>
      obtain ⟨v, r, g⟩ := x
      cases r <;> cases g
      · exact .inl rfl
      · exact .inr ⟨rfl, rfl, rfl⟩
      · exact .inr ⟨rfl, rfl, rfl⟩
      · exact .inr ⟨rfl, rfl, rfl⟩
  | _ => exact .inr ⟨rfl, rfl, rfl⟩
theorem not_recover {P : Program} {o : Oper} {a : Act} {w : World} {next : Act → World → Prop} {Q : Exit → Act → World → Prop} (h : o.wp P a w next Q) : ∀ w', (execOp a.eval o).run P w ≠ .ok .recover w' := by
  intro w' e
  unfold Oper.wp at h
  rw [e] at h
  exact h
theorem runLS (hC : C.Ok) {d : Nat} {all : List Oper} (hd : dstsOk n all.toArray = true) {cs : List Frame} {K : Env → World → Prop} {Q : Exit → Act → List Frame → World → Prop}
    (hQ : ∀ l a w w₁, K l w → Rep n C.df a l → Same w w₁ → Dr C d w₁ → Q .normal a cs w₁) : ∀ (r : List Oper) (k : Nat) (l : Env) (w : World) (a : Act) (w₁ : World),
    (∀ j, r[j]? = all[k + j]?) → runL C all r l w K → Rep n C.df a l → Same w w₁ → Dr C d w₁ → wpOpsS C.P all.toArray Q (List.range' k r.length) a cs w₁
  | [], k, l, w, a, w₁, _, h, hr, hs, hdw => by simpa [wpOpsS] using hQ l a w w₁ h hr hs hdw
  | o :: r, k, l, w, a, w₁, hl, h, hr, hs, hdw => by
    have h0 : all[k]? = some o := by simpa using (hl 0).symm
    have h0' : all.toArray[k]? = some o := by simpa using h0
    have hdst := dstsOk_spec hd (Array.mem_of_getElem? h0')
    have hnext : ∀ j, r[j]? = all[k + 1 + j]? := fun j => by have := hl (j + 1); simpa [Nat.add_assoc, Nat.add_comm 1 j] using this
    simp only [List.length_cons, List.range'_succ, wpOpsS, h0']
    rw [runL_cons] at h
    rcases guard_sound h hr with ⟨hw, l', hr', h⟩ | ⟨hw, l', hr', h⟩
    · simp only [hw, if_true]
      have key : o.wp C.P a w₁ (fun a' w' => wpOpsS C.P all.toArray Q (List.range' (k + 1) r.length) a' cs w') (fun e a' w' => Q e a' cs w') :=
        opE_sound hC h (fun x u hx => hr'.evo hx) hs fun v w' w'' hk hw' hd' => runLS hC hd hQ r (k + 1) _ w' _ w'' hnext hk (hr'.bindv hdst v) hw' (hdw.step hd')
      have hno := not_recover key
      unfold Oper.wp at key
      split
      · rename_i w' he; exact absurd he (hno w')
      · exact key
    · simp only [hw, Bool.false_eq_true, if_false]
      exact runLS hC hd hQ r (k + 1) _ w _ w₁ hnext h (hr'.bindv hdst undef) hs hdw
structure RestS (C : Cfg) (n : Nat) (y : Code) (rs : List ResultVar) (KD : World → Prop) (l : Env) (w : World) : Prop where
  snd : Snd C n y l w (resE C rs fun _ w' => KD w')
theorem callsDV_of (hC : C.Ok) {f : Nat} {fn : Func} {id t : Nat} {ops : Array Oper} {y : Code} {o : Oper} {os : List Oper} {args : Array Operand} {ts : Array Nat} (hf : C.P.funcs[f]? = some fn) (hb : fn.body = some (.seq (.region id ops false) y)) (hn : fn.ntmps = n)
    (hd : dstsOk n ops = true) (hops : ops.toList = o :: os) (ho : o.op = .call ⟨.builtin .recover, args, ts⟩) (hg : o.guard = none) (ht : o.dst = some t)
    {argv : List Value} (ha : argv.length ≤ n) {u : FrameMode} {w : World} {KD : FrameMode → World → Prop}
    (h : runL C ops.toList os ((t, (recov u).1) :: envOf 0 argv) w (RestS C n y fn.results.toList (KD (recov u).2))) (hdf : C.df = [] := by rfl) : CallsDV C f argv.toArray u w KD := by
  intro w₁ hs
  refine callsD_of_wpS hf hb ?_
  intro c₀ cs hu
  have hr : Rep n C.df ({ tmps := argv.toArray ++ Array.replicate (fn.ntmps - argv.toArray.size) undef, defers := [] } : Act) (envOf 0 argv) := by
    refine ⟨by simp [hn]; omega, hdf.symm, fun t v hv => ?_⟩
    obtain ⟨j, rfl, hj⟩ := look_envOf argv 0 t v hv
    have hlt : j < argv.length := (List.getElem?_eq_some_iff.1 hj).1
    simp only [Nat.zero_add]
    rw [Array.getElem?_append_left (by simpa using hlt)]
    simpa using hj
  generalize ({ tmps := argv.toArray ++ Array.replicate (fn.ntmps - argv.toArray.size) undef, defers := [] } : Act) = a at hr
  refine wpS_seq (wpS_region ?_)
  have hd' : dstsOk n ops.toList.toArray = true := by simpa using hd
  have h0 : ops.toList[0]? = some o := by rw [hops]; rfl
  have h0' : ops[0]? = some o := by simpa using h0
  have hsz : ops.size = os.length + 1 := by rw [← Array.length_toList, hops]; rfl
  have hw : Region.wanted o (yielded ops a.tmps) = true := by simp [Region.wanted, hg]
  rw [List.range_eq_range', hsz, List.range'_succ]
  simp only [wpOpsS, h0', hw, if_true]
  have hex : (execOp a.eval o).run C.P w₁ = .ok .recover w₁ := by
    simp [execOp, ho, resolve, invoke, builtin]
  rw [hex]
  have key : wpOpsS C.P ops (Exit.thenS (y.wpS C.P (bodyPostS C.P fn c₀ cs fun e u' w' => (∃ v w'', e = .returned v ∧ KD u' w'' ∧ Same w'' w') ∧ (C.dr = true → w₁.drawn ≤ w'.drawn))) (bodyPostS C.P fn c₀ cs fun e u' w' => (∃ v w'', e = .returned v ∧ KD u' w'' ∧ Same w'' w') ∧ (C.dr = true → w₁.drawn ≤ w'.drawn)))
      (List.range' (0 + 1) os.length) (a.put o.dst (recov u).1) ({ c₀ with mode := (recov u).2 } :: cs) w₁ := by
    have := runLS (C := C) (n := n) (d := w₁.drawn) (all := ops.toList) hC hd' (cs := { c₀ with mode := (recov u).2 } :: cs) (Q := Exit.thenS (y.wpS C.P (bodyPostS C.P fn c₀ cs fun e u' w' => (∃ v w'', e = .returned v ∧ KD u' w'' ∧ Same w'' w') ∧ (C.dr = true → w₁.drawn ≤ w'.drawn))) (bodyPostS C.P fn c₀ cs fun e u' w' => (∃ v w'', e = .returned v ∧ KD u' w'' ∧ Same w'' w') ∧ (C.dr = true → w₁.drawn ≤ w'.drawn)))
      (fun l a' w' w'' hk hr' hs' hd'' => ?_) os (0 + 1) _ w (a.put o.dst (recov u).1) w₁ (fun j => by rw [hops, Nat.zero_add, Nat.add_comm 1 j, List.getElem?_cons_succ]) h (by
        have := hr.bindv (d := o.dst) (fun q hq => dstsOk_spec hd (Array.mem_of_getElem? h0') q hq) (recov u).1
        rw [ht] at this ⊢
        exact this) hs (fun _ => Nat.le_refl _)
    · simpa using this
    · refine wpS_of_wp (wp_mono (hk.snd w₁.drawn a' w'' hr' hs' hd'') ?_)
      rintro e a3 w3 ⟨l3, w4, hq, hr3, hs3, hd3⟩
      cases e with
      | normal =>
        obtain ⟨v, hv, hrun⟩ := run_results hC hr3 hs3 hq
        exact ⟨hr3.defers.trans hdf, _, rfl, v, hrun, ⟨v, w4, rfl, hv, hs3⟩, hd3⟩
      | ret =>
        obtain ⟨v, hv, hrun⟩ := run_results hC hr3 hs3 hq
        exact ⟨hr3.defers.trans hdf, _, rfl, v, hrun, ⟨v, w4, rfl, hv, hs3⟩, hd3⟩
      | _ => exact hq.elim
  rcases recov_ok c₀ cs hu with hrec | ⟨hrec, h1, h2⟩
  · simp only [hrec]; exact key
  · simp only [hrec]
    rw [h2, ← h1]; exact key
theorem runLC (hC : C.Ok) {d : Nat} {D : List Deferred} {all : List Oper} (hd : dstsOk n all.toArray = true) {K : Env → World → Prop} {Q : Exit → Act → World → Prop} {rest : List Nat}
    (hrest : ∀ l w a w₁, K l w → Rep n D a l → Same w w₁ → Dr C d w₁ → wpOps C.P all.toArray Q rest a w₁) : ∀ (r : List Oper) (k : Nat) (l : Env) (w : World) (a : Act) (w₁ : World),
    (∀ j, j < r.length → r[j]? = all[k + j]?) → runL C all r l w K → Rep n D a l → Same w w₁ → Dr C d w₁ → wpOps C.P all.toArray Q (List.range' k r.length ++ rest) a w₁
  | [], k, l, w, a, w₁, _, h, hr, hs, hdw => by simpa using hrest l w a w₁ h hr hs hdw
  | o :: r, k, l, w, a, w₁, hl, h, hr, hs, hdw => by
    have h0 : all[k]? = some o := by simpa using (hl 0 (by simp)).symm
    have h0' : all.toArray[k]? = some o := by simpa using h0
    have hdst := dstsOk_spec hd (Array.mem_of_getElem? h0')
    have hnext : ∀ j, j < r.length → r[j]? = all[k + 1 + j]? := fun j hj => by have := hl (j + 1) (by simpa using hj); simpa [Nat.add_assoc, Nat.add_comm 1 j] using this
    simp only [List.length_cons, List.range'_succ, List.cons_append, wpOps, h0']
    rw [runL_cons] at h
    rcases guard_sound h hr with ⟨hw, l', hr', h⟩ | ⟨hw, l', hr', h⟩
    · simp only [hw, if_true]
      exact .inl (opE_sound hC h (fun x u hx => hr'.evo hx) hs fun v w' w'' hk hw' hd' => runLC hC hd hrest r (k + 1) _ w' _ w'' hnext hk (hr'.bindv hdst v) hw' (hdw.step hd'))
    · simp only [hw, Bool.false_eq_true, if_false]
      exact runLC hC hd hrest r (k + 1) _ w _ w₁ hnext h (hr'.bindv hdst undef) hs hdw
structure EndD (C : Cfg) (dd : Deferred) (rs : List ResultVar) (K : Value → World → Prop) (u : FrameMode) (l : Env) (w : World) : Prop where
  ex : ∃ g cap, dd = { target := .fn (.func g) cap, args := #[] } ∧ C.can g = true ∧ CallsDV C g cap u w fun u' w' => settle u' = .returning ∧ resAll C l w' rs fun vs => match vs with | [v] => K v w' | vs => K (.tuple vs.toArray) w'
def resD (C : Cfg) (dd : Deferred) (rs : List ResultVar) (K : Value → World → Prop) : Exit → Env → World → Prop
  | .normal, l, w => EndD C dd rs K .returning l w
  | .ret, l, w => EndD C dd rs K .returning l w
  | .panic ch, l, w => EndD C dd rs K (.panicking ch) l w
  | _, _, _ => False
abbrev Cfg.held (C : Cfg) (dd : Deferred) : Cfg := { C with df := [dd] }
theorem Cfg.Ok.held (hC : C.Ok) (dd : Deferred) : (C.held dd).Ok := ⟨hC.mixed, hC.types, hC.funcs⟩
structure DefK (C : Cfg) (n : Nat) (y : Code) (all post : List Oper) (dst : Option Nat) (f : Operand) (rs : List ResultVar) (K : Value → World → Prop) (l : Env) (w : World) : Prop where
  ex : ∃ g cap, evo l f = some (.func (.func g) #[] cap) ∧ runL (C.held { target := .fn (.func g) cap, args := #[] }) all post (bindv dst undef l) w fun l' w' => Rest (C.held { target := .fn (.func g) cap, args := #[] }) n y l' w' (resD C { target := .fn (.func g) cap, args := #[] } rs K)
structure RestD (C : Cfg) (n : Nat) (fn : Func) (K : Value → World → Prop) (c : Code) (l : Env) (w : World) : Prop where
  snd : ∀ d a w₁, Rep n [] a l → Same w w₁ → Dr C d w₁ → c.wp C.P (bodyPostD C.P fn fun e w' => (∃ v w'', e = .returned v ∧ K v w'' ∧ Same w'' w') ∧ (C.dr = true → d ≤ w'.drawn)) a w₁
theorem endD_leaves (hC : C.Ok) {fn : Func} {K : Value → World → Prop} {dd : Deferred} {u : FrameMode} (hu : u ≠ .run) {l : Env} {w w₁ : World} {d : Nat} {D : List Deferred} {a : Act} (h : EndD C dd fn.results.toList K u l w) (hr : Rep n D a l) (hs : Same w w₁) (hd : Dr C d w₁) :
    Leaves C.P fn a.tmps (fun e w' => (∃ v w'', e = .returned v ∧ K v w'' ∧ Same w'' w') ∧ (C.dr = true → d ≤ w'.drawn)) [dd] u w₁ := by
  obtain ⟨g, cap, rfl, hcan, hcall⟩ := h.ex
  have hc := hC.funcs g hcan
  unfold callable at hc
  cases hfn : C.P.funcs[g]? with
  | none => simp [hfn] at hc
  | some fg =>
    simp [hfn] at hc
    have hb : fg.body.isNone = false := by
      cases hb : fg.body with
      | none => simp [hb] at hc
      | some c => rfl
    refine leaves_cons hu (f := g) (args := cap) ?_ ?_
    · simp [invoke, callFunc, hfn, hc.1]
      intro hn; simp [hn] at hb
    · refine (hcall w₁ hs).mono ?_
      rintro e u' w' ⟨⟨v, w'', rfl, ⟨hset, hres⟩, hw⟩, hd2⟩
      obtain ⟨v2, hv2, hrun⟩ := run_results (fn := fn) hC hr hw hres
      show Leaves C.P fn a.tmps _ [] (settle u') w'
      rw [hset]
      exact ⟨v2, hrun, ⟨v2, w'', rfl, hv2, hw⟩, fun e => Nat.le_trans (hd e) (hd2 e)⟩
theorem regionD (hC : C.Ok) {fn : Func} {id : Nat} {ops : Array Oper} {y : Code} (hd : dstsOk n ops = true) (i : Nat) {o : Oper} (hi : ops.toList[i]? = some o) (hg : o.guard = none) {f : Operand} {ts : Array Nat} (ho : o.op = .defer ⟨.value f, #[], ts⟩)
    {l : Env} {w : World} {K : Value → World → Prop} (h : runL C ops.toList (ops.toList.take i) l w (DefK C n y ops.toList (ops.toList.drop (i + 1)) o.dst f fn.results.toList K)) (hdf : C.df = [] := by rfl) :
    RestD C n fn K (.seq (.region id ops false) y) l w := by
  refine ⟨?_⟩
  intro d a w₁ hr hs hdw
  have hd' : dstsOk n ops.toList.toArray = true := by simpa using hd
  obtain ⟨hlt, hio⟩ := List.getElem?_eq_some_iff.1 hi
  have hi' : ops.toList.toArray[i]? = some o := by simpa using hi
  have hdst := dstsOk_spec hd (o := o) (by
    have : ops[i]? = some o := by simpa using hi
    exact Array.mem_of_getElem? this)
  have hpl : (ops.toList.take i).length = i := by rw [List.length_take]; omega
  have hql : (ops.toList.drop (i + 1)).length = ops.size - (i + 1) := by rw [List.length_drop, Array.length_toList]
  have hsz : i < ops.size := by simpa using hlt
  have hrange : List.range ops.size = List.range' 0 (ops.toList.take i).length ++ (i :: (List.range' (i + 1) (ops.toList.drop (i + 1)).length ++ [])) := by
    rw [hpl, hql, List.range_eq_range', List.append_nil]
    have : ops.size = i + ((ops.size - (i + 1)) + 1) := by omega
    conv => lhs; rw [this]
    rw [← List.range'_append_1, Nat.zero_add, List.range'_succ]
  refine wp_seq (wp_region ?_)
  rw [hrange]
  have key := runLC (C := C) (n := n) (d := d) (D := []) (all := ops.toList) (K := DefK C n y ops.toList (ops.toList.drop (i + 1)) o.dst f fn.results.toList K) (Q := Exit.then (y.wp C.P (bodyPostD C.P fn fun e w' => (∃ v w'', e = .returned v ∧ K v w'' ∧ Same w'' w') ∧ (C.dr = true → d ≤ w'.drawn))) (bodyPostD C.P fn fun e w' => (∃ v w'', e = .returned v ∧ K v w'' ∧ Same w'' w') ∧ (C.dr = true → d ≤ w'.drawn))) (rest := i :: (List.range' (i + 1) (ops.toList.drop (i + 1)).length ++ [])) hC hd' ?_
    (ops.toList.take i) 0 l w a w₁ (fun j hj => by rw [Nat.zero_add]; exact List.getElem?_take_of_lt (by rw [hpl] at hj; exact hj)) h hr hs hdw
  · simpa using key
  intro l2 w2 a2 w3 hk hr2 hs2 hd2
  obtain ⟨g, cap, hf, hk⟩ := hk.ex
  simp only [wpOps, hi']
  have hw : Region.wanted o (yielded ops.toList.toArray a2.tmps) = true := by simp [Region.wanted, hg]
  simp only [hw, if_true]
  refine .inl ?_
  have hex : (execOp a2.eval o).run C.P w3 = .ok (.defer { target := .fn (.func g) cap, args := #[] }) w3 := by
    simp [execOp, ho, resolve, hr2.evo hf, Deferred.ofValue]
  unfold Oper.wp
  rw [hex]
  have hr3 : Rep n [{ target := .fn (.func g) cap, args := #[] }] (Act.put { a2 with defers := { target := .fn (.func g) cap, args := #[] } :: a2.defers } o.dst undef) (bindv o.dst undef l2) := by
    have : Rep n [{ target := .fn (.func g) cap, args := #[] }] { a2 with defers := { target := .fn (.func g) cap, args := #[] } :: a2.defers } l2 := ⟨hr2.size, by show _ :: a2.defers = _; rw [hr2.defers], hr2.get⟩
    exact this.bindv hdst undef
  refine runLC (C := C.held { target := .fn (.func g) cap, args := #[] }) (n := n) (d := d) (D := [{ target := .fn (.func g) cap, args := #[] }]) (all := ops.toList) (rest := []) (hC.held _) hd' ?_ (ops.toList.drop (i + 1)) (i + 1) _ w2 _ w3 (fun j hj => by rw [List.getElem?_drop]) hk hr3 hs2 hd2
  intro l4 w4 a4 w5 hk4 hr4 hs4 hd4
  show Exit.then _ _ .normal a4 w5
  refine wp_mono (hk4.snd d a4 w5 hr4 hs4 hd4) ?_
  rintro e a6 w6 ⟨l6, w7, hq, hr6, hs6, hd6⟩
  cases e with
  | normal =>
    show Leaves _ _ _ _ a6.defers _ _
    rw [hr6.defers]
    exact endD_leaves hC (by simp) hq hr6 hs6 hd6
  | ret =>
    show Leaves _ _ _ _ a6.defers _ _
    rw [hr6.defers]
    exact endD_leaves hC (by simp) hq hr6 hs6 hd6
  | panic ch =>
    show Leaves _ _ _ _ a6.defers _ _
    rw [hr6.defers]
    exact endD_leaves hC (by simp) hq hr6 hs6 hd6
  | _ => exact hq.elim
theorem callsV_ofD (hC : C.Ok) {f : Nat} {fn : Func} {x z : Code} {plans : List (Nat × PlanT)} (hf : C.P.funcs[f]? = some fn) (hb : fn.body = some (.seq x z)) (hn : fn.ntmps = n) (hok : codeOk n plans x = true)
    {args : List Value} (ha : args.length ≤ n) {w : World} {K : Value → World → Prop} (h : codeE C n plans x (envOf 0 args) w (thenE (fun _ _ _ => False) fun l w => RestD C n fn K z l w)) (hdf : C.df = [] := by rfl) : CallsX C.dr C.P f args.toArray w K := by
  intro w₁ hs
  refine calls_of_wp_defers hf hb ?_
  have hr : Rep n C.df ({ tmps := args.toArray ++ Array.replicate (fn.ntmps - args.toArray.size) undef, defers := [] } : Act) (envOf 0 args) := by
    refine ⟨by simp [hn]; omega, hdf.symm, fun t v hv => ?_⟩
    obtain ⟨j, rfl, hj⟩ := look_envOf args 0 t v hv
    have hlt : j < args.length := (List.getElem?_eq_some_iff.1 hj).1
    simp only [Nat.zero_add]
    rw [Array.getElem?_append_left (by simpa using hlt)]
    simpa using hj
  refine wp_seq (wp_mono (codeE_sound hC x _ w _ hok h w₁.drawn _ w₁ hr hs (fun _ => Nat.le_refl _)) ?_)
  rintro e a' w' ⟨l', w'', hq, hr', hs', hd'⟩
  cases e with
  | normal => exact hq.snd w₁.drawn a' w' (hdf ▸ hr') hs' hd'
  | _ => exact hq.elim
end
end Go.Eng
namespace Go.Eng
open Go.RowKit
section
variable {C : Cfg} {n : Nat}
structure QuietK (C : Cfg) (all post : List Oper) (o : Oper) (K : Env → World → Prop) (l : Env) (w : World) : Prop where
  ex : ∃ v, QuietRun C o l w v ∧ runL C all post (bindv o.dst v l) w K
theorem regionQi (hC : C.Ok) {id : Nat} {ops : Array Oper} (hd : dstsOk n ops = true) (i : Nat) {o : Oper} (hi : ops.toList[i]? = some o) (hg : o.guard = none)
    {l : Env} {w : World} {Q : Exit → Env → World → Prop} (h : runL C ops.toList (ops.toList.take i) l w (QuietK C ops.toList (ops.toList.drop (i + 1)) o (Q .normal))) : Snd C n (.region id ops false) l w Q := by
  intro d a w₁ hr hs hdw
  have hd' : dstsOk n ops.toList.toArray = true := by simpa using hd
  obtain ⟨hlt, hio⟩ := List.getElem?_eq_some_iff.1 hi
  have hi' : ops.toList.toArray[i]? = some o := by simpa using hi
  have hdst := dstsOk_spec hd (o := o) (by
    have : ops[i]? = some o := by simpa using hi
    exact Array.mem_of_getElem? this)
  have hpl : (ops.toList.take i).length = i := by rw [List.length_take]; omega
  have hql : (ops.toList.drop (i + 1)).length = ops.size - (i + 1) := by rw [List.length_drop, Array.length_toList]
  have hsz : i < ops.size := by simpa using hlt
  have hrange : List.range ops.size = List.range' 0 (ops.toList.take i).length ++ (i :: (List.range' (i + 1) (ops.toList.drop (i + 1)).length ++ [])) := by
    rw [hpl, hql, List.range_eq_range', List.append_nil]
    have : ops.size = i + ((ops.size - (i + 1)) + 1) := by omega
    conv => lhs; rw [this]
    rw [← List.range'_append_1, Nat.zero_add, List.range'_succ]
  refine wp_region ?_
  rw [hrange]
  have key := runLC (C := C) (n := n) (d := d) (D := C.df) (all := ops.toList) (K := QuietK C ops.toList (ops.toList.drop (i + 1)) o (Q .normal)) (Q := Lift C n d Q) (rest := i :: (List.range' (i + 1) (ops.toList.drop (i + 1)).length ++ [])) hC hd' ?_
    (ops.toList.take i) 0 l w a w₁ (fun j hj => by rw [Nat.zero_add]; exact List.getElem?_take_of_lt (by rw [hpl] at hj; exact hj)) h hr hs hdw
  · simpa using key
  intro l2 w2 a2 w3 hk hr2 hs2 hd2
  obtain ⟨v, hq, hk⟩ := hk.ex
  simp only [wpOps, hi']
  have hw : Region.wanted o (yielded ops.toList.toArray a2.tmps) = true := by simp [Region.wanted, hg]
  simp only [hw, if_true]
  refine .inl ?_
  have hex := hq a2.eval (fun x u hx => hr2.evo hx) w3 hs2.ext
  unfold Oper.wp
  rw [hex]
  refine runLC (C := C) (n := n) (d := d) (D := C.df) (all := ops.toList) (rest := []) hC hd' ?_ (ops.toList.drop (i + 1)) (i + 1) _ w2 _ w3 (fun j hj => by rw [List.getElem?_drop]) hk (hr2.bindv hdst v) hs2 hd2
  intro l4 w4 a4 w5 hk4 hr4 hs4 hd4
  exact ⟨l4, w4, hk4, hr4, hs4, hd4⟩
end
end Go.Eng
namespace Go.Proofs.YtahgjidcaeieaaaGreatDoor
open Go.Eng Go.RowKit
theorem bytesQ (o : Oper) (x : Operand) (s d e : Nat) (l : Env) (w : World) {g cap : Nat} {bs : List UInt8} (hs : C.P.underlying s = some (.slice e)) (he : C.P.underlying e = some (.int .u8)) (hd : C.P.underlying d = some .string)
    (ho : o.op = .convert s d x) (hv : evo l x = some (.slice (some ⟨g, 0, none⟩) bs.length cap)) (hc : Rd w g 0 (bs.map fun b => Value.int .u8 b.toNat)) : QuietRun C o l w (.string ⟨bs.toArray⟩) := by
  intro ρ hρ w' ew
  have hc' := hc.ext ew
  have := run_convert_bytes_back (P := C.P) w' s d e ⟨g, 0, none⟩ cap bs hs he hd (fun j hj => by
    have h := hc' j (.int .u8 bs[j].toNat) (by simp [hj])
    rw [Nat.zero_add] at h
    have e : (⟨g, 0, none⟩ : Addr).add j = ⟨g, j, none⟩ := by unfold Addr.add; split <;> simp_all
    rw [e]; exact h)
  simp only [execOp, ho, hρ x _ hv, Sem.run_bind]
  erw [this]
  rfl
theorem decDigits_step {n : Nat} (h : ¬ n < 10) : Lib.decDigits n = Lib.decDigits (n / 10) ++ Lib.decDigits (n % 10) := by
  rw [Lib.decDigits, dif_neg h, Lib.decDigits_one (show n % 10 < 10 by omega)]
theorem itoa_dec {n : Int} (h : 0 ≤ n) : Lib.itoa n = Lib.decDigits n.toNat := by unfold Lib.itoa; rw [if_neg (by omega)]
set_option maxRecDepth 100000 in
theorem Digits6_spec : ∀ (n : Nat), n ≤ 1000000000000 → ∀ (w : World), CallsV C.P 57 #[.int .i64 n] w fun v w' => v = .string (tx (Lib.decDigits n)) ∧ Ext w w' := by
  intro n
  induction n using Nat.strongRecOn with
  | _ n ih =>
  intro hn w
  have hlen : ∀ k : Nat, k ≤ 1000000000000 → (Lib.decDigits k).length ≤ 13 := fun k hk => by
    have := (itoa_num (n := (k : Int)) (by omega) (by omega)).2.1
    rw [itoa_dec (by omega)] at this
    simpa using this
  refine callsV_ofS (args := [_]) Tryz.func57 rfl Tryz.ntmps57 C_ok (Nat.le_of_ble_eq_true rfl) ?_
  refine Snd.go C_ok [] (by kernel_rfl) ?_
  refine ⟨Snd.seq ?_⟩
  refine Snd.go C_ok [] (by kernel_rfl) ?_
  refine ⟨Snd.cond (b := decide ((n : Int) < 10)) rfl (fun h => ?_) (fun h => ?_)⟩
  · have h : n < 10 := by have h : (n : Int) < 10 := of_decide_eq_true h; omega
    refine Snd.seq (regionQi C_ok (by kernel_rfl) 4 rfl rfl ?_)
    refine ⟨48 + (n : Int), fit ⟨by omega, by omega⟩, ?_⟩
    refine ⟨48 + (n : Int), by rw [IntWalk.u8_in _ ⟨by omega, by omega⟩], ?_⟩
    intro g w1 h1
    have hb : ((UInt8.ofNat (48 + n)).toNat : Int) = 48 + (n : Int) := by simp; omega
    refine ⟨⟨_, bytesQ (bs := [UInt8.ofNat (48 + n)]) _ _ _ _ 5 _ _ (by kernel_rfl) (by kernel_rfl) (by kernel_rfl) rfl rfl (by
      show Rd w1 g 0 [.int .u8 ((UInt8.ofNat (48 + n)).toNat : Int)]
      rw [hb]
      exact Rd.of_block h1.here), ?_⟩⟩
    refine ⟨Snd.fin C_ok (plans := []) (by kernel_rfl) ?_⟩
    exact ⟨by rw [Lib.decDigits_one h], h1.ext⟩
  · have h : ¬ n < 10 := by have h : ¬ (n : Int) < 10 := of_decide_eq_false h; omega
    refine Snd.skip ?_
    refine ⟨Snd.fin C_ok (plans := []) (by kernel_rfl) ?_⟩
    have hq : (n : Int).tdiv 10 = ((n / 10 : Nat) : Int) := by rw [Int.tdiv_eq_ediv_of_nonneg (by omega)]; omega
    have hr : (n : Int).tmod 10 = ((n % 10 : Nat) : Int) := by rw [Int.tmod_eq_emod_of_nonneg (by omega)]; omega
    refine ⟨by decide, ((n / 10 : Nat) : Int), by rw [hq]; exact fit ⟨by omega, by omega⟩, ?_⟩
    refine (ih (n / 10) (by omega) (by omega) w).mono ?_
    rintro _ w1 ⟨rfl, e1⟩
    refine ⟨by decide, ((n % 10 : Nat) : Int), hr, ?_⟩
    refine (ih (n % 10) (by omega) (by omega) w1).mono ?_
    rintro _ w2 ⟨rfl, e2⟩
    have l1 := hlen (n / 10) (by omega)
    have l2 := hlen (n % 10) (by omega)
    refine ⟨_, addTx _ _ (by omega), ⟨by decide, by decide⟩, ?_⟩
    exact ⟨by rw [decDigits_step h], e1.trans e2⟩
theorem DigitsI_spec (n : Int) (h0 : 0 ≤ n) (h1 : n ≤ 1000000000000) (w : World) : CallsV C.P 57 #[.int .i64 n] w fun v w' => v = .string (tx (Lib.itoa n)) ∧ Ext w w' := by
  have := Digits6_spec n.toNat (by omega) w
  rw [show ((n.toNat : Nat) : Int) = n by omega] at this
  rw [itoa_dec h0]
  exact this
set_option maxRecDepth 100000 in
theorem row6_spec (d : Int) (hd : 0 ≤ d ∧ d ≤ 1000000000000) (vb : List UInt8) (hvb : vb.length ≤ 7) (vs : List Int) (hv : ∀ n ∈ vs, 0 ≤ n ∧ n ≤ 1000000000000) (hl : vs.length ≤ 8) {A : Option Addr} {c : Nat} {w : World} (hr : Reads w A (ints vs)) :
    CallsV C.P 25 #[.int .i64 d, .string (tx vb), .slice A vs.length c] w fun v w' => v = .string (tx (Lib.itoa d ++ [32] ++ vb ++ vs.flatMap numL)) ∧ Ext w w' := by
  refine callsV_of C_ok (args := [_, _, _]) (plans := []) Tryz.func25 rfl Tryz.ntmps25 (by kernel_rfl) (Nat.le_of_ble_eq_true rfl) ?_
  have hdl := (itoa_num hd.1 hd.2).2.1
  refine (DigitsI_spec d hd.1 hd.2 w).mono ?_
  rintro _ w1 ⟨rfl, e1⟩
  refine ⟨_, addTx (Lib.itoa d) [32] (by simp; omega), ⟨by decide, by decide⟩, ?_⟩
  refine ⟨_, addTx (Lib.itoa d ++ [32]) vb (by simp; omega), ⟨by decide, by decide⟩, ?_⟩
  obtain ⟨hd0, hhd⟩ : ∃ hd0, hd0 = Lib.itoa d ++ [32] ++ vb := ⟨_, rfl⟩
  have hhl : hd0.length ≤ 30 := by rw [hhd]; simp; omega
  rw [← hhd]
  refine loopE C_ok (fun (p : Nat × List UInt8) => [(2, .slice A vs.length c), (7, .string (tx p.2)), (8, .int .i64 (p.1 : Nat))])
    (fun p w' => p.1 ≤ vs.length ∧ p.2 = hd0 ++ (vs.take p.1).flatMap numL ∧ Ext w w') (fun p => vs.length - p.1) (0, hd0) ⟨rfl, rfl, rfl, trivial⟩ ⟨Nat.zero_le _, by simp, e1⟩ ?_
  rintro ⟨i, s⟩ w2 ⟨hi', hs', e2⟩
  have hi : i ≤ vs.length := hi'
  have hs : s = hd0 ++ (vs.take i).flatMap numL := hs'
  clear hi' hs'
  refine brE_dec (fun hlt => ?_) (fun hge => ?_)
  · have hlt : i < vs.length := by have : (i : Int) < (vs.length : Nat) := hlt; omega
    obtain ⟨b, o, hA, hc⟩ := Reads.int (hr.ext e2) hlt
    cases hA
    have hvi := hv vs[i] (List.getElem_mem hlt)
    have hl1 := (itoa_num hvi.1 hvi.2).2.1
    have hl2 := flatN_length (vs.take i) fun n hn => hv n (List.mem_of_mem_take hn)
    rw [List.length_take] at hl2
    have hsl : s.length ≤ 400 := by rw [hs, List.length_append]; omega
    refine ⟨_, addTx s [32] (by simp; omega), ⟨by decide, by decide⟩, ?_⟩
    refine ⟨i, b, o, rfl, hlt, rfl, ?_⟩
    refine ⟨.int .i64 vs[i], by simpa using hc, ?_⟩
    refine (DigitsI_spec vs[i] hvi.1 hvi.2 w2).mono ?_
    rintro _ w3 ⟨rfl, e3⟩
    refine ⟨_, addTx (s ++ [32]) (Lib.itoa vs[i]) (by simp; omega), ⟨by decide, by decide⟩, ?_⟩
    refine ⟨((i + 1 : Nat) : Int), fit ⟨by omega, by omega⟩, ?_⟩
    refine ⟨(i + 1, s ++ [32] ++ Lib.itoa vs[i]), ⟨rfl, rfl, rfl, trivial⟩, ⟨hlt, ?_, e2.trans e3⟩, by show vs.length - (i + 1) < vs.length - i; omega⟩
    show s ++ [32] ++ Lib.itoa vs[i] = _
    rw [List.take_succ_eq_append_getElem hlt, List.flatMap_append, hs]
    simp [numL]
  · have hi : i = vs.length := by have : ¬ (i : Int) < (vs.length : Nat) := hge; omega
    rw [hi, List.take_length] at hs
    rw [← hs]
    exact ⟨rfl, e2⟩
theorem entry_head (x : Entry) (vb : List UInt8) (hk : verbL x.kind.toNat = vb) (vs : List Int) (hv : valuesL x = vs) : entryL x = Lib.itoa x.day ++ [32] ++ vb ++ vs.flatMap numL := by
  subst hk hv; rfl
set_option maxRecDepth 100000 in
set_option maxHeartbeats 4000000 in
theorem refWrite6_spec (x : Entry) (hx : x.Nums) (w : World) :
    CallsV C.P 6 #[x.val] w fun v w' => v = .tuple #[.string (tx (if formX x = true then entryL x else [])), .int .i64 (if formX x = true then 0 else 1)] ∧ Ext w w' := by
  refine callsV_of C_ok (args := [_]) (plans := []) Tryz.func6 rfl Tryz.ntmps6 (by kernel_rfl) (Nat.le_of_ble_eq_true rfl) ?_
  intro g1 w1 h1
  have M1 : Mem w w1 [(g1, .cells x.cells.toArray 27 (0, 0))] := (Mem.start w).alloc h1
  refine ⟨x.cells, rfl, M1.rd 0 rfl, ?_⟩
  refine (formed6_spec x hx w1).mono ?_
  rintro v w2 ⟨rfl, e2⟩
  have M2 := M1.grow e2
  refine brE_mk (fun c1 => ?_) (fun c1 => ?_)
  · have c1 : formX x = false := by simpa using c1
    rw [if_neg (by rw [c1]; decide), if_neg (by rw [c1]; decide)]
    exact ⟨rfl, M2.ext⟩
  have c1 : formX x = true := by simpa using c1
  rw [if_pos c1, if_pos c1]
  have hkind := ok_kind (form_okE c1).1
  obtain ⟨hday, _, hvals⟩ := form_values c1
  have hcur := hx.g.cur
  refine ⟨x.w.cells, rfl, (M2.rd 0 rfl).part x.w_part, ?_⟩
  intro g4 w3 h3
  have M3 := M2.alloc h3
  refine ⟨rfl, _, _, M3.get 0 rfl, Nat.le_of_ble_eq_true rfl, rfl, ?_⟩
  intro w4 h4
  have M4 := M3.put 0 rfl h4
  refine ⟨x.g.cells, rfl, (M4.rd 1 rfl).part x.g_part, ?_⟩
  intro g5 w5 h5
  have M5 := M4.alloc h5
  refine ⟨rfl, _, _, M5.get 0 rfl, Nat.le_of_ble_eq_true rfl, rfl, ?_⟩
  intro w6 h6
  have M6 : Mem w w6 [(g5, .cells x.g.cells.toArray 25 (0, 0)), (g4, .cells x.w.cells.toArray 23 (0, 0)), (g1, .cells x.cells.toArray 27 (0, 0))] := M5.put 0 rfl h6
  have hG := M6.get 0 rfl
  have hW := M6.get 1 rfl
  have hE := M6.get 2 rfl
  have ez := M6.ext
  clear M6 h6 M5 h5 M4 h4 M3 h3 M2 M1 h1 e2
  refine ⟨_, cell_of_block hE rfl, ?_⟩
  refine brE_dec (fun k1 => ?_) (fun k1 => ?_)
  · have k1 : x.kind = 1 := k1
    have hv : valuesL x = [x.a, x.n] := if_pos (.inl k1)
    have he := entry_head x (verbL 1) (by rw [k1]; rfl) _ hv
    rw [hv] at hvals
    refine ⟨_, cell_of_block (i := 1) hE rfl, ?_⟩
    refine ⟨_, cell_of_block (i := 21) hE rfl, ?_⟩
    refine ⟨_, cell_of_block (i := 23) hE rfl, ?_⟩
    intro g7 w7 h7
    refine (row6_spec x.day hday (verbL 1) (by decide) [x.a, x.n] hvals (Nat.le_of_ble_eq_true rfl) (c := 2) (reads_block h7.here)).mono ?_
    rintro _ w8 ⟨rfl, e8⟩
    exact ⟨by rw [he], ez.trans (h7.ext.trans e8)⟩
  have k1 : ¬ x.kind = 1 := k1
  refine brE_dec (fun k2 => ?_) (fun k2 => ?_)
  · have k2 : x.kind = 2 := k2
    have hv : valuesL x = [x.a, x.n] := if_pos (.inr k2)
    have he := entry_head x (verbL 2) (by rw [k2]; rfl) _ hv
    rw [hv] at hvals
    refine ⟨_, cell_of_block (i := 1) hE rfl, ?_⟩
    refine ⟨_, cell_of_block (i := 21) hE rfl, ?_⟩
    refine ⟨_, cell_of_block (i := 23) hE rfl, ?_⟩
    intro g7 w7 h7
    refine (row6_spec x.day hday (verbL 2) (by decide) [x.a, x.n] hvals (Nat.le_of_ble_eq_true rfl) (c := 2) (reads_block h7.here)).mono ?_
    rintro _ w8 ⟨rfl, e8⟩
    exact ⟨by rw [he], ez.trans (h7.ext.trans e8)⟩
  have k2 : ¬ x.kind = 2 := k2
  have k12 : ¬ (x.kind = 1 ∨ x.kind = 2) := fun h => h.elim k1 k2
  refine brE_dec (fun k3 => ?_) (fun k3 => ?_)
  · have k3 : x.kind = 3 := k3
    have hv : valuesL x = [x.w.id, x.w.signer, x.w.giver, x.w.taker, x.w.under, x.w.over, x.w.since, x.w.til] := by unfold valuesL; rw [if_neg k12, if_pos k3]
    have he := entry_head x (verbL 3) (by rw [k3]; rfl) _ hv
    rw [hv] at hvals
    refine ⟨_, cell_of_block (i := 1) hE rfl, ?_⟩
    refine ⟨_, cell_of_block (i := 0) hW rfl, ?_⟩
    refine ⟨_, cell_of_block (i := 2) hW rfl, ?_⟩
    refine ⟨_, cell_of_block (i := 3) hW rfl, ?_⟩
    refine ⟨_, cell_of_block (i := 4) hW rfl, ?_⟩
    refine ⟨_, cell_of_block (i := 5) hW rfl, ?_⟩
    refine ⟨_, cell_of_block (i := 6) hW rfl, ?_⟩
    refine ⟨_, cell_of_block (i := 7) hW rfl, ?_⟩
    refine ⟨_, cell_of_block (i := 8) hW rfl, ?_⟩
    intro g7 w7 h7
    refine (row6_spec x.day hday (verbL 3) (by decide) [x.w.id, x.w.signer, x.w.giver, x.w.taker, x.w.under, x.w.over, x.w.since, x.w.til] hvals (Nat.le_of_ble_eq_true rfl) (c := 8) (reads_block h7.here)).mono ?_
    rintro _ w8 ⟨rfl, e8⟩
    exact ⟨by rw [he], ez.trans (h7.ext.trans e8)⟩
  have k3 : ¬ x.kind = 3 := k3
  refine brE_dec (fun k4 => ?_) (fun k4 => ?_)
  · have k4 : x.kind = 4 := k4
    have hv : valuesL x = [x.w.id] := by unfold valuesL; rw [if_neg k12, if_neg k3, if_pos k4]
    have he := entry_head x (verbL 4) (by rw [k4]; rfl) _ hv
    rw [hv] at hvals
    refine ⟨_, cell_of_block (i := 1) hE rfl, ?_⟩
    refine ⟨_, cell_of_block (i := 0) hW rfl, ?_⟩
    intro g7 w7 h7
    refine (row6_spec x.day hday (verbL 4) (by decide) [x.w.id] hvals (Nat.le_of_ble_eq_true rfl) (c := 1) (reads_block h7.here)).mono ?_
    rintro _ w8 ⟨rfl, e8⟩
    exact ⟨by rw [he], ez.trans (h7.ext.trans e8)⟩
  have k4 : ¬ x.kind = 4 := k4
  refine brE_dec (fun k5 => ?_) (fun k5 => ?_)
  · have k5 : x.kind = 5 := k5
    have hv : valuesL x = [x.g.id, x.g.frm, x.g.to, x.g.cur, x.g.n, x.g.returns] := by unfold valuesL; rw [if_neg k12, if_neg k3, if_neg k4, if_pos k5]
    have he := entry_head x (verbL 5) (by rw [k5]; rfl) _ hv
    rw [hv] at hvals
    refine ⟨_, cell_of_block (i := 1) hE rfl, ?_⟩
    refine ⟨_, cell_of_block (i := 0) hG rfl, ?_⟩
    refine ⟨_, cell_of_block (i := 2) hG rfl, ?_⟩
    refine ⟨_, cell_of_block (i := 3) hG rfl, ?_⟩
    refine ⟨_, cell_of_block (i := 4) hG rfl, ?_⟩
    refine ⟨x.g.cur, fit ⟨by omega, by omega⟩, ?_⟩
    refine ⟨_, cell_of_block (i := 5) hG rfl, ?_⟩
    refine ⟨_, cell_of_block (i := 9) hG rfl, ?_⟩
    intro g7 w7 h7
    refine (row6_spec x.day hday (verbL 5) (by decide) [x.g.id, x.g.frm, x.g.to, x.g.cur, x.g.n, x.g.returns] hvals (Nat.le_of_ble_eq_true rfl) (c := 6) (reads_block h7.here)).mono ?_
    rintro _ w8 ⟨rfl, e8⟩
    exact ⟨by rw [he], ez.trans (h7.ext.trans e8)⟩
  have k5 : ¬ x.kind = 5 := k5
  have hv : valuesL x = [x.g.id] := by unfold valuesL; rw [if_neg k12, if_neg k3, if_neg k4, if_neg k5]
  rw [hv] at hvals
  refine brE_dec (fun k6 => ?_) (fun k6 => ?_)
  · have k6 : x.kind = 6 := k6
    have he := entry_head x (verbL 6) (by rw [k6]; rfl) _ hv
    refine ⟨_, cell_of_block (i := 1) hE rfl, ?_⟩
    refine ⟨_, cell_of_block (i := 0) hG rfl, ?_⟩
    intro g7 w7 h7
    refine (row6_spec x.day hday (verbL 6) (by decide) [x.g.id] hvals (Nat.le_of_ble_eq_true rfl) (c := 1) (reads_block h7.here)).mono ?_
    rintro _ w8 ⟨rfl, e8⟩
    exact ⟨by rw [he], ez.trans (h7.ext.trans e8)⟩
  have k6 : ¬ x.kind = 6 := k6
  have k7 : x.kind = 7 := by omega
  have he := entry_head x (verbL 7) (by rw [k7]; rfl) _ hv
  refine ⟨_, cell_of_block (i := 1) hE rfl, ?_⟩
  refine ⟨_, cell_of_block (i := 0) hG rfl, ?_⟩
  intro g7 w7 h7
  refine (row6_spec x.day hday (verbL 7) (by decide) [x.g.id] hvals (Nat.le_of_ble_eq_true rfl) (c := 1) (reads_block h7.here)).mono ?_
  rintro _ w8 ⟨rfl, e8⟩
  exact ⟨by rw [he], ez.trans (h7.ext.trans e8)⟩
end Go.Proofs.YtahgjidcaeieaaaGreatDoor
namespace Go.Proofs.YtahgjidcaeieaaaGreatDoor
open Go.Eng Go.RowKit
abbrev restO (l : List UInt8) : Obj := .cells #[.string ⟨l.toArray⟩] 9 (0, 0)
abbrev fineO (b : Bool) : Obj := .cells #[.bool b] 4 (0, 0)
theorem mk_list (l : List UInt8) : (⟨l.toArray⟩ : ByteArray).data.toList = l := by simp
theorem mk_size (l : List UInt8) : (⟨l.toArray⟩ : ByteArray).size = l.length := by simp [ByteArray.size]
end Go.Proofs.YtahgjidcaeieaaaGreatDoor
namespace Go.Proofs.YtahgjidcaeieaaaGreatDoor
open Go.Eng Go.RowKit
abbrev txs (ws : List (List UInt8)) : List Value := strs (ws.map tx)
theorem txs_snoc (ws : List (List UInt8)) (u : List UInt8) : txs (ws ++ [u]) = txs ws ++ [.string (tx u)] := by simp [txs, strs]
theorem txs_len (ws : List (List UInt8)) : (txs ws).length = ws.length := by simp [txs, strs]
def NewTx (B : Nat) (w : World) (v : Value) (ws : List (List UInt8)) : Prop := w.ownsRow B 9 1 v ws.length (txs ws)
theorem newTx_nil (B : Nat) (w : World) : NewTx B w (.slice none 0 0) [] := World.ownsRow_nil _ _ _ _
theorem newTx_snoc {B : Nat} {w : World} {v : Value} {l : List (List UInt8)} {x : List UInt8} (h : w.ownsRow B 9 1 v (l.length + 1) (txs l ++ [.string (tx x)])) : NewTx B w v (l ++ [x]) := by
  unfold NewTx
  rw [txs_snoc, List.length_append]
  exact h
theorem split_hit {l : List UInt8} {f i : Nat} (hi : i < l.length) (hf : f ≤ i) (hall : ∀ j (hj : j < l.length), f ≤ j → j < i → l[j] ≠ 32) (hc : l[i] = 32) : splitW (l.drop f) = ((l.take i).drop f) :: splitW (l.drop (i + 1)) := by
  have e : l.drop f = (l.take i).drop f ++ 32 :: l.drop (i + 1) := by
    have h1 : l = l.take i ++ 32 :: l.drop (i + 1) := by
      conv => lhs; rw [← List.take_append_drop i l, List.drop_eq_getElem_cons hi, hc]
    conv => lhs; rw [h1]
    rw [List.drop_append_of_le_length (by rw [List.length_take]; omega)]
  rw [e, splitW_at]
  intro hm
  obtain ⟨j, hj, e⟩ := List.getElem_of_mem hm
  rw [List.length_drop, List.length_take] at hj
  rw [List.getElem_drop, List.getElem_take] at e
  exact hall (f + j) (by omega) (by omega) (by omega) e
theorem split_miss {l : List UInt8} {f : Nat} (hall : ∀ j (hj : j < l.length), f ≤ j → l[j] ≠ 32) : splitW (l.drop f) = [l.drop f] := splitW_none fun hm => by
  obtain ⟨j, hj, e⟩ := List.getElem_of_mem hm
  rw [List.length_drop] at hj
  rw [List.getElem_drop] at e
  exact hall (f + j) (by omega) (by omega) e
set_option maxRecDepth 100000 in
theorem words6_spec (l : List UInt8) (hl : l.length ≤ 1000) (w : World) :
    CallsV C.P 32 #[.string (tx l)] w fun v w' => NewTx w.heap.size w' v (splitW l) ∧ Ext w w' := by
  have hsz : (tx l).size = l.length := by show l.toArray.size = l.length; simp
  refine callsV_of C_ok (args := [_]) (plans := []) Tryz.func32 rfl Tryz.ntmps32 (by kernel_rfl) (Nat.le_of_ble_eq_true rfl) ?_
  have hcount : ∀ (out : List (List UInt8)) (f : Nat), splitW l = out ++ splitW (l.drop f) → out.length ≤ 1001 := fun out f h => by
    have h1 := splitW_length l
    have h2 := congrArg List.length h
    rw [List.length_append] at h2
    omega
  refine loopE C_ok (fun (s : Nat × Nat × Value) => [(0, .string (tx l)), (3, s.2.2), (4, .int .i64 s.2.1), (5, .int .i64 s.1)])
    (fun s w' => s.1 ≤ l.length ∧ s.2.1 ≤ s.1 ∧ (∀ j (hj : j < l.length), s.2.1 ≤ j → j < s.1 → l[j] ≠ 32) ∧ Ext w w' ∧ ∃ out, NewTx w.heap.size w' s.2.2 out ∧ splitW l = out ++ splitW (l.drop s.2.1)) (fun s => l.length - s.1) (0, 0, .slice none 0 0)
    ⟨rfl, rfl, rfl, rfl, trivial⟩ ⟨Nat.zero_le _, Nat.le_refl _, fun j hj h1 h2 => absurd h2 (Nat.not_lt_zero _), Ext.refl _, [], newTx_nil _ _, by simp⟩ ?_
  rintro ⟨i, f, v⟩ w1 ⟨hi', hf', hall', e1, out, ho', hsp'⟩
  have hi : i ≤ l.length := hi'
  have hf : f ≤ i := hf'
  have hall : ∀ j (hj : j < l.length), f ≤ j → j < i → l[j] ≠ 32 := hall'
  have ho : NewTx w.heap.size w1 v out := ho'
  have hsp : splitW l = out ++ splitW (l.drop f) := hsp'
  clear hi' hf' hall' ho' hsp'
  have hol := hcount out f hsp
  refine brE_dec (fun hlt => ?_) (fun hge => ?_)
  · have hlt : i < l.length := by have : (i : Int) < ((tx l).size : Nat) := hlt; omega
    have next : IntKind.i64.wrap ((i : Int) + 1) = ((i + 1 : Nat) : Int) := fit ⟨by omega, by omega⟩
    have hg : (tx l)[i]? = some l[i] := by rw [ba_get (by simpa using hlt)]
    refine ⟨i, l[i], rfl, hg, ?_⟩
    refine brE_dec (fun hc => ?_) (fun hc => ?_)
    · have hc : l[i] = 32 := eq32.2 hc
      refine ⟨f, i, rfl, rfl, hf, by omega, ?_⟩
      have hex : (tx l).extract f i = tx ((l.take i).drop f) := by rw [extract_list (tx l) f i (by omega)]
      rw [hex]
      intro g w2 h2
      have ho2 : w2.ownsRow w.heap.size 9 1 v out.length (txs out) := ownsRow_ext ho h2.ext
      refine ⟨rfl, rfl, rfl, w.heap.size, _, _, [.string (tx ((l.take i).drop f))], ho2, (e1.trans h2.ext).size, Nat.le_of_ble_eq_true rfl, rfl, rfl, .inr ⟨g, 0, rfl, Rd.of_block h2.here⟩, rfl, rfl, by omega, by simp only [maxLen]; omega, ?_⟩
      intro v3 w3 ho3 hg3 _
      refine ⟨((i + 1 : Nat) : Int), next, ?_⟩
      refine ⟨((i + 1 : Nat) : Int), next, ?_⟩
      refine ⟨(i + 1, i + 1, v3), ⟨rfl, rfl, rfl, rfl, trivial⟩, ⟨hlt, Nat.le_refl _, fun j hj h1 h2 => absurd h2 (by show ¬ j < i + 1; exact Nat.not_lt.2 h1), app_ext (e1.trans h2.ext) ho2 hg3, out ++ [(l.take i).drop f], newTx_snoc ho3, ?_⟩, by show l.length - (i + 1) < l.length - i; omega⟩
      show splitW l = out ++ [(l.take i).drop f] ++ splitW (l.drop (i + 1))
      rw [hsp, split_hit hlt hf hall hc]; simp
    · have hc : l[i] ≠ 32 := fun e => hc (eq32.1 e)
      refine ⟨((i + 1 : Nat) : Int), next, ?_⟩
      refine ⟨(i + 1, f, v), ⟨rfl, rfl, rfl, rfl, trivial⟩, ⟨hlt, by show f ≤ i + 1; omega, fun j hj h1 h2 => ?_, e1, out, ho, hsp⟩, by show l.length - (i + 1) < l.length - i; omega⟩
      rcases Nat.lt_or_ge j i with h | h
      · exact hall j hj h1 h
      · obtain rfl : j = i := by have h2 : j < i + 1 := h2; omega
        exact hc
  · have hi : i = l.length := by have : ¬ (i : Int) < ((tx l).size : Nat) := hge; omega
    subst hi
    refine ⟨f, (tx l).size, rfl, rfl, by omega, Nat.le_refl _, ?_⟩
    have hex : (tx l).extract f (tx l).size = tx (l.drop f) := by rw [extract_list (tx l) f (tx l).size (Nat.le_refl _), hsz]; simp
    rw [hex]
    intro g w2 h2
    have ho2 : w2.ownsRow w.heap.size 9 1 v out.length (txs out) := ownsRow_ext ho h2.ext
    refine ⟨rfl, rfl, rfl, w.heap.size, _, _, [.string (tx (l.drop f))], ho2, (e1.trans h2.ext).size, Nat.le_of_ble_eq_true rfl, rfl, rfl, .inr ⟨g, 0, rfl, Rd.of_block h2.here⟩, rfl, rfl, by omega, by simp only [maxLen]; omega, ?_⟩
    intro v3 w3 ho3 hg3 _
    refine ⟨?_, app_ext (e1.trans h2.ext) ho2 hg3⟩
    rw [hsp, split_miss fun j hj h1 => hall j hj h1 hj]
    exact newTx_snoc ho3
theorem dec_app6 : ∀ (l : List UInt8) (a b : Nat) (r : List UInt8), Lib.decFrom a l = some b → Lib.decFrom a (l ++ r) = Lib.decFrom b r
  | [], a, b, r, h => by simp only [Lib.decFrom, Option.some.injEq] at h; rw [h]; rfl
  | c :: t, a, b, r, h => by
    simp only [Lib.decFrom, List.cons_append] at h ⊢
    cases hc : Lib.digitVal c with
    | none => rw [hc] at h; cases h
    | some d => rw [hc] at h; exact dec_app6 t _ _ _ h
theorem dec_step6 {l : List UInt8} {i n : Nat} (hi : i < l.length) (h : Lib.decFrom 0 (l.take i) = some n) (hd : 48 ≤ l[i].toNat ∧ l[i].toNat ≤ 57) : Lib.decFrom 0 (l.take (i + 1)) = some (10 * n + (l[i].toNat - 48)) := by
  rw [List.take_succ_eq_append_getElem hi, dec_app6 _ _ _ _ h]
  simp only [Lib.decFrom, Lib.digitVal, if_pos hd]
  congr 1; omega
theorem dec_stop6 {l : List UInt8} {i n : Nat} (hi : i < l.length) (h : Lib.decFrom 0 (l.take i) = some n) (hd : ¬ (48 ≤ l[i].toNat ∧ l[i].toNat ≤ 57)) : Lib.decFrom 0 l = none := by
  have e : l = l.take i ++ l[i] :: l.drop (i + 1) := by rw [← List.drop_eq_getElem_cons hi, List.take_append_drop]
  rw [e, dec_app6 _ _ _ _ h]
  simp only [Lib.decFrom, Lib.digitVal, if_neg hd]
set_option maxRecDepth 100000 in
theorem value6_spec (l : List UInt8) (hl : l.length ≤ 9223372036854775807) (w : World) :
    CallsV C.P 33 #[.string (tx l)] w fun v w' => v = .int .i64 (valR l) ∧ w' = w := by
  have hsz : (tx l).size = l.length := by show l.toArray.size = l.length; simp
  refine callsV_of C_ok (args := [_]) (plans := []) Tryz.func33 rfl Tryz.ntmps33 (by kernel_rfl) (Nat.le_of_ble_eq_true rfl) ?_
  refine brE_dec (fun c1 => ?_) (fun c1 => ?_)
  · have c1 : l.length < 1 := by have c1 : (((tx l).size : Nat) : Int) < 1 := c1; omega
    exact ⟨by unfold valR; rw [if_neg (by omega)], rfl⟩
  have c1 : 1 ≤ l.length := by have c1 : ¬ (((tx l).size : Nat) : Int) < 1 := c1; omega
  refine brE_dec (fun c2 => ?_) (fun c2 => ?_)
  · have c2 : 13 < l.length := by have c2 : (((tx l).size : Nat) : Int) > 13 := c2; omega
    exact ⟨by unfold valR; rw [if_neg (by omega)], rfl⟩
  have c2 : l.length ≤ 13 := by have c2 : ¬ (((tx l).size : Nat) : Int) > 13 := c2; omega
  refine loopE C_ok (fun (s : Nat × Nat) => [(0, .string (tx l)), (3, .int .i64 s.2), (4, .int .i64 s.1)])
    (fun s w' => w' = w ∧ s.1 ≤ l.length ∧ Lib.decFrom 0 (l.take s.1) = some s.2) (fun s => l.length - s.1) (0, 0) ⟨rfl, rfl, rfl, trivial⟩ ⟨rfl, Nat.zero_le _, rfl⟩ ?_
  rintro ⟨i, n⟩ w2 ⟨rfl, hi', hn'⟩
  have hi : i ≤ l.length := hi'
  have hn : Lib.decFrom 0 (l.take i) = some n := hn'
  clear hi' hn'
  have hb : n < 10000000000000 := by
    have h1 := Lib.decFrom_lt (l.take i) 0 n hn
    have h2 : 10 ^ (l.take i).length ≤ 10 ^ 13 := Nat.pow_le_pow_right (by decide) (by rw [List.length_take]; omega)
    have : n < 10 ^ 13 := by omega
    exact this
  refine brE_dec (fun hlt => ?_) (fun hge => ?_)
  · have hlt : i < l.length := by have : (i : Int) < ((tx l).size : Nat) := hlt; omega
    have next : IntKind.i64.wrap ((i : Int) + 1) = ((i + 1 : Nat) : Int) := fit ⟨by omega, by omega⟩
    have hg : (tx l)[i]? = some l[i] := by rw [ba_get (by simpa using hlt)]
    have bad : ¬ (48 ≤ l[i].toNat ∧ l[i].toNat ≤ 57) → Value.int .i64 (-1) = .int .i64 (valR l) ∧ w2 = w2 := fun h => ⟨by unfold valR; rw [if_pos ⟨c1, c2⟩, dec_stop6 hlt hn h], rfl⟩
    refine ⟨i, l[i], rfl, hg, ?_⟩
    refine brE_dec (fun d1 => ?_) (fun d1 => ?_)
    · exact bad (by have d1 : (l[i].toNat : Int) < 48 := d1; omega)
    have d1 : ¬ (l[i].toNat : Int) < 48 := d1
    refine ⟨i, l[i], rfl, hg, ?_⟩
    refine brE_dec (fun d2 => ?_) (fun d2 => ?_)
    · exact bad (by have d2 : (l[i].toNat : Int) > 57 := d2; omega)
    have d2 : ¬ (l[i].toNat : Int) > 57 := d2
    refine ⟨((10 * n : Nat) : Int), by rw [fit ⟨by omega, by omega⟩]; omega, ?_⟩
    refine ⟨i, l[i], rfl, hg, ?_⟩
    refine ⟨(l[i].toNat : Int), fit ⟨by omega, by omega⟩, ?_⟩
    refine ⟨((10 * n + l[i].toNat : Nat) : Int), by rw [fit ⟨by omega, by omega⟩]; omega, ?_⟩
    refine ⟨((10 * n + (l[i].toNat - 48) : Nat) : Int), by rw [fit ⟨by omega, by omega⟩]; omega, ?_⟩
    refine ⟨_, next, ?_⟩
    exact ⟨(i + 1, 10 * n + (l[i].toNat - 48)), ⟨rfl, rfl, rfl, trivial⟩, ⟨rfl, hlt, dec_step6 hlt hn (by omega)⟩, by show l.length - (i + 1) < l.length - i; omega⟩
  · have : i = l.length := by have : ¬ (i : Int) < ((tx l).size : Nat) := hge; omega
    subst this
    rw [List.take_length] at hn
    exact ⟨by unfold valR; rw [if_pos ⟨c1, c2⟩, hn], rfl⟩
end Go.Proofs.YtahgjidcaeieaaaGreatDoor
namespace Go.Proofs.YtahgjidcaeieaaaGreatDoor
open Go.Eng Go.RowKit
abbrev wordF (g5 g4 : Nat) : Obj := .cells #[.func (.func 27) #[] #[.pointer (some ⟨g5, 0, none⟩), .pointer (some ⟨g4, 0, none⟩)]] 72 (0, 0)
noncomputable abbrev Cn : Cfg := { Cw with tab := (68, ⟨.struct [], 0, .agg #[]⟩) :: Cw.tab }
theorem Cn_ok : Cn.Ok := ⟨Cw_ok.mixed, fun e he => by
  rcases List.mem_cons.1 he with rfl | he
  · exact ⟨by kernel_rfl, by kernel_rfl, rfl⟩
  · exact Cw_ok.types e he, Cw_ok.funcs⟩
abbrev notV : Value := .iface 68 (.agg #[])
structure StR (m : Bool) (l : List UInt8) (ws : List (List UInt8)) : Prop where
  len : l.length ≤ 281474976710656
  some : m = true → splitW l = ws
  none : m = false → ws = []
theorem idx_mem : ∀ (l : List UInt8), (Lib.indexByte l 32 = -1 ∧ 32 ∉ l) ∨ ∃ i : Nat, Lib.indexByte l 32 = i ∧ 32 ∈ l
  | [] => .inl ⟨rfl, by simp⟩
  | c :: r => by
    unfold Lib.indexByte
    by_cases h : c = 32
    · subst h
      exact .inr ⟨0, by simp, by simp⟩
    · rcases idx_mem r with ⟨h1, h2⟩ | ⟨i, h1, h2⟩
      · refine .inl ⟨by simp [h, h1], fun hm => ?_⟩
        rcases List.mem_cons.1 hm with e | hm
        · exact h e.symm
        · exact h2 hm
      · exact .inr ⟨i + 1, by simp [h, h1], by simp [h2]⟩
theorem Cut2_spec (s : ByteArray) (hs : s.size ≤ 9223372036854775807) (w : World) : CallsV C.P 28 #[.string s, .string ⟨#[32]⟩] w fun v w' => v = .tuple #[.string ⟨(cutW s.data.toList).1.toArray⟩, .string ⟨(cutW s.data.toList).2.toArray⟩, .bool (decide (32 ∈ s.data.toList))] ∧ w' = w := by
  have inner : CallsV C.P 58 #[.string s, .string ⟨#[32]⟩] w fun v w' => v = .tuple #[.string ⟨(cutW s.data.toList).1.toArray⟩, .string ⟨(cutW s.data.toList).2.toArray⟩, .bool (decide (32 ∈ s.data.toList))] ∧ w' = w := by
    refine callsV_of C_ok (args := [_, _]) (plans := plans58) Tryz.func58 rfl Tryz.ntmps58 (by kernel_rfl) (Nat.le_of_ble_eq_true rfl) ?_
    refine (Index1_spec s w).mono ?_
    rintro v w1 ⟨rfl, rfl⟩
    have hsz := ba_size s
    have hci := cut_index s.data.toList
    have hmi := idx_mem s.data.toList
    generalize Lib.indexByte s.data.toList 32 = z at *
    refine brE_dec (fun h => ?_) (fun h => ?_)
    · have h : z ≥ 0 := h
      rcases hci with ⟨h1, h2⟩ | ⟨i, h1, hi, h2⟩
      · omega
      rcases hmi with ⟨h3, h4⟩ | ⟨_, _, h4⟩
      · omega
      rw [h2, decide_eq_true h4]
      refine ⟨0, i, rfl, h1, Nat.zero_le _, by omega, ?_⟩
      refine ⟨((i + 1 : Nat) : Int), by show IntKind.i64.wrap (z + 1) = _; rw [h1]; exact fit ⟨by omega, by omega⟩, ?_⟩
      refine ⟨i + 1, s.size, rfl, rfl, by omega, Nat.le_refl _, ?_⟩
      refine ⟨?_, rfl⟩
      rw [extract_list s 0 i (by omega), extract_list s (i + 1) s.size (Nat.le_refl _), hsz, List.take_length]
      rfl
    · have h : ¬ z ≥ 0 := h
      rcases hci with ⟨h1, h2⟩ | ⟨i, h1, hi, h2⟩
      · rcases hmi with ⟨h3, h4⟩ | ⟨i, h3, _⟩
        · rw [h2, decide_eq_false h4]
          exact ⟨by rw [ba_mk], rfl⟩
        · omega
      · omega
  refine callsV_of C_ok (args := [_, _]) (plans := []) Tryz.func28 rfl Tryz.ntmps28 (by kernel_rfl) (Nat.le_of_ble_eq_true rfl) ?_
  refine inner.mono ?_
  rintro v w1 ⟨rfl, rfl⟩
  exact ⟨rfl, rfl⟩
theorem mkIface (o : Oper) (x : Operand) (t : Nat) (l : Env) (w : World) (v : Value) (h : C.P.concrete t = true) (hv : evo l x = some v) (ho : o.op = .makeInterface t x) : QuietRun Cn o l w (.iface t v) := by
  intro ρ hρ w' _
  have := run_makeInterface (P := C.P) (w := w') t v h
  simp only [execOp, ho, hρ x v hv, Sem.run_bind]
  erw [this]
  rfl
theorem notForm_conc : C.P.concrete 68 = true := by kernel_rfl
theorem word_spec {w0 w : World} {L : List (Nat × Obj)} {g4 g5 i4 i5 : Nat} {l : List UInt8} {m : Bool} {ws : List (List UInt8)} (M : Mem w0 w L) (h4 : L[i4]? = some (g4, restO l)) (h5 : L[i5]? = some (g5, fineO m)) (hne : i4 ≠ i5) (hs : StR m l ws) :
    CallsP false C.P 27 (#[] ++ ([] : List Value).toArray ++ #[.pointer (some ⟨g5, 0, none⟩), .pointer (some ⟨g4, 0, none⟩)]) w
      (fun v w' => ∃ u r m' l', ws = u :: r ∧ v = .string ⟨u.toArray⟩ ∧ StR m' l' r ∧ Mem w0 w' ((L.set i4 (g4, restO l')).set i5 (g5, fineO m')) ∧ u.length ≤ 281474976710656)
      (fun v w' => ws = [] ∧ v = notV ∧ w' = w) := by
  refine callsP_of Cn_ok (args := [_, _]) (plans := []) [] Tryz.func27 rfl Tryz.ntmps27 (by kernel_rfl) (Nat.le_of_ble_eq_true rfl) ?_
  refine ⟨_, cell_of_block (M.get i5 h5) rfl, ?_⟩
  refine brE_mk (fun c => ?_) (fun c => ?_)
  · have hm : m = false := by simpa using c
    refine ⟨_, mkIface _ _ _ _ _ _ notForm_conc rfl rfl, ?_⟩
    exact ⟨hs.none hm, rfl, rfl⟩
  · have hm : m = true := by simpa using c
    refine ⟨_, cell_of_block (M.get i4 h4) rfl, ?_⟩
    refine (Cut2_spec ⟨l.toArray⟩ (by rw [mk_size]; exact Nat.le_trans hs.len (by decide)) w).weak.mono ?_
    rintro v w1 ⟨rfl, rfl⟩
    rw [mk_list]
    refine ⟨rfl, _, _, M.get i4 h4, Nat.le_of_ble_eq_true rfl, rfl, ?_⟩
    intro w2 h2
    have M2 := M.put i4 h4 h2
    have h5' : (L.set i4 (g4, restO (cutW l).2))[i5]? = some (g5, fineO m) := by rw [List.getElem?_set_ne hne]; exact h5
    refine ⟨rfl, _, _, M2.get i5 h5', Nat.le_of_ble_eq_true rfl, rfl, ?_⟩
    intro w3 h3
    have hsp := hs.some hm
    have hcl := cutW_length l
    have hlen := hs.len
    rw [splitW_cut] at hsp
    refine ⟨(cutW l).1, _, decide (32 ∈ l), (cutW l).2, hsp.symm, rfl, ⟨by omega, fun h => ?_, fun h => ?_⟩, M2.put i5 h5' h3, by omega⟩
    · rw [if_pos (of_decide_eq_true h)]
    · rw [if_neg (of_decide_eq_false h)]
theorem neqErr (x y : Operand) (t : Nat) (p : Value) : EqIs C.P .neq 74 x y (.iface t p) .nilIface true := by
  intro w
  have h1 : (eqGuard .neq 74 x y (.iface t p) .nilIface).run C.P w = .ok () w := by simp [eqGuard]
  rw [Sem.run_bind, h1]
  simp only [Result.andThen_ok]
  exact run_neq_held_nil w _ _ _ underErr
theorem neqErr0 (x : Operand) : EqIs C.P .neq 74 x (.const .nilIface) .nilIface .nilIface false := by
  intro w
  have h1 : (eqGuard .neq 74 x (.const .nilIface) .nilIface .nilIface).run C.P w = .ok () w := by simp [eqGuard]
  rw [Sem.run_bind, h1]
  simp only [Result.andThen_ok]
  exact run_neq_nil_nil w _ underErr
theorem numW_ok {u : List UInt8} (h : (numW u).2 = true) : Lib.atoiAll u = .ok (numW u).1 := by
  unfold numW at h ⊢
  cases ha : Lib.atoiAll u with
  | ok v => rfl
  | «syntax» => rw [ha] at h; cases h
  | range => rw [ha] at h; cases h
theorem numW_bad {u : List UInt8} {k : Nat} {r : List (List UInt8)} (h : (numW u).2 = false) : numsP (k + 1) (u :: r) = none := by
  unfold numW at h
  cases ha : Lib.atoiAll u with
  | ok v => rw [ha] at h; cases h
  | «syntax» => simp only [numsP, ha]
  | range => simp only [numsP, ha]
theorem number_spec {w0 w : World} {L : List (Nat × Obj)} {g4 g5 g6 i4 i5 i6 : Nat} {l : List UInt8} {m : Bool} {ws : List (List UInt8)} (T : Tabs w0) (M : Mem w0 w L) (h4 : L[i4]? = some (g4, restO l)) (h5 : L[i5]? = some (g5, fineO m)) (h6 : L[i6]? = some (g6, wordF g5 g4)) (hne : i4 ≠ i5) (hs : StR m l ws) :
    CallsP false C.P 29 (#[] ++ ([] : List Value).toArray ++ #[.pointer (some ⟨g6, 0, none⟩)]) w
      (fun v w' => ∃ u r n m' l', ws = u :: r ∧ Lib.atoiAll u = .ok n ∧ In64 n ∧ v = .int .i64 n ∧ StR m' l' r ∧ Mem w0 w' ((L.set i4 (g4, restO l')).set i5 (g5, fineO m')))
      (fun v w' => numsP 1 ws = none ∧ v = notV ∧ ∃ m' l', Mem w0 w' ((L.set i4 (g4, restO l')).set i5 (g5, fineO m'))) := by
  refine callsP_of Cn_ok (args := [_]) (plans := []) [27] Tryz.func29 rfl Tryz.ntmps29 (by kernel_rfl) (Nat.le_of_ble_eq_true rfl) ?_
  refine ⟨_, cell_of_block (M.get i6 h6) rfl, ?_⟩
  refine (word_spec M h4 h5 hne hs).mono ?_ ?_
  · rintro _ w1 ⟨u, r, m', l', rfl, rfl, hs', M1, hu⟩
    refine (Atoi_spec ⟨u.toArray⟩ (by rw [mk_size]; exact hu) w1 (T.ext M1.ext)).mono ?_
    rintro _ w2 ⟨⟨err, rfl, herr⟩, e2⟩
    rw [mk_list] at herr ⊢
    have M2 := M1.grow e2
    rcases herr with ⟨h1, rfl⟩ | ⟨h1, t, p, rfl⟩
    · refine ⟨_, neqErr0 _, ?_⟩
      exact ⟨u, r, (numW u).1, m', l', rfl, numW_ok h1, numW_in u, rfl, hs', M2⟩
    · refine ⟨_, neqErr _ _ _ _, ?_⟩
      refine ⟨_, mkIface _ _ _ _ _ _ notForm_conc rfl rfl, ?_⟩
      exact ⟨numW_bad h1, rfl, m', l', M2⟩
  · rintro v w1 ⟨rfl, rfl, rfl⟩
    refine ⟨rfl, rfl, m, l, ?_⟩
    have e4 : L.set i4 (g4, restO l) = L := by
      obtain ⟨hlt, e⟩ := List.getElem?_eq_some_iff.1 h4
      rw [← e, List.set_getElem_self]
    have e5 : L.set i5 (g5, fineO m) = L := by
      obtain ⟨hlt, e⟩ := List.getElem?_eq_some_iff.1 h5
      rw [← e, List.set_getElem_self]
    rw [e4, e5]
    exact M
theorem underAny : C.P.underlying 20 = some (.interface (C.P.methodsAt 20)) := by kernel_rfl
theorem neqAny (x y : Operand) (t : Nat) (p : Value) : EqIs C.P .neq 20 x y (.iface t p) .nilIface true := by
  intro w
  have h1 : (eqGuard .neq 20 x y (.iface t p) .nilIface).run C.P w = .ok () w := by simp [eqGuard]
  rw [Sem.run_bind, h1]
  simp only [Result.andThen_ok]
  exact run_neq_held_nil w _ _ _ underAny
theorem neqAny0 (x : Operand) : EqIs C.P .neq 20 x (.const .nilIface) .nilIface .nilIface false := by
  intro w
  have h1 : (eqGuard .neq 20 x (.const .nilIface) .nilIface .nilIface).run C.P w = .ok () w := by simp [eqGuard]
  rw [Sem.run_bind, h1]
  simp only [Result.andThen_ok]
  exact run_neq_nil_nil w _ underAny
theorem isNot (o : Oper) (x : Operand) (s : Nat) (l : Env) (w : World) (hv : evo l x = some notV) (ho : o.op = .typeAssert x s 68 true) : QuietRun Cn o l w (.tuple #[.agg #[], .bool true]) := by
  intro ρ hρ w' _
  have hu : C.P.underlying 68 = some (.struct #[]) := by kernel_rfl
  have hrun : (Instr.typeAssert notV s 68 true).run C.P w' = .ok (.tuple #[.agg #[], .bool true]) w' := by
    unfold Instr.typeAssert
    rw [Sem.run_bind, run_underlying hu]
    rfl
  simp only [execOp, ho, hρ x _ hv, Sem.run_bind]
  erw [hrun]
  rfl
set_option maxRecDepth 100000 in
theorem caught_spec {w0 w : World} {L : List (Nat × Obj)} {g2 g3 i2 i3 : Nat} {x : Entry} {e : Int} (M : Mem w0 w L) (h2 : L[i2]? = some (g2, .cells x.cells.toArray 27 (0, 0))) (h3 : L[i3]? = some (g3, .cells #[.int .i64 e] 29 (0, 0))) (hne : i2 ≠ i3) :
    CallsDV Cn 26 #[.pointer (some ⟨g2, 0, none⟩), .pointer (some ⟨g3, 0, none⟩)] (.panicking [⟨notV, false, false⟩]) w fun u' w' => settle u' = .returning ∧ Mem w0 w' ((L.set i2 (g2, .cells entryZ.cells.toArray 27 (0, 0))).set i3 (g3, .cells #[.int .i64 4] 29 (0, 0))) := by
  refine callsDV_of Cn_ok (argv := [_, _]) Tryz.func26 rfl Tryz.ntmps26 (by kernel_rfl) rfl rfl rfl rfl (Nat.le_of_ble_eq_true rfl) ?_
  refine ⟨Snd.fin Cn_ok (plans := []) (by kernel_rfl) ?_⟩
  refine ⟨_, neqAny _ _ _ _, ?_⟩
  refine ⟨_, isNot _ _ _ _ _ rfl rfl, ?_⟩
  intro g4 w1 a1
  have M1 := M.grow a1.ext
  refine ⟨rfl, _, _, a1.here, Nat.le_of_ble_eq_true rfl, rfl, ?_⟩
  intro w2 p2
  have M2 : Mem w0 w2 L := ⟨p2.ext_of M1.ext (by rw [a1.new]; exact M.ext.size), fun g o hm => ⟨(M1.own g o hm).1, by
    rw [p2.there g (fun e => by have := M.lt hm; rw [e, a1.new] at this; exact Nat.lt_irrefl _ this)]; exact (M1.own g o hm).2⟩, M1.nodup⟩
  refine ⟨rfl, _, _, M2.get i2 h2, Nat.le_of_ble_eq_true rfl, rfl, ?_⟩
  intro w3 p3
  have p3 : Put w2 g2 (.cells entryZ.cells.toArray 27 (0, 0)) w3 := p3
  have M3 := M2.put i2 h2 p3
  have h3' : (L.set i2 (g2, .cells entryZ.cells.toArray 27 (0, 0)))[i3]? = some (g3, .cells #[.int .i64 e] 29 (0, 0)) := by rw [List.getElem?_set_ne hne]; exact h3
  refine ⟨rfl, _, _, M3.get i3 h3', Nat.le_of_ble_eq_true rfl, rfl, ?_⟩
  intro w4 p4
  exact ⟨rfl, M3.put i3 h3' p4⟩
theorem uncaught_spec (g2 g3 : Nat) (w : World) :
    CallsDV Cn 26 #[.pointer (some ⟨g2, 0, none⟩), .pointer (some ⟨g3, 0, none⟩)] .returning w fun u' w' => settle u' = .returning ∧ w' = w := by
  refine callsDV_of Cn_ok (argv := [_, _]) Tryz.func26 rfl Tryz.ntmps26 (by kernel_rfl) rfl rfl rfl rfl (Nat.le_of_ble_eq_true rfl) ?_
  refine ⟨Snd.fin Cn_ok (plans := []) (by kernel_rfl) ?_⟩
  refine ⟨_, neqAny0 _, ?_⟩
  exact ⟨rfl, rfl⟩
end Go.Proofs.YtahgjidcaeieaaaGreatDoor
namespace Go.Proofs.YtahgjidcaeieaaaGreatDoor
open Go.Eng Go.RowKit
abbrev eO (x : Entry) : Obj := .cells x.cells.toArray 27 (0, 0)
abbrev nO (e : Int) : Obj := .cells #[.int .i64 e] 29 (0, 0)
abbrev pt (g o : Nat) : Value := .pointer (some ⟨g, o, none⟩)
abbrev ddR (g2 g3 : Nat) : Deferred := { target := .fn (.func 26) #[pt g2 0, pt g3 0], args := #[] }
abbrev LR (g8 g6 g5 g4 g3 g2 : Nat) (x : Entry) (m : Bool) (l : List UInt8) : List (Nat × Obj) := [(g8, eO x), (g6, wordF g5 g4), (g5, fineO m), (g4, restO l), (g3, nO 0), (g2, eO entryZ)]
theorem bad_end {w0 w : World} {L : List (Nat × Obj)} {g2 g3 i2 i3 : Nat} {x : Entry} {e : Int} {env : Env} {K : Value → World → Prop} (M : Mem w0 w L) (h2 : L[i2]? = some (g2, eO x)) (h3 : L[i3]? = some (g3, nO e)) (hne : i2 ≠ i3)
    (hl2 : Go.Eng.look env 2 = some (pt g2 0)) (hl3 : Go.Eng.look env 3 = some (pt g3 0)) (hK : ∀ w', Ext w0 w' → K (.tuple #[entryZ.val, .int .i64 4]) w') :
    EndD Cn (ddR g2 g3) [.cell 2 27, .cell 3 29] K (.panicking [⟨notV, false, false⟩]) env w := by
  refine ⟨26, _, rfl, rfl, ?_⟩
  refine (caught_spec M h2 h3 hne).mono ?_
  rintro u' w' ⟨hset, M'⟩
  refine ⟨hset, ?_⟩
  have a2 : ((L.set i2 (g2, eO entryZ)).set i3 (g3, nO 4))[i2]? = some (g2, eO entryZ) := by
    obtain ⟨hlt, _⟩ := List.getElem?_eq_some_iff.1 h2
    rw [List.getElem?_set_ne (Ne.symm hne), List.getElem?_set_self hlt]
  have a3 : ((L.set i2 (g2, eO entryZ)).set i3 (g3, nO 4))[i3]? = some (g3, nO 4) := by
    obtain ⟨hlt, _⟩ := List.getElem?_eq_some_iff.1 h3
    rw [List.getElem?_set_self (by simpa using hlt)]
  show withO (Go.Eng.look env 2) _
  rw [hl2]
  refine ⟨entryZ.cells, rfl, M'.rd i2 a2, ?_⟩
  show withO (Go.Eng.look env 3) _
  rw [hl3]
  refine ⟨_, cell_of_block (M'.get i3 a3) rfl, ?_⟩
  exact hK w' M'.ext
theorem numsP_step {k : Nat} {u : List UInt8} {n : Int} {r : List (List UInt8)} (h : Lib.atoiAll u = .ok n) : numsP (k + 1) (u :: r) = (numsP k r).map (n :: ·) := by
  simp only [numsP, h]
  cases numsP k r <;> rfl
theorem numsP_stop {k : Nat} {ws : List (List UInt8)} (h : numsP 1 ws = none) : numsP (k + 1) ws = none := by
  cases ws with
  | nil => rfl
  | cons u r =>
    cases ha : Lib.atoiAll u with
    | ok n => simp only [numsP, ha] at h; cases h
    | «syntax» => simp only [numsP, ha]
    | range => simp only [numsP, ha]
def SoFar (k : Nat) (r : List (List UInt8)) (ns : List Int) (ws : List (List UInt8)) : Prop := ns.length ≤ k ∧ numsP k r = (numsP (k - ns.length) ws).map (ns ++ ·)
theorem SoFar.start (k : Nat) (r : List (List UInt8)) : SoFar k r [] r := ⟨Nat.zero_le _, by simp⟩
theorem SoFar.next {k : Nat} {r : List (List UInt8)} {ns : List Int} {u : List UInt8} {n : Int} {ws : List (List UInt8)} (h : SoFar k r ns (u :: ws)) (hk : ns.length < k) (hn : Lib.atoiAll u = .ok n) : SoFar k r (ns ++ [n]) ws := by
  refine ⟨by simp; omega, ?_⟩
  rw [h.2, show k - ns.length = (k - (ns ++ [n]).length) + 1 by simp; omega, numsP_step hn]
  cases numsP (k - (ns ++ [n]).length) ws <;> simp
theorem SoFar.stop {k : Nat} {r : List (List UInt8)} {ns : List Int} {ws : List (List UInt8)} (h : SoFar k r ns ws) (hk : ns.length < k) (hn : numsP 1 ws = none) : numsP k r = none := by
  rw [h.2, show k - ns.length = (k - ns.length - 1) + 1 by omega, numsP_stop hn]; rfl
theorem SoFar.fin {k : Nat} {r : List (List UInt8)} {ns : List Int} {ws : List (List UInt8)} (h : SoFar k r ns ws) (hk : ns.length = k) : numsP k r = some ns := by
  rw [h.2, hk, Nat.sub_self]
  simp [numsP]
def fN (ns : List Int) (i : Nat) : Int := ns.getD i 0
theorem fN_next (ns : List Int) (n : Int) (i : Nat) : fN (ns ++ [n]) i = if i = ns.length then n else fN ns i := by
  unfold fN
  rw [List.getD_eq_getElem?_getD, List.getD_eq_getElem?_getD]
  by_cases h : i < ns.length
  · rw [List.getElem?_append_left h, if_neg (by omega)]
  · by_cases he : i = ns.length
    · subst he; simp
    · rw [if_neg he, List.getElem?_eq_none (by simp; omega), List.getElem?_eq_none (by omega)]
theorem fN_in {ns : List Int} (h : ∀ n ∈ ns, In64 n) (i : Nat) : In64 (fN ns i) := by
  unfold fN
  rw [List.getD_eq_getElem?_getD]
  cases hi : ns[i]? with
  | none => exact ⟨by decide, by decide⟩
  | some n => exact h n (List.mem_of_getElem? hi)
theorem progP_none {day : Int} {u v : List UInt8} {r : List (List UInt8)} (h : Lib.atoiAll u = .ok day) (hn : numsP (cntK (kindP v)) r = none) : progP (u :: v :: r) = none := by
  simp only [progP, h, hn]
theorem progP_some {day : Int} {u v : List UInt8} {r : List (List UInt8)} {ns : List Int} (h : Lib.atoiAll u = .ok day) (hn : numsP (cntK (kindP v)) r = some ns) (h5 : kindP v = 5 → 0 ≤ fN ns 3 ∧ fN ns 3 ≤ 255) : progP (u :: v :: r) = some (mkE (kindP v) day (fN ns)) := by
  simp only [progP, h, hn]
  rw [if_neg fun k => k.2 (h5 k.1)]
  rfl
theorem progP_five {day : Int} {u v : List UInt8} {r : List (List UInt8)} {ns : List Int} (h : Lib.atoiAll u = .ok day) (hk : kindP v = 5) (hn : numsP 6 r = some ns) (h5 : ¬ (0 ≤ fN ns 3 ∧ fN ns 3 ≤ 255)) : progP (u :: v :: r) = none := by
  have hn' : numsP (cntK (kindP v)) r = some ns := by rw [hk]; exact hn
  simp only [progP, h, hn']
  rw [if_pos ⟨hk, h5⟩]
theorem progP_day {u : List UInt8} {r : List (List UInt8)} (h : numsP 1 (u :: r) = none) : progP (u :: r) = none := by
  cases r with
  | nil => rfl
  | cons v r =>
    cases ha : Lib.atoiAll u with
    | ok n => simp only [numsP, ha] at h; cases h
    | «syntax» => simp only [progP, ha]
    | range => simp only [progP, ha]
def dayE (k : Nat) (d : Int) : Entry := ⟨k, d, waivZ, giftZ, 0, 0, 0⟩
def offE (d : Int) (f : Nat → Int) : Entry := ⟨5, d, waivZ, ⟨f 0, d, f 1, f 2, 0, f 4, 0, 0, 0, f 5⟩, 0, 0, 0⟩
theorem mkE_nums {k : Nat} (hk : k ≤ 7) {d : Int} {f : Nat → Int} (hd : In64 d) (hf : ∀ i, In64 (f i)) (h5 : k = 5 → 0 ≤ f 3 ∧ f 3 ≤ 255) : (mkE k d f).Nums := by
  have z : In64 0 := ⟨by decide, by decide⟩
  have z8 : (0 : Int) ≤ 0 ∧ (0 : Int) ≤ 255 := ⟨by decide, by decide⟩
  have hz : waivZ.Nums := ⟨z, z, z, z, z, z, z, z, z⟩
  have hg : giftZ.Nums := ⟨z, z, z, z, z8, z, z, z8, z, z⟩
  have hkk : 0 ≤ (k : Int) ∧ (k : Int) ≤ 255 := by omega
  unfold mkE
  split
  · exact ⟨hkk, hd, hz, hg, hf 0, z, hf 1⟩
  split
  · exact ⟨hkk, hd, ⟨hf 0, hd, hf 1, hf 2, hf 3, hf 4, hf 5, hf 6, hf 7⟩, hg, z, z, z⟩
  split
  · exact ⟨hkk, hd, ⟨hf 0, z, z, z, z, z, z, z, z⟩, hg, z, z, z⟩
  split
  · rename_i h; exact ⟨hkk, hd, hz, ⟨hf 0, hd, hf 1, hf 2, h5 h, hf 4, z, z8, z, hf 5⟩, z, z, z⟩
  split
  · exact ⟨hkk, hd, hz, ⟨hf 0, z, z, z, z8, z, z, z8, z, z⟩, z, z, z⟩
  · exact ⟨hkk, hd, hz, hg, z, z, z⟩
def offW (j : Nat) : Nat := if j = 0 then 2 else j + 3
theorem grant_store (d : Int) {ns : List Int} {n : Int} (h : ns.length < 8) : splice (mkE 3 d (fN ns)).cells (offW ns.length) [.int .i64 n] = (mkE 3 d (fN (ns ++ [n]))).cells := by
  have e : mkE 3 d (fN (ns ++ [n])) = mkE 3 d fun i => if i = ns.length then n else fN ns i := by
    congr 1; funext i; exact fN_next ns n i
  rw [e]
  generalize fN ns = f
  generalize ns.length = j at h
  have : j = 0 ∨ j = 1 ∨ j = 2 ∨ j = 3 ∨ j = 4 ∨ j = 5 ∨ j = 6 ∨ j = 7 := by omega
  rcases this with rfl | rfl | rfl | rfl | rfl | rfl | rfl | rfl <;> rfl
end Go.Proofs.YtahgjidcaeieaaaGreatDoor
