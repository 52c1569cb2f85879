/- a part of the proof: steps, walks and plain laws that the law below stands on; no condition. -/
import Derived.Test.YthpdkdmbfdmamaaGreatDoorGDc
import Derived.Test.YthpdkdmbfdmamaaGreatDoorGBe
import Derived.Test.YthpdkdmbfdmamaaGreatDoorGCe
import Derived.Test.YthpdkdmbfdmamaaGreatDoorGCh
import Derived.Test.YthpdkdmbfdmamaaGreatDoorGCi
import Derived.Test.YthpdkdmbfdmamaaGreatDoorRows
import Derived.Test.YthpdkdmbfdmamaaGreatDoorCards
import Derived.Test.YthpdkdmbfdmamaaGreatDoorTie
import Derived.ProofKit
import Derived.Lib.SmallJoins
import Derived.Deep.Slices
import Derived.Deep.SlicePairs
import Derived.SizedLaws
import Derived.ChangeSame
import Derived.ChangeVars
import Derived.ChangeMaps5
import Derived.JoinedOf
import Derived.JoinedAt
import Derived.RowKit
import Derived.RowKit3
import Derived.RowKitTokens
import Derived.LaidLaws
import Derived.Stop.LaidErr
import Derived.Lib.LaidTab
import Derived.SevenTiedAt
set_option linter.unusedVariables false
set_option linter.unusedSimpArgs false
set_option linter.unnecessarySimpa false
set_option linter.unusedSectionVars false
namespace Go.Proofs.YthpdkdmbfdmamaaGreatDoor
open Go.Eng Go.RowKit

theorem sample_nums : ∀ x ∈ sampleL, x.Nums := by
  have key : sampleL.all (fun x => decide (In64 x.id ∧ In64 x.known ∧ (0 ≤ x.kind ∧ x.kind ≤ 255) ∧ In64 x.who ∧ In64 x.what ∧ In64 x.other ∧ In64 x.since ∧ In64 x.til ∧ x.name.size ≤ 9223372036854775807)) = true := by decide +kernel
  intro x hx
  obtain ⟨a, b, c, d, e, f, g, h, i⟩ := of_decide_eq_true (List.all_eq_true.1 key x hx)
  exact ⟨a, b, c, d, e, f, g, h, i⟩
theorem fact11_nums : fact11.Nums := by
  have key : decide (In64 fact11.id ∧ In64 fact11.known ∧ (0 ≤ fact11.kind ∧ fact11.kind ≤ 255) ∧ In64 fact11.who ∧ In64 fact11.what ∧ In64 fact11.other ∧ In64 fact11.since ∧ In64 fact11.til ∧ fact11.name.size ≤ 9223372036854775807) = true := by decide +kernel
  obtain ⟨a, b, c, d, e, f, g, h, i⟩ := of_decide_eq_true key
  exact ⟨a, b, c, d, e, f, g, h, i⟩
theorem lines_len : linesL.all (fun l => decide (l.length ≤ 100)) = true := by decide +kernel

set_option maxRecDepth 100000 in
theorem sample_spec (w : World) (T : Tabs w) : CallsW C.P 81 #[] w fun v w' => NewF w.heap.size w' v sampleL ∧ Ext w w' := by
  refine callsV_of Cw_ok (args := []) (plans := []) Tryz.func81 rfl Tryz.ntmps81 (by kernel_rfl) (Nat.le_of_ble_eq_true rfl) ?_
  intro g8 w1 h1
  have M1 : Mem w w1 [(g8, .cells (strs (linesL.map fun l => ⟨l.toArray⟩)).toArray 9 (0, 0))] := (Mem.start w).alloc h1
  have hlen := sample_length
  refine loopE Cw_ok (fun (t : Nat × Value) => [(1, t.2), (8, .slice (some ⟨g8, 0, none⟩) 10 10), (9, .int .i64 (10 : Nat)), (10, .int .i64 t.1)])
    (fun t w' => t.1 ≤ 10 ∧ Mem w w' [(g8, .cells (strs (linesL.map fun l => ⟨l.toArray⟩)).toArray 9 (0, 0))] ∧ NewF w.heap.size w' t.2 (sampleL.take t.1)) (fun t => 10 - t.1) (0, .slice none 0 0)
    ⟨rfl, rfl, rfl, rfl, trivial⟩ ⟨Nat.zero_le _, M1, newF_nil _ _⟩ ?_
  rintro ⟨i, v⟩ w2 ⟨hi', M2', ho'⟩
  have hi : i ≤ 10 := hi'
  have M2 : Mem w w2 [(g8, .cells (strs (linesL.map fun l => ⟨l.toArray⟩)).toArray 9 (0, 0))] := M2'
  have ho : NewF w.heap.size w2 v (sampleL.take i) := ho'
  clear hi' M2' ho'
  refine brE_dec (fun hlt => ?_) (fun hge => ?_)
  case' refine_2 =>
    have : i = 10 := by have : ¬ (i : Int) < ((10 : Nat) : Int) := hge; omega
    subst this
    rw [List.take_of_length_le (by omega)] at ho
    exact ⟨ho, M2.ext⟩
  have hlt2 : i < 10 := by have : (i : Int) < ((10 : Nat) : Int) := hlt; omega
  have hll : i < linesL.length := hlt2
  have hline : linesL.getD i [] ∈ linesL := by
    rw [List.getD_eq_getElem?_getD, List.getElem?_eq_getElem hll]
    exact List.getElem_mem _
  have hx : sampleL.getD i factZ ∈ sampleL := by
    rw [List.getD_eq_getElem?_getD, List.getElem?_eq_getElem (by omega)]
    exact List.getElem_mem _
  have hxg : sampleL.getD i factZ = sampleL[i]'(by omega) := by
    rw [List.getD_eq_getElem?_getD, List.getElem?_eq_getElem (by omega)]; rfl
  have hsz := of_decide_eq_true (List.all_eq_true.1 lines_len _ hline)
  have hread := sample_read hlt2
  have happ := sample_append hlt2
  have hxn := sample_nums _ hx
  have htk : sampleL.take (i + 1) = sampleL.take i ++ [sampleL.getD i factZ] := by
    rw [hxg]; exact List.take_succ_eq_append_getElem (by omega)
  refine ⟨i, g8, 0, rfl, hlt2, rfl, ?_⟩
  refine ⟨.string ⟨(linesL.getD i []).toArray⟩, cell_of_block (M2.get 0 rfl) (by
    rw [List.getElem?_toArray]
    simp only [strs, List.map_map, List.getElem?_map, Nat.zero_add, Nat.mul_one, List.getElem?_eq_getElem hll, List.getD_eq_getElem?_getD]
    rfl), ?_⟩
  have hrs := Read_spec ⟨(linesL.getD i []).toArray⟩ (by rw [mk_size]; omega) w2 (T.ext M2.ext)
  rw [hread] at hrs
  generalize linesL.getD i [] = ln at *
  generalize sampleL.getD i factZ = x at *
  refine hrs.mono ?_
  rintro u w3 ⟨rfl, e3⟩
  have M3 := M2.grow e3
  intro g4 w4 h4
  have M4 := M3.alloc h4
  refine ⟨rfl, _, _, M4.get 0 rfl, Nat.le_of_ble_eq_true rfl, rfl, ?_⟩
  intro w5 h5
  have M5 : Mem w w5 [(g4, .cells x.cells.toArray 29 (0, 0)), (g8, .cells (strs (linesL.map fun l => ⟨l.toArray⟩)).toArray 9 (0, 0))] := M4.put 0 rfl h5
  have e25 : Ext w2 w5 := e3.trans (h5.ext_of h4.ext (by rw [h4.new]; exact Nat.le_refl _))
  have ho5 := ho.ext e25
  obtain ⟨A5, c5, rfl, hf5⟩ := ho5.hf fun y hy => sample_nums y (List.mem_of_mem_take hy)
  refine ⟨x.cells, rfl, M5.rd 0 rfl, ?_⟩
  have hap := Append_spec hf5 (by rw [List.length_take]; omega) hxn
  unfold appL at hap
  rw [happ, if_pos rfl, ← htk] at hap
  refine hap.weak.mono ?_
  rintro u w6 ⟨⟨r, rfl, hr⟩, e6⟩
  have M6 := M5.grow e6
  refine ⟨((i + 1 : Nat) : Int), fit ⟨by omega, by omega⟩, ?_⟩
  exact ⟨(i + 1, r), ⟨rfl, rfl, rfl, rfl, trivial⟩, ⟨hlt2, M6.tail, hr.base M5.ext.size⟩, by show 10 - (i + 1) < 10 - i; omega⟩

end Go.Proofs.YthpdkdmbfdmamaaGreatDoor

namespace Go.Proofs.YthpdkdmbfdmamaaGreatDoor
open Go.Eng Go.RowKit

set_option maxRecDepth 100000 in
theorem alive_spec (w : World) (T : Tabs w) : CallsW C.P 20 #[] w fun v w' => v = .bool true ∧ Ext w w' := by
  refine callsV_of Cw_ok (args := []) (plans := []) Tryz.func20 rfl Tryz.ntmps20 (by kernel_rfl) (Nat.le_of_ble_eq_true rfl) ?_
  refine (sample_spec w T).mono ?_
  rintro v w1 ⟨ho, e1⟩
  obtain ⟨A, c, rfl, hf⟩ := ho.hf sample_nums
  have hl : sampleL.length ≤ 2 ^ 20 := by rw [sample_length]; decide
  have hl2 : sampleL.length ≤ 2 ^ 19 := by rw [sample_length]; decide
  have s1 := Append_spec hf hl2 fact11_nums
  rw [al_app] at s1
  refine s1.weak.mono ?_
  rintro v w2 ⟨⟨r, rfl, _⟩, e2⟩
  have s2 := Recognised_spec (hf.ext e2) hl 10 9 2 1
  rw [al_rec] at s2
  refine s2.weak.mono ?_
  rintro v w3 ⟨rfl, e3⟩
  have e13 := e2.trans e3
  have s3 := Class_spec (hf.ext e13) hl 10 9 2 11 1
  rw [al_class] at s3
  refine s3.weak.mono ?_
  rintro v w4 ⟨rfl, e4⟩
  have e14 := e13.trans e4
  have s4 := Principal_spec (hf.ext e14) hl 30 39 13 ⟨by decide, by decide⟩
  rw [al_princ] at s4
  refine s4.weak.mono ?_
  rintro v w5 ⟨rfl, e5⟩
  have e15 := e14.trans e5
  have s5 := Letter_spec (hf.ext e15) hl 0 0 1 1 1
  rw [al_letter] at s5
  refine s5.weak.mono ?_
  rintro v w6 ⟨rfl, e6⟩
  have e16 := e15.trans e6
  have s6 := Turns_spec (hf.ext e16) hl 30
  rw [al_turns] at s6
  refine s6.weak.mono ?_
  rintro v w7 ⟨ho7, e7⟩
  have e17 := e16.trans e7
  obtain ⟨A7, c7, rfl, hr7, _⟩ := ho7.slice
  intro g8 w8 h8
  have s8 := SameInts_spec (xs := [0, 5, 7, 25, 40]) (ys := [0, 5, 7, 25, 40]) (c := c7) (d := 5) (hr7.ext h8.ext) (.inr ⟨g8, 0, rfl, Rd.of_block h8.here⟩) (by show 5 ≤ 9223372036854775807; omega)
  rw [decide_eq_true rfl] at s8
  refine s8.weak.mono ?_
  rintro v w9 ⟨rfl, rfl⟩
  have e19 := e17.trans h8.ext
  have s9 := Learned_spec (hf.ext e19) hl 30
  rw [al_learned] at s9
  refine s9.weak.mono ?_
  rintro v w10 ⟨ho10, e10⟩
  have e110 := e19.trans e10
  obtain ⟨A10, c10, rfl, hr10, _⟩ := ho10.slice
  intro g11 w11 h11
  have s11 := SameInts_spec (xs := [0, 10, 20, 30]) (ys := [0, 10, 20, 30]) (c := c10) (d := 4) (hr10.ext h11.ext) (.inr ⟨g11, 0, rfl, Rd.of_block h11.here⟩) (by show 4 ≤ 9223372036854775807; omega)
  rw [decide_eq_true rfl] at s11
  refine s11.weak.mono ?_
  rintro v w12 ⟨rfl, rfl⟩
  have e112 := e110.trans h11.ext
  have s12 := Holders_spec (hf.ext e112) hl 20 5 1 1
  rw [al_hold1] at s12
  refine s12.weak.mono ?_
  rintro v w13 ⟨ho13, e13'⟩
  have e113 := e112.trans e13'
  obtain ⟨A13, c13, rfl, hr13, _⟩ := ho13.slice
  intro g14 w14 h14
  have s14 := SameInts_spec (xs := [11]) (ys := [11]) (c := c13) (d := 1) (hr13.ext h14.ext) (.inr ⟨g14, 0, rfl, Rd.of_block h14.here⟩) (by show 1 ≤ 9223372036854775807; omega)
  rw [decide_eq_true rfl] at s14
  refine s14.weak.mono ?_
  rintro v w15 ⟨rfl, rfl⟩
  have e115 := e113.trans h14.ext
  have s15 := Holders_spec (hf.ext e115) hl 30 25 1 1
  rw [al_hold2] at s15
  refine s15.weak.mono ?_
  rintro v w16 ⟨ho16, e16'⟩
  have e116 := e115.trans e16'
  obtain ⟨A16, c16, rfl, hr16, _⟩ := ho16.slice
  intro g17 w17 h17
  have s17 := SameInts_spec (xs := [12]) (ys := [12]) (c := c16) (d := 1) (hr16.ext h17.ext) (.inr ⟨g17, 0, rfl, Rd.of_block h17.here⟩) (by show 1 ≤ 9223372036854775807; omega)
  rw [decide_eq_true rfl] at s17
  refine s17.weak.mono ?_
  rintro v w18 ⟨rfl, rfl⟩
  have e118 := e116.trans h17.ext
  have s18 := Alphabet_spec (hf.ext e118) hl 0 0 1 1
  rw [al_alpha] at s18
  refine s18.weak.mono ?_
  rintro v w19 ⟨ho19, e19'⟩
  have e119 := e118.trans e19'
  obtain ⟨A19, c19, rfl, hr19, _⟩ := ho19.slice
  intro g20 w20 h20
  have s20 := SameInts_spec (xs := [2, 1]) (ys := [2, 1]) (c := c19) (d := 2) (hr19.ext h20.ext) (.inr ⟨g20, 0, rfl, Rd.of_block h20.here⟩) (by show 2 ≤ 9223372036854775807; omega)
  rw [decide_eq_true rfl] at s20
  refine s20.weak.mono ?_
  rintro v w21 ⟨rfl, rfl⟩
  have e121 := e119.trans h20.ext
  have s21 := HoldsClass_spec (hf.ext e121) hl 10 9 11 1
  rw [al_least] at s21
  refine s21.weak.mono ?_
  rintro v w22 ⟨rfl, e22⟩
  have e122 := e121.trans e22
  have s22 := Credentials_spec (hf.ext e122) hl 30 6 12 2
  rw [al_cred] at s22
  refine s22.weak.mono ?_
  rintro v w23 ⟨rfl, e23⟩
  exact ⟨rfl, (e1.trans e122).trans e23⟩

end Go.Proofs.YthpdkdmbfdmamaaGreatDoor

namespace Go.Proofs.YthpdkdmbfdmamaaGreatDoor
open Go.Eng Go.RowKit Go.ChangeShapes Go.WideShapes Go.ChangeAt
open Go.ChangeMaps (open_string shut_string)

theorem own : ownKnob Tryz.prog.godebug = none := by kernel_rfl
theorem cells3 : Tryz.prog.cellsOf 3 = 1 := by kernel_rfl
theorem cells5 : Tryz.prog.cellsOf 5 = 1 := by kernel_rfl
theorem cells9 : Tryz.prog.cellsOf 9 = 1 := by kernel_rfl
theorem cellsF : Tryz.prog.cellsOf 29 = 9 := by kernel_rfl
theorem recFs : Tryz.prog.readableRec 22 = true := by kernel_rfl
theorem rowFs : (22 : TypeId) < Tryz.prog.types.size := of_decide_eq_true (by kernel_rfl)
theorem recF : Tryz.prog.readableRec 29 = true := by kernel_rfl
theorem rowF : (29 : TypeId) < Tryz.prog.types.size := of_decide_eq_true (by kernel_rfl)
theorem rec3 : Tryz.prog.readableRec 3 = true := by kernel_rfl
theorem row3 : (3 : TypeId) < Tryz.prog.types.size := of_decide_eq_true (by kernel_rfl)
theorem rec9 : Tryz.prog.readableRec 9 = true := by kernel_rfl
theorem row9 : (9 : TypeId) < Tryz.prog.types.size := of_decide_eq_true (by kernel_rfl)

theorem wf_u8 {a : Int} (h : (Lit.int .u8 a).wf = true) : 0 ≤ a ∧ a ≤ 255 := by
  simp [Lit.wf, IntKind.min, IntKind.max, IntKind.bits, IntKind.signed] at h
  omega
theorem list9 {l : List Value} (h : l.length = 9) : ∃ a b c d e f g h' i, l = [a, b, c, d, e, f, g, h', i] := by
  match l, h with
  | [a, b, c, d, e, f, g, h', i], _ => exact ⟨a, b, c, d, e, f, g, h', i, rfl⟩

/-! ### what is laid -/
theorem gPow : Tryz.prog.globalNamed "internal/strconv.uint64pow10" = some 3 := by kernel_rfl
theorem gPowT : (Tryz.prog.globals[3]?).map (·.type) = some 209 := by kernel_rfl
theorem gSyn : Tryz.prog.globalNamed "strconv.ErrSyntax" = some 1 := by kernel_rfl
theorem gSynT : (Tryz.prog.globals[1]?).map (·.type) = some 101 := by kernel_rfl
theorem gRng : Tryz.prog.globalNamed "strconv.ErrRange" = some 2 := by kernel_rfl
theorem gRngT : (Tryz.prog.globals[2]?).map (·.type) = some 101 := by kernel_rfl
theorem cells64 : Tryz.prog.cellsOf 179 = 1 := by kernel_rfl
theorem cells20 : Tryz.prog.cellsOf 209 = 20 := by kernel_rfl
theorem cellsES : Tryz.prog.cellsOf 216 = 1 := by kernel_rfl
theorem star : "*" ++ "errors.errorString" = "*errors.errorString" := by decide
theorem rowES (u : TypeId) (h : Tryz.prog.typeName? 3 u = some "*errors.errorString") : u = 214 :=
  typeName_ptr_named (nm := "errors.errorString") (by rw [star]; kernel_rfl) (by kernel_rfl) (by decide) u (by rw [star]; exact h)
theorem pow_data : (Rows.laid_internal_strconv_uint64pow10 : DataW Unit) = Lib.tabData .u64 Lib.pow10Tab := by kernel_rfl

abbrev laidL : List (String × DataW Unit) := Rows.factsCheckRow.laid
theorem tabs_of_laid {W : World} (h : laidMet Tryz.prog laidL W) : Tabs W := by
  have h2 : laidMet Tryz.prog (("internal/strconv.uint64pow10", Lib.tabData .u64 Lib.pow10Tab) :: laidL.tail.tail.tail) W := by
    rw [← pow_data]; exact h.tail.tail
  have h3 : laidMet Tryz.prog laidL.tail.tail.tail W := h2.tail
  have t1 := Lib.tabIs_of_head gPow gPowT Tryz.underlying209 Tryz.underlying179 cells64 cells20 h2
  obtain ⟨a0, s0, hv0, -, -, -⟩ := laid_sentinel h3 gRng gRngT Tryz.underlying101 rowES Tryz.underlying214 Tryz.underlying216 rfl rfl Tryz.underlying9 cellsES cells9
  obtain ⟨a1, s1, hv1, -, -, -⟩ := laid_sentinel h3.tail gSyn gSynT Tryz.underlying101 rowES Tryz.underlying214 Tryz.underlying216 rfl rfl Tryz.underlying9 cellsES cells9
  exact ⟨t1, ⟨_, _, by have h0 := World.var?_cell gSyn hv1 0; simpa using h0⟩, ⟨_, _, by have h0 := World.var?_cell gRng hv0 0; simpa using h0⟩⟩

abbrev synS : ByteArray := ⟨#[105, 110, 118, 97, 108, 105, 100, 32, 115, 121, 110, 116, 97, 120]⟩
abbrev rngS : ByteArray := ⟨#[118, 97, 108, 117, 101, 32, 111, 117, 116, 32, 111, 102, 32, 114, 97, 110, 103, 101]⟩
/-- So many blocks has the settled world. -/
noncomputable def low : Nat := (World.holding Tryz.prog default ⟨#[], #[], []⟩).heap.size
def litCells : DataW Unit → Array Value
  | .agg ds => (ds.map fun d => match d with | .lit (.int k n) => Value.int k n | _ => undef).toArray
  | _ => #[]
def setCells (cs : Array Value) : Obj → Obj
  | .cells _ t frozen => .cells cs t frozen
  | o => o
/-- A world that meets the condition. -/
noncomputable def laidWorld (os : Os) : World :=
  let w0 := World.holding Tryz.prog os ⟨#[.cells #[.string synS] 216, .cells #[.string rngS] 216], #[], []⟩
  { w0 with heap := ((((w0.heap.modify 1 (setCells #[.iface 214 (.pointer (some ⟨low, 0, none⟩))])).modify 2 (setCells #[.iface 214 (.pointer (some ⟨low + 1, 0, none⟩))])).modify 3 (setCells (litCells Rows.laid_internal_strconv_uint64pow10))).modify 4 (setCells (litCells Rows.laid_math_bits_deBruijn32tab))).modify 5 (setCells (litCells Rows.laid_math_bits_deBruijn64tab)) }
theorem laidWorld_met (os : Os) (args : Array Value) : laidMet Tryz.prog laidL ((laidWorld os).forCall (fun _ _ => 0) ⟨#[], args, []⟩).memory :=
  laidMet_of_run' 8 (by kernel_rfl) (by kernel_rfl)

section
variable {H : Type} {enc : TypeId × Value → H} {W : World}

set_option maxRecDepth 100000 in
/-- One fact: its cells. -/
theorem open_fcells {base n : Nat} {spare : Nat → Bool} {held : Bool} {cs : List Value} {x : DataW H × List MemPlace} (h : DataW.trod enc Tryz.prog W base spare held n 29 cs = some x) :
    ∃ y : Fact, cs = y.cells ∧ y.Nums := by
  obtain ⟨xs, n', _, _, hlen, hxs, hg⟩ := DataW.trod_struct underF h
  rw [cellsF] at hlen
  obtain ⟨a0, a1, a2, a3, a4, a5, a6, a7, a8, rfl⟩ := list9 hlen
  have some9 : ∀ i, i < 9 → ∃ y, xs[i]? = some y := fun i hi => ⟨_, List.getElem?_eq_getElem (by rw [hxs]; exact hi)⟩
  have get3 : ∀ (i : Nat) (u : Value) (f : Field), (#[⟨ "Id", 3, 0, false, "", "", 0⟩, ⟨ "Known", 3, 1, false, "", "", 8⟩, ⟨ "Kind", 5, 2, false, "", "", 16⟩, ⟨ "Who", 3, 3, false, "", "", 24⟩, ⟨ "What", 3, 4, false, "", "", 32⟩, ⟨ "Other", 3, 5, false, "", "", 40⟩, ⟨ "Since", 3, 6, false, "", "", 48⟩, ⟨ "Until", 3, 7, false, "", "", 56⟩, ⟨ "Name", 9, 8, false, "", "", 64⟩] : Array Field)[i]? = some f → f.type = 3 → i < 9 →
      ((([a0, a1, a2, a3, a4, a5, a6, a7, a8] : List Value).drop f.offset).take 1) = [u] → ∃ z : Int, u = .int .i64 z ∧ In64 z := by
    intro i u f hi h3 hi9 hu
    have := hg i f hi
    rw [h3, cells3, hu] at this
    obtain ⟨y, hy⟩ := some9 i hi9
    rw [hy] at this
    obtain ⟨z, e1, _, wz⟩ := DataW.trod_int under3 this
    simp at e1
    exact ⟨z, e1, wf_in64 wz⟩
  obtain ⟨z0, rfl, w0⟩ := get3 0 a0 _ rfl rfl (by omega) rfl
  obtain ⟨z1, rfl, w1⟩ := get3 1 a1 _ rfl rfl (by omega) rfl
  obtain ⟨z3, rfl, w3⟩ := get3 3 a3 _ rfl rfl (by omega) rfl
  obtain ⟨z4, rfl, w4⟩ := get3 4 a4 _ rfl rfl (by omega) rfl
  obtain ⟨z5, rfl, w5⟩ := get3 5 a5 _ rfl rfl (by omega) rfl
  obtain ⟨z6, rfl, w6⟩ := get3 6 a6 _ rfl rfl (by omega) rfl
  obtain ⟨z7, rfl, w7⟩ := get3 7 a7 _ rfl rfl (by omega) rfl
  have h2 : DataW.trod enc Tryz.prog W base spare held n' 5 ((([.int .i64 z0, .int .i64 z1, a2, .int .i64 z3, .int .i64 z4, .int .i64 z5, .int .i64 z6, .int .i64 z7, a8] : List Value).drop 2).take (Tryz.prog.cellsOf 5)) = xs[2]? := hg 2 ⟨ "Kind", 5, 2, false, "", "", 16⟩ rfl
  have h8 : DataW.trod enc Tryz.prog W base spare held n' 9 ((([.int .i64 z0, .int .i64 z1, a2, .int .i64 z3, .int .i64 z4, .int .i64 z5, .int .i64 z6, .int .i64 z7, a8] : List Value).drop 8).take (Tryz.prog.cellsOf 9)) = xs[8]? := hg 8 ⟨ "Name", 9, 8, false, "", "", 64⟩ rfl
  obtain ⟨y2, hy2⟩ := some9 2 (by omega)
  obtain ⟨y8, hy8⟩ := some9 8 (by omega)
  rw [cells5, hy2] at h2
  rw [cells9, hy8] at h8
  obtain ⟨z2, e2, _, w2⟩ := DataW.trod_int under5 h2
  obtain ⟨s8, e8, _, w8⟩ := DataW.trod_string under9 h8
  simp at e2 e8
  subst e2 e8
  exact ⟨⟨z0, z1, z2, z3, z4, z5, z6, z7, s8⟩, rfl, ⟨w0, w1, wf_u8 w2, w3, w4, w5, w6, w7, by simpa [maxLen] using w8⟩⟩

set_option maxRecDepth 100000 in
theorem open_fact {v : Value} {d : DataW H} {p : List MemPlace} {b0 : Nat} (hv : Value.okWide Tryz.prog W .any b0 29 v) (h : DataW.Trod enc Tryz.prog W 0 (fun _ => true) true 29 v d p) :
    ∃ y : Fact, v = y.val ∧ y.Nums := by
  obtain ⟨cs, rfl, hsz⟩ := okWide_struct underF hv
  obtain ⟨fuel, hf⟩ := h
  obtain ⟨y, hy, hn⟩ := open_fcells hf
  refine ⟨y, ?_, hn⟩
  show Value.agg cs = Value.agg _
  congr 1
  apply Array.ext'
  exact hy

theorem fcells_range (f : Nat → Fact) (n i : Nat) (v : Value) (h : (fcells ((List.range n).map f))[i]? = some v) : ∃ k j, k < n ∧ j < 9 ∧ i = k * 9 + j ∧ (f k).cells[j]? = some v := by
  have hl := fcells_length ((List.range n).map f)
  have hi := (List.getElem?_eq_some_iff.1 h).1
  rw [hl] at hi
  simp at hi
  have hk : i / 9 < ((List.range n).map f).length := by simp; omega
  have hj : i % 9 < 9 := Nat.mod_lt _ (by omega)
  refine ⟨i / 9, i % 9, by simpa using hk, hj, by omega, ?_⟩
  have := flat_get Fact.len ((List.range n).map f) (i / 9) (i % 9) hk hj
  rw [show i / 9 * 9 + i % 9 = i by omega] at this
  have h2 : ((List.range n).map f).flatMap Fact.cells = fcells ((List.range n).map f) := rfl
  rw [h2, h] at this
  rw [this]
  simp

set_option maxRecDepth 100000 in
theorem open_facts {v : Value} {d : DataW H} {p : List MemPlace} {b0 : Nat} (hv : Value.okWide Tryz.prog W .any b0 22 v) (h : DataW.Trod enc Tryz.prog W 0 (fun _ => true) true 22 v d p) :
    ∃ A l c, v = .slice A l.length c ∧ HF W A l c := by
  obtain ⟨a0, len0, cap0, rfl⟩ := okWide_slice underFs hv
  obtain ⟨fuel, hf⟩ := h
  rcases Deep.open_slice underFs hf with ⟨e1, _⟩ | ⟨a, len, cap, m, n, D, Pl, e1, hb, hl, hm, hmm, _, hx⟩
  · simp [Value.cells] at e1
    obtain ⟨rfl, rfl, rfl⟩ := e1
    exact ⟨none, [], 0, rfl, by simp, .inl rfl, Nat.le_refl _, by simp⟩
  · simp [Value.cells] at e1
    obtain ⟨rfl, rfl, rfl⟩ := e1
    have hmm : m = cap0 := by simpa using hmm
    subst hmm
    rw [cellsF] at hx
    obtain ⟨f, hf2⟩ := Deep.choose_lt (p := fun i (y : Fact) => W.cells? 0 (a.add (i * 9)) 9 = some y.cells ∧ y.Nums) (fun i hi => by
      obtain ⟨cs', h1, h2⟩ := hx i hi
      obtain ⟨y, rfl, hy⟩ := open_fcells h2
      exact ⟨y, h1, hy⟩)
    have hlen : ((List.range len0).map f).length = len0 := by simp
    refine ⟨some a, (List.range len0).map f, m, by rw [hlen], ?_, ?_, by rw [hlen]; exact hl, by rw [hlen]; simp only [maxLen] at hm; omega⟩
    · intro x hx
      obtain ⟨i, hi, rfl⟩ := List.mem_map.1 hx
      exact (hf2 i (by have := List.mem_range.1 hi; omega)).2
    · by_cases h0 : len0 = 0
      · subst h0; exact .inl rfl
      · have hc : ∀ i < len0, ∀ j < 9, W.cell? ((a.add (i * 9)).add j) = (f i).cells[j]? := fun i hi j hj => (World.cells?_some (hf2 i (by omega)).1).2.2 j hj
        have hs : a.spot = none := by
          have := hc 0 (by omega) 0 (by omega)
          have h2 : W.cell? ((a.add (0 * 9)).add 0) = some (.int .i64 (f 0).id) := this
          unfold World.cell? at h2
          cases hsp : a.spot with
          | none => rfl
          | some s =>
            have ea : (a.add (0 * 9)).add 0 = a := rfl
            rw [ea] at h2
            simp only [hsp] at h2
            split at h2 <;> simp at h2
        obtain ⟨b, o, sp⟩ := a
        simp only at hs
        subst hs
        refine .inr ⟨b, o, rfl, fun i v hv => ?_⟩
        obtain ⟨k, j, hk, hj, rfl, hg⟩ := fcells_range f len0 i v hv
        have := hc k hk j hj
        rw [hg] at this
        rw [← this]
        rw [add_spot, add_spot, Nat.add_assoc]
end

end Go.Proofs.YthpdkdmbfdmamaaGreatDoor
