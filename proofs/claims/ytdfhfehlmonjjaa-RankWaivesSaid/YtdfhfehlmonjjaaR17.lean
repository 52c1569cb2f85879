/- stands. -/
import Derived.Test.YtdfhfehlmonjjaaR16
namespace Go.Proofs.Ytdfhfehlmonjjaa
open Go.Eng Go.RowKit

theorem exX_nums : ∀ x ∈ exX, In64 x.fr ∧ In64 x.to ∧ In64 x.rule ∧ In64 x.wt := by decide
theorem exW_nums : ∀ x ∈ exW, In64 x.fr ∧ In64 x.to ∧ In64 x.rule ∧ In64 x.wt := by decide

theorem SameInts_yes {w : World} {A B : Option Addr} {xs : List Int} {c d : Nat} (hx : Reads w A (ints xs)) (hy : Reads w B (ints xs)) (hl : xs.length ≤ 9223372036854775807) :
    CallsV C.P 32 #[.slice A xs.length c, .slice B xs.length d] w fun v w' => v = .bool true ∧ Ext w w' :=
  (SameInts_spec hx hy hl).mono fun v w' h => ⟨by rw [h.1, decide_eq_true rfl], h.2⟩

theorem eq58_yes (x y : Operand) (p : Int × Int) : EqIs C.P .eql 58 x y (prVal p) (prVal p) true := by
  have := eq58 x y p p
  rwa [decide_eq_true rfl] at this

theorem reads_block {w : World} {g t : Nat} {cs : List Value} (h : w.heap[g]? = some (.cells cs.toArray t (0, 0))) : Reads w (some ⟨g, 0, none⟩) cs := .inr ⟨g, 0, rfl, Rd.of_block h⟩

set_option maxRecDepth 100000 in
theorem stands_spec (w : World) : CallsV C.P 16 #[] w fun v w' => v = .bool true ∧ Ext w w' := by
  refine callsV_of C_ok (args := []) (plans := []) Try.func16 rfl Try.ntmps16 (by kernel_rfl) (Nat.le_of_ble_eq_true rfl) ?_
  refine (sample_spec w).mono ?_
  rintro v w1 ⟨hn, e1⟩
  obtain ⟨A, c, rfl, hX1⟩ := hn.hrel (by decide) exX_nums (by decide)
  intro g1 w2 h2
  refine ⟨rfl, _, _, h2.here, Nat.le_of_ble_eq_true rfl, rfl, ?_⟩
  intro w3 h3
  have e13 : Ext w1 w3 := h3.ext_of h2.ext (by rw [h2.new]; exact Nat.le_refl _)
  have e3 : Ext w w3 := e1.trans e13
  have hX : HRel w3 4 A exX c := hX1.ext e13
  have hR : Rd w3 g1 0 [.int .i64 4, .slice A exX.length c] := Rd.of_block h3.here
  -- the chains
  refine ⟨[.int .i64 4, .slice A exX.length c], rfl, hR, ?_⟩
  refine (Chain_spec hX 0 3).mono ?_
  rintro v w4 hc4
  rw [ex_chain03] at hc4
  obtain ⟨⟨s4, rfl, hl4⟩, e4⟩ := hc4
  obtain ⟨A4, c4, rfl, hr4, _⟩ := hl4.slice
  refine ⟨[.int .i64 4, .slice A exX.length c], rfl, hR.ext e4, ?_⟩
  refine (Chain_spec (hX.ext e4) 1 1).mono ?_
  rintro v w5 hc5
  rw [ex_chain11] at hc5
  obtain ⟨⟨s5, rfl, hl5⟩, e5⟩ := hc5
  obtain ⟨A5, c5, rfl, hr5, _⟩ := hl5.slice
  have e35 := e4.trans e5
  refine ⟨[.int .i64 4, .slice A exX.length c], rfl, hR.ext e35, ?_⟩
  refine (Chain_spec (hX.ext e35) 3 0).mono ?_
  rintro v w6 hc6
  rw [ex_chain30] at hc6
  obtain ⟨rfl, e6⟩ := hc6
  have e36 := e35.trans e6
  -- the components
  refine ⟨[.int .i64 4, .slice A exX.length c], rfl, hR.ext e36, ?_⟩
  refine (Components_spec (hX.ext e36)).mono ?_
  rintro v w7 ⟨hl7, e7⟩
  rw [exX_comps] at hl7
  obtain ⟨A7, c7, us7, rfl, hr7⟩ := hl7.read
  have e37 := e36.trans e7
  -- waived
  refine ⟨[.int .i64 4, .slice A exX.length c], rfl, hR.ext e37, ?_⟩
  intro g38 w8 h8
  have e38 := e37.trans h8.ext
  refine (Waive_spec (ps := [(2, 1)]) (hX.ext e38) (by decide) (by decide) (.inr ⟨g38, 0, rfl, Rd.of_block h8.here⟩) (by decide)).mono ?_
  rintro v w9 ⟨⟨u9, hv9, hn9⟩, e9⟩
  rw [exX_valid] at hv9
  subst hv9
  rw [exX_valid, if_pos rfl, if_pos rfl, ex_waive] at hn9
  obtain ⟨A9, c9, rfl, hW9⟩ := hn9.hrel (by decide) exW_nums (by decide)
  have e39 := e38.trans e9
  intro g9 w10 h10
  refine ⟨rfl, _, _, h10.here, Nat.le_of_ble_eq_true rfl, rfl, ?_⟩
  intro w11 h11
  have e911 : Ext w9 w11 := h11.ext_of h10.ext (by rw [h10.new]; exact Nat.le_refl _)
  have e311 := e39.trans e911
  have hW : HRel w11 4 A9 exW c9 := hW9.ext e911
  have hRW : Rd w11 g9 0 [.int .i64 4, .slice A9 exW.length c9] := Rd.of_block h11.here
  -- settled
  refine ⟨[.int .i64 4, .slice A9 exW.length c9], rfl, hRW, ?_⟩
  refine (Settled_spec hW).mono ?_
  rintro v w12 ⟨⟨u12, hv12, hl12⟩, e12⟩
  rw [exW_settled.1] at hv12
  subst hv12
  rw [exW_settled.2] at hl12
  obtain ⟨A12, c12, rfl, hr12, _⟩ := hl12.slice
  have e312 := e311.trans e12
  -- changed
  refine ⟨[.int .i64 4, .slice A exX.length c], rfl, hR.ext e312, ?_⟩
  refine ⟨[.int .i64 4, .slice A9 exW.length c9], rfl, hRW.ext e12, ?_⟩
  refine (Changed_spec (hX.ext e312) (hW.ext e12)).mono ?_
  rintro v w13 ⟨⟨u13, hv13, hp13⟩, e13'⟩
  rw [ex_changedE] at hv13
  subst hv13
  rw [ex_changedL] at hp13
  obtain ⟨A13, c13, rfl, hr13, _⟩ := reads_of_owns hp13
  have e313 := e312.trans e13'
  -- the standings
  have hX13 := hX.ext e313
  refine ⟨[.int .i64 4, .slice A exX.length c], rfl, hR.ext e313, ?_⟩
  refine (Standing_spec hX13 0 3).mono ?_
  rintro v w14 ⟨hv14, e14⟩
  rw [ex_stand03] at hv14
  subst hv14
  have hX14 := hX13.ext e14
  refine ⟨[.int .i64 4, .slice A exX.length c], rfl, hR.ext (e313.trans e14), ?_⟩
  refine (Standing_spec hX14 3 0).mono ?_
  rintro v w15 ⟨hv15, e15⟩
  rw [ex_stand30] at hv15
  subst hv15
  have hX15 := hX14.ext e15
  have e315 := (e313.trans e14).trans e15
  refine ⟨[.int .i64 4, .slice A exX.length c], rfl, hR.ext e315, ?_⟩
  refine (Standing_spec hX15 1 2).mono ?_
  rintro v w16 ⟨hv16, e16⟩
  rw [ex_stand12] at hv16
  subst hv16
  have e316 := e315.trans e16
  -- the lists
  intro g17 w17 h17
  have e317 := e316.trans h17.ext
  have e417 : Ext w4 w17 := ((((((((((e5.trans e6).trans e7).trans h8.ext).trans e9).trans e911).trans e12).trans e13').trans e14).trans e15).trans e16).trans h17.ext
  refine (SameInts_yes (xs := [0, 1, 2, 3]) (hr4.ext e417) (reads_block h17.here) (by decide)).mono ?_
  rintro v w18 ⟨rfl, e18⟩
  intro g19 w19 h19
  have e519 : Ext w5 w19 := (((((((((((e6.trans e7).trans h8.ext).trans e9).trans e911).trans e12).trans e13').trans e14).trans e15).trans e16).trans h17.ext).trans e18).trans h19.ext
  refine (SameInts_yes (xs := [1, 2, 1]) (hr5.ext e519) (reads_block h19.here) (by decide)).mono ?_
  rintro v w20 ⟨rfl, e20⟩
  intro g21 w21 h21
  have e1721 : Ext w17 w21 := ((e18.trans h19.ext).trans e20).trans h21.ext
  have e1217 : Ext w12 w17 := (((e13'.trans e14).trans e15).trans e16).trans h17.ext
  refine (SameInts_yes (xs := [0, 1, 2, 3]) (hr12.ext (e1217.trans e1721)) (reads_block h21.here) (by decide)).mono ?_
  rintro v w22 ⟨rfl, e22⟩
  have e722 : Ext w7 w22 := ((((((h8.ext.trans e9).trans e911).trans e12).trans e1217).trans e1721)).trans e22
  have hr22 := hr7.ext e722
  obtain ⟨A', c', hu, hrow⟩ := hr22.row 1 (by decide)
  rcases hr22.reads with h0 | ⟨b, o, hA, hrd⟩
  · rw [h0] at hu; simp at hu
  refine ⟨1, b, o, rfl, (by decide : 1 < 3), hA, ?_⟩
  refine ⟨_, by simpa using hrd 1 _ hu, ?_⟩
  intro g23 w23 h23
  refine (SameInts_yes (xs := [1, 2]) (hrow.ext h23.ext) (reads_block h23.here) (by decide)).mono ?_
  rintro v w24 ⟨rfl, e24⟩
  have e1324 : Ext w13 w24 := ((((((e14.trans e15).trans e16).trans h17.ext).trans e1721).trans e22).trans h23.ext).trans e24
  -- the pair
  obtain ⟨b2, o2, hA2, hrd2⟩ := Reads.pair (ps := [((1 : Int), (2 : Int))]) (hr13.ext e1324) (i := 0) (by decide)
  refine ⟨0, b2, o2, rfl, (by decide : 0 < 1), hA2, ?_⟩
  refine ⟨[.int .i64 1, .int .i64 2], rfl, hrd2, ?_⟩
  refine ⟨true, eq58_yes _ _ (1, 2), ?_⟩
  have e324 : Ext w3 w24 := e313.trans e1324
  refine ⟨[.int .i64 4, .slice A exX.length c], rfl, hR.ext e324, ?_⟩
  intro g25 w25 h25
  refine (CheckChain_spec (hX.ext (e324.trans h25.ext)) 1 3 (l := [1, 2, 1, 2, 3]) (reads_block h25.here) (by decide)).mono ?_
  rintro v w26 ⟨hv26, e26⟩
  rw [ex_check] at hv26
  subst hv26
  exact ⟨rfl, ((e3.trans e324).trans h25.ext).trans e26⟩

end Go.Proofs.Ytdfhfehlmonjjaa
