/- Proved: for every list of facts, operations, waiver and days the law DuesEnds returns true, and its arguments read behind the call as they did before; what the library's variables hold is tied to the program's text. No further condition. -/
import Derived.Test.YtcnbpfecgokhiaaGreatDoorDYc
import Derived.Test.YtcnbpfecgokhiaaGreatDoorDTc
import Derived.Test.YtcnbpfecgokhiaaGreatDoorDKa
set_option linter.unusedVariables false
set_option linter.unusedSimpArgs false
set_option linter.unnecessarySimpa false
set_option linter.unusedSectionVars false
namespace Go.Proofs.YtcnbpfecgokhiaaGreatDoor
open Go.Eng Go.RowKit

set_option maxRecDepth 100000 in
theorem DuesEnds_spec {w : World} {A B : Option Addr} {f : List Fact} {s : List Opn} {c d : Nat} (hf : HF w A f c) (hs : HL Opn.cells w B s d) (hn : ∀ o ∈ s, o.Nums) (T : TabP w) {id en : Int} (h1 : In64 id) (h2 : In64 en) (day : Int) :
    CallsV C.P 5 #[.slice A f.length c, .slice B s.length d, .int .i64 id, .int .i64 en, .int .i64 day] w fun v w' => v = .bool true ∧ Ext w w' := by
  refine callsV_of C_ok (args := [_, _, _, _, _]) (plans := []) Tryz.func5 rfl Tryz.ntmps5 (by kernel_rfl) (Nat.le_of_ble_eq_true rfl) ?_
  refine (few_spec hf hs.cap).mono ?_
  rintro v w1 ⟨⟨b, rfl, hb⟩, rfl⟩
  refine brE_mk (fun c1 => ?_) (fun c1 => ?_)
  · refine (grants_spec w1 T).mono ?_
    rintro v w2 ⟨rfl, e2⟩
    exact ⟨rfl, e2⟩
  obtain ⟨hfl, hsl⟩ := hb (by simpa using c1)
  refine (built_spec hf (by omega) hs (by omega) hn).mono ?_
  rintro v w2 ⟨l, rfl, n2⟩
  have hlen := (acc_built f s).2
  have hacc := (acc_built f s).1
  generalize builtL f s = es at *
  refine (Waivers_spec n2.is (by omega) day).mono ?_
  rintro v w3 ⟨h3, e3⟩
  obtain ⟨A3, c3, rfl, hr3⟩ := h3.hl
  have n3 := n2.then e3
  refine (among_spec hr3 id).mono ?_
  rintro v w4 ⟨rfl, rfl⟩
  refine (End_spec n3.is (by omega) h2 h1 f).mono ?_
  rintro v w5 ⟨rfl, hgo⟩
  obtain ⟨l5, hl5, n5⟩ := n3.go hgo
  have hal := add_length (doF f es (endE en id)) es (endE en id)
  have W5 := Waivers_spec n5.is (by omega) day
  rw [ptr_eq hl5] at W5
  refine W5.mono ?_
  rintro v w6 ⟨h6, e6⟩
  obtain ⟨A6, c6, rfl, hr6⟩ := h6.hl
  have n6 := n5.then e6
  refine (among_spec hr6 id).mono ?_
  rintro v w7 ⟨rfl, rfl⟩
  have hno : doF f es (endE en id) ≠ 0 → addL (doF f es (endE en id)) es (endE en id) = es := fun h => if_neg h
  have hyes : doF f es (endE en id) = 0 → amongB (waiversAt (addL (doF f es (endE en id)) es (endE en id)) day) id = (amongB (waiversAt es day) id && decide (day < en)) := fun h => ends_yes hacc h
  generalize addL (doF f es (endE en id)) es (endE en id) = es' at *
  generalize doF f es (endE en id) = e at *
  refine brE_ndec (fun c2 => ?_) (fun c2 => ?_)
  · have c2 : e ≠ 0 := c2
    refine (grants_spec w7 (tabP_ext T n6.ext)).mono ?_
    rintro v w8 ⟨rfl, e8⟩
    refine ⟨_, eqBool _ _ _ _, ?_⟩
    refine ⟨congrArg _ ?_, n6.ext.trans e8⟩
    rw [hno c2]; exact beq_self_eq_true _
  · have c2 : e = 0 := c2
    have hy := hyes c2
    refine (grants_spec w7 (tabP_ext T n6.ext)).mono ?_
    rintro v w8 ⟨rfl, e8⟩
    generalize amongB (waiversAt es' day) id = a1 at *
    generalize amongB (waiversAt es day) id = a2 at *
    refine brE_mk (fun c3 => ?_) (fun c3 => ?_)
    · refine ⟨_, eqBool _ _ _ _, ?_⟩
      refine ⟨congrArg _ ?_, n6.ext.trans e8⟩
      rw [hy, c3, Bool.true_and]; exact beq_self_eq_true _
    · refine ⟨_, eqBool _ _ _ _, ?_⟩
      refine ⟨congrArg _ ?_, n6.ext.trans e8⟩
      rw [hy, c3, Bool.false_and]; exact beq_self_eq_true _

end Go.Proofs.YtcnbpfecgokhiaaGreatDoor

namespace Go.Proofs.YtcnbpfecgokhiaaGreatDoor
open Go.Eng Go.RowKit Go.ChangeShapes Go.WideShapes Go.ChangeAt
open Go.ChangeMaps (open_string shut_string)

set_option maxRecDepth 100000 in
theorem duesEnds_lifted (os : Os) (started : os.Started) (H : Type) (enc : TypeId × Value → H) :
    ReturnsInHanded {} Tryz.checked os 5 .any (fun w args => (Rows.duesEndsSpec.pre enc Tryz.prog Tryz.f5 Rows.duesEndsRow.domain false w args ∧ laidMet Tryz.prog laidL w) ∧ sizedMet enc Tryz.prog Tryz.f5 (OpenSpec.ofChange Rows.duesEndsSpec) false w args)
      (Rows.duesEndsSpec.post enc Tryz.prog Tryz.f5 false true false false) := by
  refine returnsInHanded_of_change_and (C := Tryz.checked) (X := fun w _ => laidMet Tryz.prog laidL w) (fun _ _ _ hh h => h.of_heap hh) own started (by kernel_rfl) Tryz.func5
    (ChangeSpec.witness_at (enc := enc) (C := Tryz.checked) (os := os) (X := fun w _ => laidMet Tryz.prog laidL w) false (laidWorld os) #[.slice none 0 0, .slice none 0 0, .int .i64 0, .int .i64 0, .int .i64 0] 8 rfl (by kernel_rfl) (by kernel_rfl) (by kernel_rfl) (by kernel_rfl) (by kernel_rfl) (laidWorld_met os _)) ?_
  intro W base args ds gs before hval0 hW _ hsz0 hL _
  have T := tabs_of_laid hL
  have hval : ∀ (j : Nat) t v, Tryz.f5.params[j]? = some t → args[j]? = some v → Value.okWide Tryz.prog W .any base t v := hval0
  have hW' := hW
  obtain ⟨p, q, hA0, hV, rfl, hfz, hnd⟩ := hW
  have hA : DataW.TrodAll enc Tryz.prog W 0 (fun _ => true) true [22, 23, 3, 3, 3] args.toList ds p := hA0
  obtain ⟨v0, v1, v2, v3, v4, d0, d1, d2, d3, d4, p0, p1, p2, p3, p4, rfl, rfl, rfl, h0, h1, h2, h3, h4⟩ := trodAll_n5 hA
  obtain ⟨rfl, rfl⟩ := trodVars_none hV
  obtain ⟨A0, l0, c0, rfl, hf0⟩ := open_facts (hval 0 22 v0 rfl rfl) h0
  obtain ⟨A1, l1, c1, rfl, hs1, ns1⟩ := open_list Opn.len (by omega) (fun y => ⟨.u8, _, rfl⟩) underOs cellsO open_cO (hval 1 23 v1 rfl rfl) h1
  obtain ⟨i2, rfl, _, _, wf2⟩ := open_int under3 (hval 2 3 v2 rfl rfl) h2
  obtain ⟨i3, rfl, _, _, wf3⟩ := open_int under3 (hval 3 3 v3 rfl rfl) h3
  obtain ⟨i4, rfl, _, _, wf4⟩ := open_int under3 (hval 4 3 v4 rfl rfl) h4
  refine (DuesEnds_spec hf0 hs1 ns1 T (wf_in64 wf2) (wf_in64 wf3) i4 W (Same.refl W)).mono ?_
  rintro e W' ⟨⟨v, w'', rfl, ⟨rfl, he⟩, hs⟩, _⟩
  have he' : Ext W W' := he.same_right hs
  refine ⟨_, rfl, ?_⟩
  refine ⟨[d0, d1, d2, d3, d4], [], (p0 ++ (p1 ++ (p2 ++ (p3 ++ (p4))))) ++ [], [], p0 ++ (p1 ++ (p2 ++ (p3 ++ (p4)))), [], hW', ?_, ?_, rfl, Below.frame he' _, fun h => by cases h⟩
  · exact trodAll_mk1 (shut_bool under4 true)
  · exact trodAll_mkn5 (Below.trod laidOut recFs rowFs h0 he' fun x hx => hW'.lt x (by simp [hx])) (Below.trod laidOut recOs rowOs h1 he' fun x hx => hW'.lt x (by simp [hx])) (Below.trod laidOut rec3 row3 h2 he' fun x hx => hW'.lt x (by simp [hx])) (Below.trod laidOut rec3 row3 h3 he' fun x hx => hW'.lt x (by simp [hx])) (Below.trod laidOut rec3 row3 h4 he' fun x hx => hW'.lt x (by simp [hx]))

set_option maxHeartbeats 4000000 in
theorem duesEnds_closed : joinedFacts Tryz.pinned.checked.prog 5 Tryz.f5 Rows.duesEndsSpec Rows.duesEndsRow = true := by
  unfold joinedFacts
  iterate 31 refine Bool.and_eq_true_iff.2 ⟨?_, ?_⟩
  · as_aux_lemma => kernel_rfl
  · exact kLaid
  · exact kMaps
  · as_aux_lemma => kernel_rfl
  · as_aux_lemma => kernel_rfl
  · as_aux_lemma => kernel_rfl
  · exact kStops
  · as_aux_lemma => kernel_rfl
  · exact kKnobs
  · as_aux_lemma => kernel_rfl
  · as_aux_lemma => kernel_rfl
  · as_aux_lemma => kernel_rfl
  · as_aux_lemma => kernel_rfl
  · as_aux_lemma => kernel_rfl
  · as_aux_lemma => kernel_rfl
  · as_aux_lemma => kernel_rfl
  · as_aux_lemma => kernel_rfl
  · as_aux_lemma => kernel_rfl
  · as_aux_lemma => kernel_rfl
  · as_aux_lemma => kernel_rfl
  · as_aux_lemma => kernel_rfl
  · as_aux_lemma => kernel_rfl
  · exact beq_iff_eq.2 kPlain.symm
  · as_aux_lemma => kernel_rfl
  · exact kHeard
  · exact kEnter
  · exact beq_iff_eq.2 kLifts.symm
  · as_aux_lemma => kernel_rfl
  · as_aux_lemma => kernel_rfl
  · as_aux_lemma => kernel_rfl
  · as_aux_lemma => kernel_rfl
  · as_aux_lemma => kernel_rfl

theorem duesEnds_named : Tryz.pinned.checked.prog.funcNamed Rows.duesEndsRow.func = some 5 := by kernel_rfl
theorem duesEnds_func : Tryz.pinned.checked.prog.funcs[5]? = some Tryz.f5 := Tryz.func5
theorem duesEnds_inst : Tryz.f5.isInstance Tryz.pinned.checked.prog Rows.duesEndsRow.origin Rows.duesEndsRow.targs := of_decide_eq_true (by kernel_rfl)
theorem duesEnds_wrap : Tryz.f5.isWrapper Tryz.pinned.checked.prog Rows.duesEndsRow.wrapper Rows.duesEndsRow.mainSum := by
  unfold Func.isWrapper; first | (rw [if_pos (by decide +kernel)]; kernel_rfl) | (rw [if_neg (by decide +kernel)]; exact ⟨rfl, rfl⟩)
theorem duesEnds_text : Rows.duesEndsRow.wfByText (OpenSpec.ofChange Rows.duesEndsSpec) = true := by kernel_rfl
theorem duesEnds_main : Tryz.pinned.checked.prog.mainIs = some (Rows.duesEndsCard.stood.harness.1, Rows.duesEndsCard.stood.harness.2.toList) := by kernel_rfl
theorem duesEnds_looks : true = Tryz.pinned.checked.prog.looks [] := by kernel_rfl
theorem duesEnds_goes : false = Rows.duesEndsRow.goesBy Tryz.pinned.checked.prog := by kernel_rfl
theorem duesEnds_stand : (Tryz.f5.params.toList.all fun t => !Tryz.pinned.checked.prog.wantsStandIn t) = true := by kernel_rfl

theorem duesEnds_holds : Rows.DuesEndsSaid :=
  OpenClaim.holds_of_wide 5 Tryz.f5 rfl rfl rfl rfl rfl rfl rfl ⟨rfl, rfl, rfl, rfl, rfl⟩ rfl rfl rfl rfl rfl duesEnds_named duesEnds_func duesEnds_closed duesEnds_inst duesEnds_wrap
    (fun os started H enc _ => duesEnds_lifted os started H enc)

theorem duesEnds : Rows.DuesEndsCardSaid :=
  Claim7.holds_tied_plain_at .later [] [.data, .data, .data] true Rows.duesEndsCard.stood.harness true
    duesEnds_holds (fun _ h => by cases h) duesEnds_text (fun _ h => by cases h) duesEnds_row_tie rfl ⟨rfl, rfl⟩ duesEnds_main rfl
    (fun f fn hf hfn => by
      obtain rfl : f = 5 := Option.some.inj (duesEnds_named.symm.trans hf) |>.symm
      obtain rfl : fn = Tryz.f5 := (Option.some.inj (duesEnds_func.symm.trans hfn)).symm
      refine ⟨duesEnds_looks, fun j t ht => ?_⟩
      have hm : t ∈ Tryz.f5.params.toList := by
        have := Array.mem_of_getElem? ht
        simpa using this
      exact Bool.not_eq_true' _ |>.mp (List.all_eq_true.1 duesEnds_stand t hm))
    duesEnds_goes

#print axioms duesEnds
end Go.Proofs.YtcnbpfecgokhiaaGreatDoor
