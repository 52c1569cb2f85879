/- Proved: for every entry and string the law DuesLines returns true, and its arguments read behind the call as they did before; what the library's variables hold is tied to the program's text. No further condition. -/
import Derived.Test.YtahgjidcaeieaaaGreatDoorLAa
import Derived.Test.YtahgjidcaeieaaaGreatDoorLAb
import Derived.Test.YtahgjidcaeieaaaGreatDoorLAc
import Derived.Test.YtahgjidcaeieaaaGreatDoorLAd
import Derived.Test.YtahgjidcaeieaaaGreatDoorLAe
import Derived.Test.YtahgjidcaeieaaaGreatDoorLAf
import Derived.Test.YtahgjidcaeieaaaGreatDoorLAg
import Derived.Test.YtahgjidcaeieaaaGreatDoorLAh
import Derived.Test.YtahgjidcaeieaaaGreatDoorLAi
import Derived.Test.YtahgjidcaeieaaaGreatDoorLAj
import Derived.Test.YtahgjidcaeieaaaGreatDoorLAk
import Derived.Sort.Walk0
import Derived.Ground.SlsfProg
import Derived.Scope
import Derived.Laws.StructEq
set_option linter.unusedVariables false
set_option linter.unusedSimpArgs false
set_option linter.unnecessarySimpa false
set_option linter.unusedSectionVars false
namespace Go.Proofs.YtahgjidcaeieaaaGreatDoor
open Go.Eng Go.RowKit Go.ChangeShapes Go.WideShapes Go.ChangeAt
open Go.ChangeMaps (open_string shut_string)
set_option maxRecDepth 100000 in
theorem duesLines_lifted (os : Os) (started : os.Started) (H : Type) (enc : TypeId × Value → H) :
    ReturnsInHanded {} Tryz.checked os 3 .any (fun w args => (Rows.duesLinesSpec.pre enc Tryz.prog Tryz.f3 Rows.duesLinesRow.domain false w args ∧ laidMet Tryz.prog laidL w) ∧ sizedMet enc Tryz.prog Tryz.f3 (OpenSpec.ofChange Rows.duesLinesSpec) false w args)
      (Rows.duesLinesSpec.post enc Tryz.prog Tryz.f3 false true false false) := by
  refine returnsInHanded_of_change_and (C := Tryz.checked) (X := fun w _ => laidMet Tryz.prog laidL w) (fun _ _ _ hh h => h.of_heap hh) own started (by kernel_rfl) Tryz.func3
    (ChangeSpec.witness_at (enc := enc) (C := Tryz.checked) (os := os) (X := fun w _ => laidMet Tryz.prog laidL w) false (laidWorld os) #[.agg #[.int .u8 0, .int .i64 0, .int .i64 0, .int .i64 0, .int .i64 0, .int .i64 0, .int .i64 0, .int .i64 0, .int .i64 0, .int .i64 0, .int .i64 0, .int .i64 0, .int .i64 0, .int .i64 0, .int .i64 0, .int .u8 0, .int .i64 0, .int .i64 0, .int .u8 0, .int .i64 0, .int .i64 0, .int .i64 0, .int .i64 0, .int .i64 0], .string ⟨#[]⟩] 8 rfl (by kernel_rfl) (by kernel_rfl) (by kernel_rfl) (by kernel_rfl) (by kernel_rfl) (laidWorld_met os _)) ?_
  intro W base args ds gs before hval0 hW _ hsz0 hL _
  have T := tabs2_of_laid hL
  have hval : ∀ (j : Nat) t v, Tryz.f3.params[j]? = some t → args[j]? = some v → Value.okWide Tryz.prog W .any base t v := hval0
  have hW' := hW
  obtain ⟨p, q, hA0, hV, rfl, hfz, hnd⟩ := hW
  have hA : DataW.TrodAll enc Tryz.prog W 0 (fun _ => true) true [27, 9] args.toList ds p := hA0
  obtain ⟨v0, v1, d0, d1, p0, p1, rfl, rfl, rfl, h0, h1⟩ := trodAll_two hA
  obtain ⟨rfl, rfl⟩ := trodVars_none hV
  obtain ⟨x0, rfl, hx0⟩ := open_vE (hval 0 27 v0 rfl rfl) h0
  obtain ⟨s1, rfl, es1, _, hs1⟩ := open_string Tryz.underlying9 (hval 1 9 v1 rfl rfl) h1
  refine (DuesLines_spec hx0 s1 W T W (Same.refl W)).mono ?_
  rintro e W' ⟨⟨v, w'', rfl, ⟨rfl, he⟩, hs⟩, _⟩
  have he' : Ext W W' := he.same_right hs
  refine ⟨_, rfl, ?_⟩
  refine ⟨[d0, d1], [], (p0 ++ p1) ++ [], [], p0 ++ (p1), [], hW', ?_, ?_, rfl, Below.frame he' _, fun h => by cases h⟩
  · exact trodAll_mk1 (shut_bool under4 true)
  · exact trodAll_mk2 (Below.trod laidOut recE6 rowE6 h0 he' fun x hx => hW'.lt x (by simp [hx])) (Below.trod laidOut rec9 row9 h1 he' fun x hx => hW'.lt x (by simp [hx]))
set_option maxHeartbeats 4000000 in
theorem duesLines_closed : joinedFacts Tryz.pinned.checked.prog 3 Tryz.f3 Rows.duesLinesSpec Rows.duesLinesRow = true := by
  unfold joinedFacts
  iterate 31 refine Bool.and_eq_true_iff.2 ⟨?_, ?_⟩
  · as_aux_lemma => kernel_rfl
  · exact kLaid
  · exact kMaps
  · as_aux_lemma => kernel_rfl
  · as_aux_lemma => kernel_rfl
  · as_aux_lemma => kernel_rfl
  · exact kStops
  · as_aux_lemma => kernel_rfl
  · exact kKnobs
  · as_aux_lemma => kernel_rfl
  · as_aux_lemma => kernel_rfl
  · as_aux_lemma => kernel_rfl
  · as_aux_lemma => kernel_rfl
  · as_aux_lemma => kernel_rfl
  · as_aux_lemma => kernel_rfl
  · as_aux_lemma => kernel_rfl
  · as_aux_lemma => kernel_rfl
  · as_aux_lemma => kernel_rfl
  · as_aux_lemma => kernel_rfl
  · as_aux_lemma => kernel_rfl
  · as_aux_lemma => kernel_rfl
  · as_aux_lemma => kernel_rfl
  · exact beq_iff_eq.2 kPlain.symm
  · as_aux_lemma => kernel_rfl
  · exact kHeard
  · exact kEnter
  · exact beq_iff_eq.2 kLifts.symm
  · as_aux_lemma => kernel_rfl
  · as_aux_lemma => kernel_rfl
  · as_aux_lemma => kernel_rfl
  · as_aux_lemma => kernel_rfl
  · as_aux_lemma => kernel_rfl
theorem duesLines_named : Tryz.pinned.checked.prog.funcNamed Rows.duesLinesRow.func = some 3 := by kernel_rfl
theorem duesLines_func : Tryz.pinned.checked.prog.funcs[3]? = some Tryz.f3 := Tryz.func3
theorem duesLines_inst : Tryz.f3.isInstance Tryz.pinned.checked.prog Rows.duesLinesRow.origin Rows.duesLinesRow.targs := of_decide_eq_true (by kernel_rfl)
theorem duesLines_wrap : Tryz.f3.isWrapper Tryz.pinned.checked.prog Rows.duesLinesRow.wrapper Rows.duesLinesRow.mainSum := by
  unfold Func.isWrapper; first | (rw [if_pos (by decide +kernel)]; kernel_rfl) | (rw [if_neg (by decide +kernel)]; exact ⟨rfl, rfl⟩)
theorem duesLines_text : Rows.duesLinesRow.wfByText (OpenSpec.ofChange Rows.duesLinesSpec) = true := by kernel_rfl
theorem duesLines_main : Tryz.pinned.checked.prog.mainIs = some (Rows.duesLinesCard.stood.harness.1, Rows.duesLinesCard.stood.harness.2.toList) := by kernel_rfl
theorem duesLines_looks : true = Tryz.pinned.checked.prog.looks [] := by kernel_rfl
theorem duesLines_goes : false = Rows.duesLinesRow.goesBy Tryz.pinned.checked.prog := by kernel_rfl
theorem duesLines_stand : (Tryz.f3.params.toList.all fun t => !Tryz.pinned.checked.prog.wantsStandIn t) = true := by kernel_rfl
theorem duesLines_holds : Rows.DuesLinesSaid :=
  OpenClaim.holds_of_wide 3 Tryz.f3 rfl rfl rfl rfl rfl rfl rfl ⟨rfl, rfl, rfl, rfl, rfl⟩ rfl rfl rfl rfl rfl duesLines_named duesLines_func duesLines_closed duesLines_inst duesLines_wrap
    (fun os started H enc _ => duesLines_lifted os started H enc)
theorem duesLines : Rows.DuesLinesCardSaid :=
  Claim7.holds_tied_plain_at .later [] [.data, .data, .data, .sentinel, .sentinel] true Rows.duesLinesCard.stood.harness true
    duesLines_holds (fun _ h => by cases h) duesLines_text (fun _ h => by cases h) duesLines_row_tie rfl ⟨rfl, rfl⟩ duesLines_main rfl
    (fun f fn hf hfn => by
      obtain rfl : f = 3 := Option.some.inj (duesLines_named.symm.trans hf) |>.symm
      obtain rfl : fn = Tryz.f3 := (Option.some.inj (duesLines_func.symm.trans hfn)).symm
      refine ⟨duesLines_looks, fun j t ht => ?_⟩
      have hm : t ∈ Tryz.f3.params.toList := by
        have := Array.mem_of_getElem? ht
        simpa using this
      exact Bool.not_eq_true' _ |>.mp (List.all_eq_true.1 duesLines_stand t hm))
    duesLines_goes
#print axioms duesLines
end Go.Proofs.YtahgjidcaeieaaaGreatDoor
