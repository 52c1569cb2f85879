/- Proved: for every list of facts the law FactsCheck returns true, and its arguments read behind the call as they did before; what the library's variables hold is tied to the program's text. No further condition. -/
import Derived.Test.YthpdkdmbfdmamaaGreatDoorGDf
import Derived.Test.YthpdkdmbfdmamaaGreatDoorGFe
import Derived.Test.YthpdkdmbfdmamaaGreatDoorGDd
import Derived.Test.YthpdkdmbfdmamaaGreatDoorGDe
set_option linter.unusedVariables false
set_option linter.unusedSimpArgs false
set_option linter.unnecessarySimpa false
set_option linter.unusedSectionVars false
namespace Go.Proofs.YthpdkdmbfdmamaaGreatDoor
open Go.Eng Go.RowKit

set_option maxRecDepth 100000 in
theorem FactsCheck_spec {w : World} {A : Option Addr} {l : List Fact} {c : Nat} (h : HF w A l c) (T : Tabs w) :
    CallsW C.P 3 #[.slice A l.length c] w fun v w' => v = .bool true ∧ Ext w w' := by
  refine callsV_of Cw_ok (args := [_]) (plans := []) Tryz.func3 rfl Tryz.ntmps3 (by kernel_rfl) (Nat.le_of_ble_eq_true rfl) ?_
  have hcap := h.cap
  refine brE_dec (fun ha => ?_) (fun ha => ?_)
  · refine (alive_spec w T).mono ?_
    rintro v w2 ⟨rfl, e2⟩
    exact ⟨rfl, e2⟩
  have ha : ¬ (l.length : Int) > 30 := ha
  have hl : l.length ≤ 2 ^ 20 := by omega
  refine (Check_spec h hl).weak.mono ?_
  rintro _ w1 ⟨rfl, E⟩
  refine (refCheck_spec (h.ext E) hl).weak.mono ?_
  rintro _ w2 ⟨rfl, e2⟩
  have E := E.trans e2
  refine (alive_spec w2 (T.ext E)).mono ?_
  rintro _ w3 ⟨rfl, e3⟩
  have E := E.trans e3
  generalize chkF l = R at *
  refine brE_true (decide_eq_true rfl) ?_
  exact ⟨congrArg Value.bool (decide_eq_true rfl), E⟩

end Go.Proofs.YthpdkdmbfdmamaaGreatDoor

namespace Go.Proofs.YthpdkdmbfdmamaaGreatDoor
open Go.Eng Go.RowKit Go.ChangeShapes Go.WideShapes Go.ChangeAt
open Go.ChangeMaps (open_string shut_string)

set_option maxRecDepth 100000 in
theorem factsCheck_lifted (os : Os) (started : os.Started) (H : Type) (enc : TypeId × Value → H) :
    ReturnsInHanded {} Tryz.checked os 3 .any (fun w args => (Rows.factsCheckSpec.pre enc Tryz.prog Tryz.f3 Rows.factsCheckRow.domain false w args ∧ laidMet Tryz.prog laidL w) ∧ sizedMet enc Tryz.prog Tryz.f3 (OpenSpec.ofChange Rows.factsCheckSpec) false w args)
      (Rows.factsCheckSpec.post enc Tryz.prog Tryz.f3 false true false false) := by
  refine returnsInHanded_of_change_and (C := Tryz.checked) (X := fun w _ => laidMet Tryz.prog laidL w) (fun _ _ _ hh h => h.of_heap hh) own started (by kernel_rfl) Tryz.func3
    (ChangeSpec.witness_at (enc := enc) (C := Tryz.checked) (os := os) (X := fun w _ => laidMet Tryz.prog laidL w) false (laidWorld os) #[.slice none 0 0] 8 rfl (by kernel_rfl) (by kernel_rfl) (by kernel_rfl) (by kernel_rfl) (by kernel_rfl) (laidWorld_met os _)) ?_
  intro W base args ds gs before hval0 hW _ hsz0 hL _
  have T := tabs_of_laid hL
  have hval : ∀ (j : Nat) t v, Tryz.f3.params[j]? = some t → args[j]? = some v → Value.okWide Tryz.prog W .any base t v := hval0
  have hW' := hW
  obtain ⟨p, q, hA0, hV, rfl, hfz, hnd⟩ := hW
  have hA : DataW.TrodAll enc Tryz.prog W 0 (fun _ => true) true [22] args.toList ds p := hA0
  obtain ⟨v0, d0, rfl, rfl, h0⟩ := trodAll_one hA
  obtain ⟨rfl, rfl⟩ := trodVars_none hV
  obtain ⟨A0, l0, c0, rfl, hf0⟩ := open_facts (hval 0 22 v0 rfl rfl) h0
  refine (FactsCheck_spec hf0 T W (Same.refl W)).mono ?_
  rintro e W' ⟨⟨v, w'', rfl, ⟨rfl, he⟩, hs⟩, _⟩
  have he' : Ext W W' := he.same_right hs
  refine ⟨_, rfl, ?_⟩
  refine ⟨[d0], [], (p) ++ [], [], p, [], hW', ?_, ?_, rfl, Below.frame he' _, fun h => by cases h⟩
  · exact trodAll_mk1 (shut_bool under4 true)
  · exact trodAll_mk1 (Below.trod laidOut recFs rowFs h0 he' fun x hx => hW'.lt x (by simp [hx]))

set_option maxHeartbeats 4000000 in
theorem factsCheck_closed : joinedFacts Tryz.pinned.checked.prog 3 Tryz.f3 Rows.factsCheckSpec Rows.factsCheckRow = true := by
  unfold joinedFacts
  iterate 31 refine Bool.and_eq_true_iff.2 ⟨?_, ?_⟩
  · as_aux_lemma => kernel_rfl
  · exact kLaid
  · exact kMaps
  · as_aux_lemma => kernel_rfl
  · as_aux_lemma => kernel_rfl
  · as_aux_lemma => kernel_rfl
  · exact kStops
  · as_aux_lemma => kernel_rfl
  · exact kKnobs
  · as_aux_lemma => kernel_rfl
  · as_aux_lemma => kernel_rfl
  · as_aux_lemma => kernel_rfl
  · as_aux_lemma => kernel_rfl
  · as_aux_lemma => kernel_rfl
  · as_aux_lemma => kernel_rfl
  · as_aux_lemma => kernel_rfl
  · as_aux_lemma => kernel_rfl
  · as_aux_lemma => kernel_rfl
  · as_aux_lemma => kernel_rfl
  · as_aux_lemma => kernel_rfl
  · as_aux_lemma => kernel_rfl
  · as_aux_lemma => kernel_rfl
  · exact beq_iff_eq.2 kPlain.symm
  · as_aux_lemma => kernel_rfl
  · exact kHeard
  · exact kEnter
  · exact beq_iff_eq.2 kLifts.symm
  · as_aux_lemma => kernel_rfl
  · as_aux_lemma => kernel_rfl
  · as_aux_lemma => kernel_rfl
  · as_aux_lemma => kernel_rfl
  · as_aux_lemma => kernel_rfl

theorem factsCheck_named : Tryz.pinned.checked.prog.funcNamed Rows.factsCheckRow.func = some 3 := by kernel_rfl
theorem factsCheck_func : Tryz.pinned.checked.prog.funcs[3]? = some Tryz.f3 := Tryz.func3
theorem factsCheck_inst : Tryz.f3.isInstance Tryz.pinned.checked.prog Rows.factsCheckRow.origin Rows.factsCheckRow.targs := of_decide_eq_true (by kernel_rfl)
theorem factsCheck_wrap : Tryz.f3.isWrapper Tryz.pinned.checked.prog Rows.factsCheckRow.wrapper Rows.factsCheckRow.mainSum := by
  unfold Func.isWrapper; first | (rw [if_pos (by decide +kernel)]; kernel_rfl) | (rw [if_neg (by decide +kernel)]; exact ⟨rfl, rfl⟩)
theorem factsCheck_text : Rows.factsCheckRow.wfByText (OpenSpec.ofChange Rows.factsCheckSpec) = true := by kernel_rfl
theorem factsCheck_main : Tryz.pinned.checked.prog.mainIs = some (Rows.factsCheckCard.stood.harness.1, Rows.factsCheckCard.stood.harness.2.toList) := by kernel_rfl
theorem factsCheck_looks : true = Tryz.pinned.checked.prog.looks [] := by kernel_rfl
theorem factsCheck_goes : false = Rows.factsCheckRow.goesBy Tryz.pinned.checked.prog := by kernel_rfl
theorem factsCheck_stand : (Tryz.f3.params.toList.all fun t => !Tryz.pinned.checked.prog.wantsStandIn t) = true := by kernel_rfl

theorem factsCheck_holds : Rows.FactsCheckSaid :=
  OpenClaim.holds_of_wide 3 Tryz.f3 rfl rfl rfl rfl rfl rfl rfl ⟨rfl, rfl, rfl, rfl, rfl⟩ rfl rfl rfl rfl rfl factsCheck_named factsCheck_func factsCheck_closed factsCheck_inst factsCheck_wrap
    (fun os started H enc _ => factsCheck_lifted os started H enc)

theorem factsCheck : Rows.FactsCheckCardSaid :=
  Claim7.holds_tied_plain_at .later [] [.data, .data, .data, .sentinel, .sentinel] true Rows.factsCheckCard.stood.harness true
    factsCheck_holds (fun _ h => by cases h) factsCheck_text (fun _ h => by cases h) factsCheck_row_tie rfl ⟨rfl, rfl⟩ factsCheck_main rfl
    (fun f fn hf hfn => by
      obtain rfl : f = 3 := Option.some.inj (factsCheck_named.symm.trans hf) |>.symm
      obtain rfl : fn = Tryz.f3 := (Option.some.inj (factsCheck_func.symm.trans hfn)).symm
      refine ⟨factsCheck_looks, fun j t ht => ?_⟩
      have hm : t ∈ Tryz.f3.params.toList := by
        have := Array.mem_of_getElem? ht
        simpa using this
      exact Bool.not_eq_true' _ |>.mp (List.all_eq_true.1 factsCheck_stand t hm))
    factsCheck_goes

#print axioms factsCheck
end Go.Proofs.YthpdkdmbfdmamaaGreatDoor
