/- Proved: for every list of facts and two days the law FactsTurns returns true, and its arguments read behind the call as they did before; what the library's variables hold is tied to the program's text. No further condition. -/
import Derived.Test.YthpdkdmbfdmamaaGreatDoorGDf
import Derived.Test.YthpdkdmbfdmamaaGreatDoorGFc
import Derived.Test.YthpdkdmbfdmamaaGreatDoorGDd
import Derived.Test.YthpdkdmbfdmamaaGreatDoorGDe
set_option linter.unusedVariables false
set_option linter.unusedSimpArgs false
set_option linter.unnecessarySimpa false
set_option linter.unusedSectionVars false
namespace Go.Proofs.YthpdkdmbfdmamaaGreatDoor
open Go.Eng Go.RowKit

set_option maxRecDepth 100000 in
theorem FactsTurns_spec {w : World} {A : Option Addr} {l : List Fact} {c : Nat} (h : HF w A l c) (T : Tabs w) (k day : Int) :
    CallsW C.P 9 #[.slice A l.length c, .int .i64 k, .int .i64 day] w fun v w' => v = .bool true ∧ Ext w w' := by
  refine callsV_of Cw_ok (args := [_, _, _]) (plans := []) Tryz.func9 rfl Tryz.ntmps9 (by kernel_rfl) (Nat.le_of_ble_eq_true rfl) ?_
  have hcap := h.cap
  refine brE_dec (fun ha => ?_) (fun ha => ?_)
  · refine (alive_spec w T).mono ?_
    rintro v w2 ⟨rfl, e2⟩
    exact ⟨rfl, e2⟩
  have ha : ¬ (l.length : Int) > 30 := ha
  have hl : l.length ≤ 2 ^ 20 := by omega
  refine (alive_spec w T).mono ?_
  rintro _ w1 ⟨rfl, E⟩
  refine (Turns_spec (h.ext E) hl k).weak.mono ?_
  rintro _ w5 ⟨ho5, e5⟩
  have E := E.trans e5
  refine (refTurns_spec (h.ext E) hl k).weak.mono ?_
  rintro _ w6 ⟨ho6, e6⟩
  have E := E.trans e6
  refine (sameRows (ho5.ext e6) ho6).weak.mono ?_
  rintro _ w7 ⟨rfl, rfl⟩
  refine (Learned_spec (h.ext E) hl day).weak.mono ?_
  rintro _ w8 ⟨ho8, e8⟩
  have E := E.trans e8
  refine (refLearned_spec (h.ext E) hl day).weak.mono ?_
  rintro _ w9 ⟨ho9, e9⟩
  have E := E.trans e9
  refine (sameRows (ho8.ext e9) ho9).weak.mono ?_
  rintro _ w10 ⟨rfl, rfl⟩
  exact ⟨rfl, E⟩

end Go.Proofs.YthpdkdmbfdmamaaGreatDoor

namespace Go.Proofs.YthpdkdmbfdmamaaGreatDoor
open Go.Eng Go.RowKit Go.ChangeShapes Go.WideShapes Go.ChangeAt
open Go.ChangeMaps (open_string shut_string)

set_option maxRecDepth 100000 in
theorem factsTurns_lifted (os : Os) (started : os.Started) (H : Type) (enc : TypeId × Value → H) :
    ReturnsInHanded {} Tryz.checked os 9 .any (fun w args => (Rows.factsTurnsSpec.pre enc Tryz.prog Tryz.f9 Rows.factsTurnsRow.domain false w args ∧ laidMet Tryz.prog laidL w) ∧ sizedMet enc Tryz.prog Tryz.f9 (OpenSpec.ofChange Rows.factsTurnsSpec) false w args)
      (Rows.factsTurnsSpec.post enc Tryz.prog Tryz.f9 false true false false) := by
  refine returnsInHanded_of_change_and (C := Tryz.checked) (X := fun w _ => laidMet Tryz.prog laidL w) (fun _ _ _ hh h => h.of_heap hh) own started (by kernel_rfl) Tryz.func9
    (ChangeSpec.witness_at (enc := enc) (C := Tryz.checked) (os := os) (X := fun w _ => laidMet Tryz.prog laidL w) false (laidWorld os) #[.slice none 0 0, .int .i64 0, .int .i64 0] 8 rfl (by kernel_rfl) (by kernel_rfl) (by kernel_rfl) (by kernel_rfl) (by kernel_rfl) (laidWorld_met os _)) ?_
  intro W base args ds gs before hval0 hW _ hsz0 hL _
  have T := tabs_of_laid hL
  have hval : ∀ (j : Nat) t v, Tryz.f9.params[j]? = some t → args[j]? = some v → Value.okWide Tryz.prog W .any base t v := hval0
  have hW' := hW
  obtain ⟨p, q, hA0, hV, rfl, hfz, hnd⟩ := hW
  have hA : DataW.TrodAll enc Tryz.prog W 0 (fun _ => true) true [22, 3, 3] args.toList ds p := hA0
  obtain ⟨v0, v1, v2, d0, d1, d2, p0, p1, p2, rfl, rfl, rfl, h0, h1, h2⟩ := trodAll_three hA
  obtain ⟨rfl, rfl⟩ := trodVars_none hV
  obtain ⟨A0, l0, c0, rfl, hf0⟩ := open_facts (hval 0 22 v0 rfl rfl) h0
  obtain ⟨i1, rfl, _, _, wf1⟩ := open_int under3 (hval 1 3 v1 rfl rfl) h1
  obtain ⟨i2, rfl, _, _, wf2⟩ := open_int under3 (hval 2 3 v2 rfl rfl) h2
  refine (FactsTurns_spec hf0 T i1 i2 W (Same.refl W)).mono ?_
  rintro e W' ⟨⟨v, w'', rfl, ⟨rfl, he⟩, hs⟩, _⟩
  have he' : Ext W W' := he.same_right hs
  refine ⟨_, rfl, ?_⟩
  refine ⟨[d0, d1, d2], [], (p0 ++ p1 ++ p2) ++ [], [], p0 ++ (p1 ++ (p2)), [], hW', ?_, ?_, rfl, Below.frame he' _, fun h => by cases h⟩
  · exact trodAll_mk1 (shut_bool under4 true)
  · exact trodAll_mk3 (Below.trod laidOut recFs rowFs h0 he' fun x hx => hW'.lt x (by simp [hx])) (Below.trod laidOut rec3 row3 h1 he' fun x hx => hW'.lt x (by simp [hx])) (Below.trod laidOut rec3 row3 h2 he' fun x hx => hW'.lt x (by simp [hx]))

set_option maxHeartbeats 4000000 in
theorem factsTurns_closed : joinedFacts Tryz.pinned.checked.prog 9 Tryz.f9 Rows.factsTurnsSpec Rows.factsTurnsRow = true := by
  unfold joinedFacts
  iterate 31 refine Bool.and_eq_true_iff.2 ⟨?_, ?_⟩
  · as_aux_lemma => kernel_rfl
  · exact kLaid
  · exact kMaps
  · as_aux_lemma => kernel_rfl
  · as_aux_lemma => kernel_rfl
  · as_aux_lemma => kernel_rfl
  · exact kStops
  · as_aux_lemma => kernel_rfl
  · exact kKnobs
  · as_aux_lemma => kernel_rfl
  · as_aux_lemma => kernel_rfl
  · as_aux_lemma => kernel_rfl
  · as_aux_lemma => kernel_rfl
  · as_aux_lemma => kernel_rfl
  · as_aux_lemma => kernel_rfl
  · as_aux_lemma => kernel_rfl
  · as_aux_lemma => kernel_rfl
  · as_aux_lemma => kernel_rfl
  · as_aux_lemma => kernel_rfl
  · as_aux_lemma => kernel_rfl
  · as_aux_lemma => kernel_rfl
  · as_aux_lemma => kernel_rfl
  · exact beq_iff_eq.2 kPlain.symm
  · as_aux_lemma => kernel_rfl
  · exact kHeard
  · exact kEnter
  · exact beq_iff_eq.2 kLifts.symm
  · as_aux_lemma => kernel_rfl
  · as_aux_lemma => kernel_rfl
  · as_aux_lemma => kernel_rfl
  · as_aux_lemma => kernel_rfl
  · as_aux_lemma => kernel_rfl

theorem factsTurns_named : Tryz.pinned.checked.prog.funcNamed Rows.factsTurnsRow.func = some 9 := by kernel_rfl
theorem factsTurns_func : Tryz.pinned.checked.prog.funcs[9]? = some Tryz.f9 := Tryz.func9
theorem factsTurns_inst : Tryz.f9.isInstance Tryz.pinned.checked.prog Rows.factsTurnsRow.origin Rows.factsTurnsRow.targs := of_decide_eq_true (by kernel_rfl)
theorem factsTurns_wrap : Tryz.f9.isWrapper Tryz.pinned.checked.prog Rows.factsTurnsRow.wrapper Rows.factsTurnsRow.mainSum := by
  unfold Func.isWrapper; first | (rw [if_pos (by decide +kernel)]; kernel_rfl) | (rw [if_neg (by decide +kernel)]; exact ⟨rfl, rfl⟩)
theorem factsTurns_text : Rows.factsTurnsRow.wfByText (OpenSpec.ofChange Rows.factsTurnsSpec) = true := by kernel_rfl
theorem factsTurns_main : Tryz.pinned.checked.prog.mainIs = some (Rows.factsTurnsCard.stood.harness.1, Rows.factsTurnsCard.stood.harness.2.toList) := by kernel_rfl
theorem factsTurns_looks : true = Tryz.pinned.checked.prog.looks [] := by kernel_rfl
theorem factsTurns_goes : false = Rows.factsTurnsRow.goesBy Tryz.pinned.checked.prog := by kernel_rfl
theorem factsTurns_stand : (Tryz.f9.params.toList.all fun t => !Tryz.pinned.checked.prog.wantsStandIn t) = true := by kernel_rfl

theorem factsTurns_holds : Rows.FactsTurnsSaid :=
  OpenClaim.holds_of_wide 9 Tryz.f9 rfl rfl rfl rfl rfl rfl rfl ⟨rfl, rfl, rfl, rfl, rfl⟩ rfl rfl rfl rfl rfl factsTurns_named factsTurns_func factsTurns_closed factsTurns_inst factsTurns_wrap
    (fun os started H enc _ => factsTurns_lifted os started H enc)

theorem factsTurns : Rows.FactsTurnsCardSaid :=
  Claim7.holds_tied_plain_at .later [] [.data, .data, .data, .sentinel, .sentinel] true Rows.factsTurnsCard.stood.harness true
    factsTurns_holds (fun _ h => by cases h) factsTurns_text (fun _ h => by cases h) factsTurns_row_tie rfl ⟨rfl, rfl⟩ factsTurns_main rfl
    (fun f fn hf hfn => by
      obtain rfl : f = 9 := Option.some.inj (factsTurns_named.symm.trans hf) |>.symm
      obtain rfl : fn = Tryz.f9 := (Option.some.inj (factsTurns_func.symm.trans hfn)).symm
      refine ⟨factsTurns_looks, fun j t ht => ?_⟩
      have hm : t ∈ Tryz.f9.params.toList := by
        have := Array.mem_of_getElem? ht
        simpa using this
      exact Bool.not_eq_true' _ |>.mp (List.all_eq_true.1 factsTurns_stand t hm))
    factsTurns_goes

#print axioms factsTurns
end Go.Proofs.YthpdkdmbfdmamaaGreatDoor
