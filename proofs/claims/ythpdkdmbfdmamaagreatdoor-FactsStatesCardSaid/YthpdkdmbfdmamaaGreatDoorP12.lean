/- Proved: for every list of facts and five numbers the law FactsStates returns true, and its arguments read behind the call as they did before; what the library's variables hold is tied to the program's text. No further condition. -/
import Derived.Test.YthpdkdmbfdmamaaGreatDoorGDf
import Derived.Test.YthpdkdmbfdmamaaGreatDoorGFc
import Derived.Test.YthpdkdmbfdmamaaGreatDoorGFd
import Derived.Test.YthpdkdmbfdmamaaGreatDoorGDd
import Derived.Test.YthpdkdmbfdmamaaGreatDoorGDe
set_option linter.unusedVariables false
set_option linter.unusedSimpArgs false
set_option linter.unnecessarySimpa false
set_option linter.unusedSectionVars false
namespace Go.Proofs.YthpdkdmbfdmamaaGreatDoor
open Go.Eng Go.RowKit

set_option maxRecDepth 100000 in
set_option maxHeartbeats 4000000 in
theorem FactsStates_spec {w : World} {A : Option Addr} {l : List Fact} {c : Nat} (h : HF w A l c) (T : Tabs w) (k day s lang lot : Int) :
    CallsW C.P 12 #[.slice A l.length c, .int .i64 k, .int .i64 day, .int .i64 s, .int .i64 lang, .int .i64 lot] w fun v w' => v = .bool true ∧ Ext w w' := by
  refine callsV_of Cw_ok (args := [_, _, _, _, _, _]) (plans := []) Tryz.func12 rfl Tryz.ntmps12 (by kernel_rfl) (Nat.le_of_ble_eq_true rfl) ?_
  have hcap := h.cap
  refine brE_dec (fun ha => ?_) (fun ha => ?_)
  · refine (alive_spec w T).mono ?_
    rintro v w2 ⟨rfl, e2⟩
    exact ⟨rfl, e2⟩
  have ha : ¬ (l.length : Int) > 30 := ha
  have hl : l.length ≤ 2 ^ 20 := by omega
  refine (Letter_spec h hl k day lang lot s).weak.mono ?_
  rintro _ w1 ⟨rfl, E⟩
  refine (refLetter_spec (h.ext E) hl k day lang lot s).weak.mono ?_
  rintro _ w2 ⟨rfl, e2⟩
  have E := E.trans e2
  refine (States_spec (h.ext E) hl k day).weak.mono ?_
  rintro _ w3 ⟨ho3, e3⟩
  have E := E.trans e3
  refine (refStates_spec (h.ext E) hl k day).weak.mono ?_
  rintro _ w4 ⟨ho4, e4⟩
  have E := E.trans e4
  refine (sameRows (ho3.ext e4) ho4).weak.mono ?_
  rintro _ w5 ⟨rfl, rfl⟩
  refine (Alphabet_spec (h.ext E) hl k day lang lot).weak.mono ?_
  rintro _ w6 ⟨ho6, e6⟩
  have E := E.trans e6
  refine (refAlphabet_spec (h.ext E) hl k day lang lot).weak.mono ?_
  rintro _ w7 ⟨ho7, e7⟩
  have E := E.trans e7
  refine (sameRows (ho6.ext e7) ho7).weak.mono ?_
  rintro _ w8 ⟨rfl, rfl⟩
  refine (alive_spec _ (T.ext E)).mono ?_
  rintro _ w9 ⟨rfl, e9⟩
  have E := E.trans e9
  generalize letterL (atL k day l) lang lot s = L at *
  refine brE_true (decide_eq_true rfl) ?_
  refine ⟨_, eqBool _ _ L.2 L.2, ?_⟩
  refine brE_true (beq_self_eq_true _) ?_
  refine (Name_spec (h.ext E) hl k day s lang).weak.mono ?_
  rintro _ w10 ⟨rfl, e10⟩
  have E := E.trans e10
  refine (refName_spec (h.ext E) hl k day s lang).weak.mono ?_
  rintro _ w11 ⟨rfl, e11⟩
  have E := E.trans e11
  refine ⟨_, eqStr _ _ _ _, ?_⟩
  refine brE_true (by simp) ?_
  refine (Mourns_spec (h.ext E) hl k day s).weak.mono ?_
  rintro _ w12 ⟨rfl, e12⟩
  have E := E.trans e12
  refine (refMourns_spec (h.ext E) hl k day s).weak.mono ?_
  rintro _ w13 ⟨rfl, e13⟩
  have E := E.trans e13
  refine ⟨_, eqBool _ _ _ _, ?_⟩
  exact ⟨by simp, E⟩

end Go.Proofs.YthpdkdmbfdmamaaGreatDoor

namespace Go.Proofs.YthpdkdmbfdmamaaGreatDoor
open Go.Eng Go.RowKit Go.ChangeShapes Go.WideShapes Go.ChangeAt
open Go.ChangeMaps (open_string shut_string)

set_option maxRecDepth 100000 in
theorem factsStates_lifted (os : Os) (started : os.Started) (H : Type) (enc : TypeId × Value → H) :
    ReturnsInHanded {} Tryz.checked os 12 .any (fun w args => (Rows.factsStatesSpec.pre enc Tryz.prog Tryz.f12 Rows.factsStatesRow.domain false w args ∧ laidMet Tryz.prog laidL w) ∧ sizedMet enc Tryz.prog Tryz.f12 (OpenSpec.ofChange Rows.factsStatesSpec) false w args)
      (Rows.factsStatesSpec.post enc Tryz.prog Tryz.f12 false true false false) := by
  refine returnsInHanded_of_change_and (C := Tryz.checked) (X := fun w _ => laidMet Tryz.prog laidL w) (fun _ _ _ hh h => h.of_heap hh) own started (by kernel_rfl) Tryz.func12
    (ChangeSpec.witness_at (enc := enc) (C := Tryz.checked) (os := os) (X := fun w _ => laidMet Tryz.prog laidL w) false (laidWorld os) #[.slice none 0 0, .int .i64 0, .int .i64 0, .int .i64 0, .int .i64 0, .int .i64 0] 8 rfl (by kernel_rfl) (by kernel_rfl) (by kernel_rfl) (by kernel_rfl) (by kernel_rfl) (laidWorld_met os _)) ?_
  intro W base args ds gs before hval0 hW _ hsz0 hL _
  have T := tabs_of_laid hL
  have hval : ∀ (j : Nat) t v, Tryz.f12.params[j]? = some t → args[j]? = some v → Value.okWide Tryz.prog W .any base t v := hval0
  have hW' := hW
  obtain ⟨p, q, hA0, hV, rfl, hfz, hnd⟩ := hW
  have hA : DataW.TrodAll enc Tryz.prog W 0 (fun _ => true) true [22, 3, 3, 3, 3, 3] args.toList ds p := hA0
  obtain ⟨v0, v1, v2, v3, v4, v5, d0, d1, d2, d3, d4, d5, p0, p1, p2, p3, p4, p5, rfl, rfl, rfl, h0, h1, h2, h3, h4, h5⟩ := trodAll_n6 hA
  obtain ⟨rfl, rfl⟩ := trodVars_none hV
  obtain ⟨A0, l0, c0, rfl, hf0⟩ := open_facts (hval 0 22 v0 rfl rfl) h0
  obtain ⟨i1, rfl, _, _, wf1⟩ := open_int under3 (hval 1 3 v1 rfl rfl) h1
  obtain ⟨i2, rfl, _, _, wf2⟩ := open_int under3 (hval 2 3 v2 rfl rfl) h2
  obtain ⟨i3, rfl, _, _, wf3⟩ := open_int under3 (hval 3 3 v3 rfl rfl) h3
  obtain ⟨i4, rfl, _, _, wf4⟩ := open_int under3 (hval 4 3 v4 rfl rfl) h4
  obtain ⟨i5, rfl, _, _, wf5⟩ := open_int under3 (hval 5 3 v5 rfl rfl) h5
  refine (FactsStates_spec hf0 T i1 i2 i3 i4 i5 W (Same.refl W)).mono ?_
  rintro e W' ⟨⟨v, w'', rfl, ⟨rfl, he⟩, hs⟩, _⟩
  have he' : Ext W W' := he.same_right hs
  refine ⟨_, rfl, ?_⟩
  refine ⟨[d0, d1, d2, d3, d4, d5], [], (p0 ++ (p1 ++ (p2 ++ (p3 ++ (p4 ++ (p5)))))) ++ [], [], p0 ++ (p1 ++ (p2 ++ (p3 ++ (p4 ++ (p5))))), [], hW', ?_, ?_, rfl, Below.frame he' _, fun h => by cases h⟩
  · exact trodAll_mk1 (shut_bool under4 true)
  · exact trodAll_mkn6 (Below.trod laidOut recFs rowFs h0 he' fun x hx => hW'.lt x (by simp [hx])) (Below.trod laidOut rec3 row3 h1 he' fun x hx => hW'.lt x (by simp [hx])) (Below.trod laidOut rec3 row3 h2 he' fun x hx => hW'.lt x (by simp [hx])) (Below.trod laidOut rec3 row3 h3 he' fun x hx => hW'.lt x (by simp [hx])) (Below.trod laidOut rec3 row3 h4 he' fun x hx => hW'.lt x (by simp [hx])) (Below.trod laidOut rec3 row3 h5 he' fun x hx => hW'.lt x (by simp [hx]))

set_option maxHeartbeats 4000000 in
theorem factsStates_closed : joinedFacts Tryz.pinned.checked.prog 12 Tryz.f12 Rows.factsStatesSpec Rows.factsStatesRow = true := by
  unfold joinedFacts
  iterate 31 refine Bool.and_eq_true_iff.2 ⟨?_, ?_⟩
  · as_aux_lemma => kernel_rfl
  · exact kLaid
  · exact kMaps
  · as_aux_lemma => kernel_rfl
  · as_aux_lemma => kernel_rfl
  · as_aux_lemma => kernel_rfl
  · exact kStops
  · as_aux_lemma => kernel_rfl
  · exact kKnobs
  · as_aux_lemma => kernel_rfl
  · as_aux_lemma => kernel_rfl
  · as_aux_lemma => kernel_rfl
  · as_aux_lemma => kernel_rfl
  · as_aux_lemma => kernel_rfl
  · as_aux_lemma => kernel_rfl
  · as_aux_lemma => kernel_rfl
  · as_aux_lemma => kernel_rfl
  · as_aux_lemma => kernel_rfl
  · as_aux_lemma => kernel_rfl
  · as_aux_lemma => kernel_rfl
  · as_aux_lemma => kernel_rfl
  · as_aux_lemma => kernel_rfl
  · exact beq_iff_eq.2 kPlain.symm
  · as_aux_lemma => kernel_rfl
  · exact kHeard
  · exact kEnter
  · exact beq_iff_eq.2 kLifts.symm
  · as_aux_lemma => kernel_rfl
  · as_aux_lemma => kernel_rfl
  · as_aux_lemma => kernel_rfl
  · as_aux_lemma => kernel_rfl
  · as_aux_lemma => kernel_rfl

theorem factsStates_named : Tryz.pinned.checked.prog.funcNamed Rows.factsStatesRow.func = some 12 := by kernel_rfl
theorem factsStates_func : Tryz.pinned.checked.prog.funcs[12]? = some Tryz.f12 := Tryz.func12
theorem factsStates_inst : Tryz.f12.isInstance Tryz.pinned.checked.prog Rows.factsStatesRow.origin Rows.factsStatesRow.targs := of_decide_eq_true (by kernel_rfl)
theorem factsStates_wrap : Tryz.f12.isWrapper Tryz.pinned.checked.prog Rows.factsStatesRow.wrapper Rows.factsStatesRow.mainSum := by
  unfold Func.isWrapper; first | (rw [if_pos (by decide +kernel)]; kernel_rfl) | (rw [if_neg (by decide +kernel)]; exact ⟨rfl, rfl⟩)
theorem factsStates_text : Rows.factsStatesRow.wfByText (OpenSpec.ofChange Rows.factsStatesSpec) = true := by kernel_rfl
theorem factsStates_main : Tryz.pinned.checked.prog.mainIs = some (Rows.factsStatesCard.stood.harness.1, Rows.factsStatesCard.stood.harness.2.toList) := by kernel_rfl
theorem factsStates_looks : true = Tryz.pinned.checked.prog.looks [] := by kernel_rfl
theorem factsStates_goes : false = Rows.factsStatesRow.goesBy Tryz.pinned.checked.prog := by kernel_rfl
theorem factsStates_stand : (Tryz.f12.params.toList.all fun t => !Tryz.pinned.checked.prog.wantsStandIn t) = true := by kernel_rfl

theorem factsStates_holds : Rows.FactsStatesSaid :=
  OpenClaim.holds_of_wide 12 Tryz.f12 rfl rfl rfl rfl rfl rfl rfl ⟨rfl, rfl, rfl, rfl, rfl⟩ rfl rfl rfl rfl rfl factsStates_named factsStates_func factsStates_closed factsStates_inst factsStates_wrap
    (fun os started H enc _ => factsStates_lifted os started H enc)

theorem factsStates : Rows.FactsStatesCardSaid :=
  Claim7.holds_tied_plain_at .later [] [.data, .data, .data, .sentinel, .sentinel] true Rows.factsStatesCard.stood.harness true
    factsStates_holds (fun _ h => by cases h) factsStates_text (fun _ h => by cases h) factsStates_row_tie rfl ⟨rfl, rfl⟩ factsStates_main rfl
    (fun f fn hf hfn => by
      obtain rfl : f = 12 := Option.some.inj (factsStates_named.symm.trans hf) |>.symm
      obtain rfl : fn = Tryz.f12 := (Option.some.inj (factsStates_func.symm.trans hfn)).symm
      refine ⟨factsStates_looks, fun j t ht => ?_⟩
      have hm : t ∈ Tryz.f12.params.toList := by
        have := Array.mem_of_getElem? ht
        simpa using this
      exact Bool.not_eq_true' _ |>.mp (List.all_eq_true.1 factsStates_stand t hm))
    factsStates_goes

#print axioms factsStates
end Go.Proofs.YthpdkdmbfdmamaaGreatDoor
