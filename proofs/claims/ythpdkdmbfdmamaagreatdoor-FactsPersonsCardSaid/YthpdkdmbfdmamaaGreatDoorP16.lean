/- Proved: for every list of facts and four numbers the law FactsPersons returns true, and its arguments read behind the call as they did before; what the library's variables hold is tied to the program's text. No further condition. -/
import Derived.Test.YthpdkdmbfdmamaaGreatDoorGDf
import Derived.Test.YthpdkdmbfdmamaaGreatDoorGFa
import Derived.Test.YthpdkdmbfdmamaaGreatDoorGDd
import Derived.Test.YthpdkdmbfdmamaaGreatDoorGDe
set_option linter.unusedVariables false
set_option linter.unusedSimpArgs false
set_option linter.unnecessarySimpa false
set_option linter.unusedSectionVars false
namespace Go.Proofs.YthpdkdmbfdmamaaGreatDoor
open Go.Eng Go.RowKit

set_option maxRecDepth 100000 in
theorem FactsPersons_spec {w : World} {A : Option Addr} {l : List Fact} {c : Nat} (h : HF w A l c) (T : Tabs w) (k day : Int) {n : Int} (hn : In64 n) (s : Int) :
    CallsW C.P 16 #[.slice A l.length c, .int .i64 k, .int .i64 day, .int .i64 n, .int .i64 s] w fun v w' => v = .bool true ∧ Ext w w' := by
  refine callsV_of Cw_ok (args := [_, _, _, _, _]) (plans := []) Tryz.func16 rfl Tryz.ntmps16 (by kernel_rfl) (Nat.le_of_ble_eq_true rfl) ?_
  have hcap := h.cap
  refine brE_dec (fun ha => ?_) (fun ha => ?_)
  · refine (alive_spec w T).mono ?_
    rintro v w2 ⟨rfl, e2⟩
    exact ⟨rfl, e2⟩
  have ha : ¬ (l.length : Int) > 30 := ha
  have hl : l.length ≤ 2 ^ 20 := by omega
  refine (Spouse_spec h hl k day n).weak.mono ?_
  rintro _ w1 ⟨rfl, E⟩
  refine (refSpouse_spec (h.ext E) hl k day n).weak.mono ?_
  rintro _ w2 ⟨rfl, e2⟩
  have E := E.trans e2
  refine (Principal_spec (h.ext E) hl k day n hn).weak.mono ?_
  rintro _ w3 ⟨rfl, e3⟩
  have E := E.trans e3
  refine (refPrincipal_spec (h.ext E) hl k day n).weak.mono ?_
  rintro _ w4 ⟨rfl, e4⟩
  have E := E.trans e4
  refine brE_false (by simp) ?_
  refine ⟨_, neqBool _ _ _ _, ?_⟩
  refine brE_false (by simp) ?_
  refine brE_false (by simp) ?_
  refine ⟨_, neqBool _ _ _ _, ?_⟩
  refine brE_false (by simp) ?_
  refine (alive_spec w4 (T.ext E)).mono ?_
  rintro _ w5 ⟨rfl, e5⟩
  have E := E.trans e5
  refine (Credentials_spec (h.ext E) hl k day n s).weak.mono ?_
  rintro _ w6 ⟨rfl, e6⟩
  have E := E.trans e6
  refine (refCredentials_spec (h.ext E) hl k day n s).weak.mono ?_
  rintro _ w7 ⟨rfl, e7⟩
  have E := E.trans e7
  refine brE_true (by simp) ?_
  refine (Visit_spec (h.ext E) hl k day n s).weak.mono ?_
  rintro _ w8 ⟨rfl, e8⟩
  have E := E.trans e8
  refine (refVisit_spec (h.ext E) hl k day n s).weak.mono ?_
  rintro _ w9 ⟨rfl, e9⟩
  have E := E.trans e9
  exact ⟨by simp, E⟩

end Go.Proofs.YthpdkdmbfdmamaaGreatDoor

namespace Go.Proofs.YthpdkdmbfdmamaaGreatDoor
open Go.Eng Go.RowKit Go.ChangeShapes Go.WideShapes Go.ChangeAt
open Go.ChangeMaps (open_string shut_string)

set_option maxRecDepth 100000 in
theorem factsPersons_lifted (os : Os) (started : os.Started) (H : Type) (enc : TypeId × Value → H) :
    ReturnsInHanded {} Tryz.checked os 16 .any (fun w args => (Rows.factsPersonsSpec.pre enc Tryz.prog Tryz.f16 Rows.factsPersonsRow.domain false w args ∧ laidMet Tryz.prog laidL w) ∧ sizedMet enc Tryz.prog Tryz.f16 (OpenSpec.ofChange Rows.factsPersonsSpec) false w args)
      (Rows.factsPersonsSpec.post enc Tryz.prog Tryz.f16 false true false false) := by
  refine returnsInHanded_of_change_and (C := Tryz.checked) (X := fun w _ => laidMet Tryz.prog laidL w) (fun _ _ _ hh h => h.of_heap hh) own started (by kernel_rfl) Tryz.func16
    (ChangeSpec.witness_at (enc := enc) (C := Tryz.checked) (os := os) (X := fun w _ => laidMet Tryz.prog laidL w) false (laidWorld os) #[.slice none 0 0, .int .i64 0, .int .i64 0, .int .i64 0, .int .i64 0] 8 rfl (by kernel_rfl) (by kernel_rfl) (by kernel_rfl) (by kernel_rfl) (by kernel_rfl) (laidWorld_met os _)) ?_
  intro W base args ds gs before hval0 hW _ hsz0 hL _
  have T := tabs_of_laid hL
  have hval : ∀ (j : Nat) t v, Tryz.f16.params[j]? = some t → args[j]? = some v → Value.okWide Tryz.prog W .any base t v := hval0
  have hW' := hW
  obtain ⟨p, q, hA0, hV, rfl, hfz, hnd⟩ := hW
  have hA : DataW.TrodAll enc Tryz.prog W 0 (fun _ => true) true [22, 3, 3, 3, 3] args.toList ds p := hA0
  obtain ⟨v0, v1, v2, v3, v4, d0, d1, d2, d3, d4, p0, p1, p2, p3, p4, rfl, rfl, rfl, h0, h1, h2, h3, h4⟩ := trodAll_n5 hA
  obtain ⟨rfl, rfl⟩ := trodVars_none hV
  obtain ⟨A0, l0, c0, rfl, hf0⟩ := open_facts (hval 0 22 v0 rfl rfl) h0
  obtain ⟨i1, rfl, _, _, wf1⟩ := open_int under3 (hval 1 3 v1 rfl rfl) h1
  obtain ⟨i2, rfl, _, _, wf2⟩ := open_int under3 (hval 2 3 v2 rfl rfl) h2
  obtain ⟨i3, rfl, _, _, wf3⟩ := open_int under3 (hval 3 3 v3 rfl rfl) h3
  obtain ⟨i4, rfl, _, _, wf4⟩ := open_int under3 (hval 4 3 v4 rfl rfl) h4
  refine (FactsPersons_spec hf0 T i1 i2 (wf_in64 wf3) i4 W (Same.refl W)).mono ?_
  rintro e W' ⟨⟨v, w'', rfl, ⟨rfl, he⟩, hs⟩, _⟩
  have he' : Ext W W' := he.same_right hs
  refine ⟨_, rfl, ?_⟩
  refine ⟨[d0, d1, d2, d3, d4], [], (p0 ++ (p1 ++ (p2 ++ (p3 ++ (p4))))) ++ [], [], p0 ++ (p1 ++ (p2 ++ (p3 ++ (p4)))), [], hW', ?_, ?_, rfl, Below.frame he' _, fun h => by cases h⟩
  · exact trodAll_mk1 (shut_bool under4 true)
  · exact trodAll_mkn5 (Below.trod laidOut recFs rowFs h0 he' fun x hx => hW'.lt x (by simp [hx])) (Below.trod laidOut rec3 row3 h1 he' fun x hx => hW'.lt x (by simp [hx])) (Below.trod laidOut rec3 row3 h2 he' fun x hx => hW'.lt x (by simp [hx])) (Below.trod laidOut rec3 row3 h3 he' fun x hx => hW'.lt x (by simp [hx])) (Below.trod laidOut rec3 row3 h4 he' fun x hx => hW'.lt x (by simp [hx]))

set_option maxHeartbeats 4000000 in
theorem factsPersons_closed : joinedFacts Tryz.pinned.checked.prog 16 Tryz.f16 Rows.factsPersonsSpec Rows.factsPersonsRow = true := by
  unfold joinedFacts
  iterate 31 refine Bool.and_eq_true_iff.2 ⟨?_, ?_⟩
  · as_aux_lemma => kernel_rfl
  · exact kLaid
  · exact kMaps
  · as_aux_lemma => kernel_rfl
  · as_aux_lemma => kernel_rfl
  · as_aux_lemma => kernel_rfl
  · exact kStops
  · as_aux_lemma => kernel_rfl
  · exact kKnobs
  · as_aux_lemma => kernel_rfl
  · as_aux_lemma => kernel_rfl
  · as_aux_lemma => kernel_rfl
  · as_aux_lemma => kernel_rfl
  · as_aux_lemma => kernel_rfl
  · as_aux_lemma => kernel_rfl
  · as_aux_lemma => kernel_rfl
  · as_aux_lemma => kernel_rfl
  · as_aux_lemma => kernel_rfl
  · as_aux_lemma => kernel_rfl
  · as_aux_lemma => kernel_rfl
  · as_aux_lemma => kernel_rfl
  · as_aux_lemma => kernel_rfl
  · exact beq_iff_eq.2 kPlain.symm
  · as_aux_lemma => kernel_rfl
  · exact kHeard
  · exact kEnter
  · exact beq_iff_eq.2 kLifts.symm
  · as_aux_lemma => kernel_rfl
  · as_aux_lemma => kernel_rfl
  · as_aux_lemma => kernel_rfl
  · as_aux_lemma => kernel_rfl
  · as_aux_lemma => kernel_rfl

theorem factsPersons_named : Tryz.pinned.checked.prog.funcNamed Rows.factsPersonsRow.func = some 16 := by kernel_rfl
theorem factsPersons_func : Tryz.pinned.checked.prog.funcs[16]? = some Tryz.f16 := Tryz.func16
theorem factsPersons_inst : Tryz.f16.isInstance Tryz.pinned.checked.prog Rows.factsPersonsRow.origin Rows.factsPersonsRow.targs := of_decide_eq_true (by kernel_rfl)
theorem factsPersons_wrap : Tryz.f16.isWrapper Tryz.pinned.checked.prog Rows.factsPersonsRow.wrapper Rows.factsPersonsRow.mainSum := by
  unfold Func.isWrapper; first | (rw [if_pos (by decide +kernel)]; kernel_rfl) | (rw [if_neg (by decide +kernel)]; exact ⟨rfl, rfl⟩)
theorem factsPersons_text : Rows.factsPersonsRow.wfByText (OpenSpec.ofChange Rows.factsPersonsSpec) = true := by kernel_rfl
theorem factsPersons_main : Tryz.pinned.checked.prog.mainIs = some (Rows.factsPersonsCard.stood.harness.1, Rows.factsPersonsCard.stood.harness.2.toList) := by kernel_rfl
theorem factsPersons_looks : true = Tryz.pinned.checked.prog.looks [] := by kernel_rfl
theorem factsPersons_goes : false = Rows.factsPersonsRow.goesBy Tryz.pinned.checked.prog := by kernel_rfl
theorem factsPersons_stand : (Tryz.f16.params.toList.all fun t => !Tryz.pinned.checked.prog.wantsStandIn t) = true := by kernel_rfl

theorem factsPersons_holds : Rows.FactsPersonsSaid :=
  OpenClaim.holds_of_wide 16 Tryz.f16 rfl rfl rfl rfl rfl rfl rfl ⟨rfl, rfl, rfl, rfl, rfl⟩ rfl rfl rfl rfl rfl factsPersons_named factsPersons_func factsPersons_closed factsPersons_inst factsPersons_wrap
    (fun os started H enc _ => factsPersons_lifted os started H enc)

theorem factsPersons : Rows.FactsPersonsCardSaid :=
  Claim7.holds_tied_plain_at .later [] [.data, .data, .data, .sentinel, .sentinel] true Rows.factsPersonsCard.stood.harness true
    factsPersons_holds (fun _ h => by cases h) factsPersons_text (fun _ h => by cases h) factsPersons_row_tie rfl ⟨rfl, rfl⟩ factsPersons_main rfl
    (fun f fn hf hfn => by
      obtain rfl : f = 16 := Option.some.inj (factsPersons_named.symm.trans hf) |>.symm
      obtain rfl : fn = Tryz.f16 := (Option.some.inj (factsPersons_func.symm.trans hfn)).symm
      refine ⟨factsPersons_looks, fun j t ht => ?_⟩
      have hm : t ∈ Tryz.f16.params.toList := by
        have := Array.mem_of_getElem? ht
        simpa using this
      exact Bool.not_eq_true' _ |>.mp (List.all_eq_true.1 factsPersons_stand t hm))
    factsPersons_goes

#print axioms factsPersons
end Go.Proofs.YthpdkdmbfdmamaaGreatDoor
