/- Proved: for every list of facts and six numbers the law FactsOffices returns true, and its arguments read behind the call as they did before; what the library's variables hold is tied to the program's text. No further condition. -/
import Derived.Test.YthpdkdmbfdmamaaGreatDoorGDf
import Derived.Test.YthpdkdmbfdmamaaGreatDoorGFb
import Derived.Test.YthpdkdmbfdmamaaGreatDoorGDd
import Derived.Test.YthpdkdmbfdmamaaGreatDoorGDe
set_option linter.unusedVariables false
set_option linter.unusedSimpArgs false
set_option linter.unnecessarySimpa false
set_option linter.unusedSectionVars false
namespace Go.Proofs.YthpdkdmbfdmamaaGreatDoor
open Go.Eng Go.RowKit

theorem sameI {w : World} {v u : Value} {B D : Nat} {xs : List Int} (hv : NewInts B w v xs) (hu : NewInts D w u xs) : CallsV C.P 38 #[v, u] w fun r w' => r = .bool true ∧ w' = w := by
  obtain ⟨A1, c1, rfl, h1, _⟩ := NewInts.slice hv
  obtain ⟨A2, c2, rfl, h2, _⟩ := NewInts.slice hu
  have s := SameInts_spec (c := c1) (d := c2) h1 h2 (ownsRow_len hv)
  rw [decide_eq_true rfl] at s
  exact s

set_option maxRecDepth 100000 in
theorem FactsOffices_spec {w : World} {A : Option Addr} {l : List Fact} {c : Nat} (h : HF w A l c) (T : Tabs w) (k day host n s cl : Int) :
    CallsW C.P 14 #[.slice A l.length c, .int .i64 k, .int .i64 day, .int .i64 host, .int .i64 n, .int .i64 s, .int .i64 cl] w fun v w' => v = .bool true ∧ Ext w w' := by
  refine callsV_of Cw_ok (args := [_, _, _, _, _, _, _]) (plans := []) Tryz.func14 rfl Tryz.ntmps14 (by kernel_rfl) (Nat.le_of_ble_eq_true rfl) ?_
  have hcap := h.cap
  refine brE_dec (fun ha => ?_) (fun ha => ?_)
  · refine (alive_spec w T).mono ?_
    rintro v w2 ⟨rfl, e2⟩
    exact ⟨rfl, e2⟩
  have ha : ¬ (l.length : Int) > 30 := ha
  have hl : l.length ≤ 2 ^ 20 := by omega
  refine (Recognised_spec h hl k day host s).weak.mono ?_
  rintro _ w1 ⟨rfl, E⟩
  refine (refRecognised_spec (h.ext E) hl k day host s).weak.mono ?_
  rintro _ w2 ⟨rfl, e2⟩
  have E := E.trans e2
  refine (Class_spec (h.ext E) hl k day host n s).weak.mono ?_
  rintro _ w3 ⟨rfl, e3⟩
  have E := E.trans e3
  refine (refClass_spec (h.ext E) hl k day host n s).weak.mono ?_
  rintro _ w4 ⟨rfl, e4⟩
  have E := E.trans e4
  refine brE_false (by simp) ?_
  refine ⟨_, neqBool _ _ _ _, ?_⟩
  refine brE_false (by simp) ?_
  refine brE_false (by simp) ?_
  refine ⟨_, neqBool _ _ _ _, ?_⟩
  refine brE_false (by simp) ?_
  refine (Holders_spec (h.ext E) hl k day s cl).weak.mono ?_
  rintro _ w5 ⟨ho5, e5⟩
  have E := E.trans e5
  refine (refHolders_spec (h.ext E) hl k day s cl).weak.mono ?_
  rintro _ w6 ⟨ho6, e6⟩
  have E := E.trans e6
  refine (sameI (ho5.ext e6) ho6).weak.mono ?_
  rintro _ w7 ⟨rfl, rfl⟩
  refine (Acting_spec (h.ext E) hl k day s cl).weak.mono ?_
  rintro _ w8 ⟨ho8, e8⟩
  have E := E.trans e8
  refine (refActing_spec (h.ext E) hl k day s cl).weak.mono ?_
  rintro _ w9 ⟨ho9, e9⟩
  have E := E.trans e9
  refine (sameI (ho8.ext e9) ho9).weak.mono ?_
  rintro _ w10 ⟨rfl, rfl⟩
  refine (Contested_spec (h.ext E) hl k day).weak.mono ?_
  rintro _ w11 ⟨ho11, e11⟩
  have E := E.trans e11
  refine (refContested_spec (h.ext E) hl k day).weak.mono ?_
  rintro _ w12 ⟨ho12, e12⟩
  have E := E.trans e12
  refine (sameI (ho11.ext e12) ho12).weak.mono ?_
  rintro _ w13 ⟨rfl, rfl⟩
  refine (alive_spec _ (T.ext E)).mono ?_
  rintro _ w14 ⟨rfl, e14⟩
  have E := E.trans e14
  refine (Dead_spec (h.ext E) hl k day n).weak.mono ?_
  rintro _ w15 ⟨rfl, e15⟩
  have E := E.trans e15
  refine (refDead_spec (h.ext E) hl k day n).weak.mono ?_
  rintro _ w16 ⟨rfl, e16⟩
  have E := E.trans e16
  refine ⟨_, eqBool _ _ _ _, ?_⟩
  refine brE_true (by simp) ?_
  refine (HoldsClass_spec (h.ext E) hl k day n s).weak.mono ?_
  rintro _ w17 ⟨rfl, e17⟩
  have E := E.trans e17
  refine (refHoldsClass_spec (h.ext E) hl k day n s).weak.mono ?_
  rintro _ w18 ⟨rfl, e18⟩
  have E := E.trans e18
  exact ⟨by simp, E⟩

end Go.Proofs.YthpdkdmbfdmamaaGreatDoor

namespace Go.Proofs.YthpdkdmbfdmamaaGreatDoor
open Go.Eng Go.RowKit Go.ChangeShapes Go.WideShapes Go.ChangeAt
open Go.ChangeMaps (open_string shut_string)

set_option maxRecDepth 100000 in
theorem factsOffices_lifted (os : Os) (started : os.Started) (H : Type) (enc : TypeId × Value → H) :
    ReturnsInHanded {} Tryz.checked os 14 .any (fun w args => (Rows.factsOfficesSpec.pre enc Tryz.prog Tryz.f14 Rows.factsOfficesRow.domain false w args ∧ laidMet Tryz.prog laidL w) ∧ sizedMet enc Tryz.prog Tryz.f14 (OpenSpec.ofChange Rows.factsOfficesSpec) false w args)
      (Rows.factsOfficesSpec.post enc Tryz.prog Tryz.f14 false true false false) := by
  refine returnsInHanded_of_change_and (C := Tryz.checked) (X := fun w _ => laidMet Tryz.prog laidL w) (fun _ _ _ hh h => h.of_heap hh) own started (by kernel_rfl) Tryz.func14
    (ChangeSpec.witness_at (enc := enc) (C := Tryz.checked) (os := os) (X := fun w _ => laidMet Tryz.prog laidL w) false (laidWorld os) #[.slice none 0 0, .int .i64 0, .int .i64 0, .int .i64 0, .int .i64 0, .int .i64 0, .int .i64 0] 8 rfl (by kernel_rfl) (by kernel_rfl) (by kernel_rfl) (by kernel_rfl) (by kernel_rfl) (laidWorld_met os _)) ?_
  intro W base args ds gs before hval0 hW _ hsz0 hL _
  have T := tabs_of_laid hL
  have hval : ∀ (j : Nat) t v, Tryz.f14.params[j]? = some t → args[j]? = some v → Value.okWide Tryz.prog W .any base t v := hval0
  have hW' := hW
  obtain ⟨p, q, hA0, hV, rfl, hfz, hnd⟩ := hW
  have hA : DataW.TrodAll enc Tryz.prog W 0 (fun _ => true) true [22, 3, 3, 3, 3, 3, 3] args.toList ds p := hA0
  obtain ⟨v0, v1, v2, v3, v4, v5, v6, d0, d1, d2, d3, d4, d5, d6, p0, p1, p2, p3, p4, p5, p6, rfl, rfl, rfl, h0, h1, h2, h3, h4, h5, h6⟩ := trodAll_n7 hA
  obtain ⟨rfl, rfl⟩ := trodVars_none hV
  obtain ⟨A0, l0, c0, rfl, hf0⟩ := open_facts (hval 0 22 v0 rfl rfl) h0
  obtain ⟨i1, rfl, _, _, wf1⟩ := open_int under3 (hval 1 3 v1 rfl rfl) h1
  obtain ⟨i2, rfl, _, _, wf2⟩ := open_int under3 (hval 2 3 v2 rfl rfl) h2
  obtain ⟨i3, rfl, _, _, wf3⟩ := open_int under3 (hval 3 3 v3 rfl rfl) h3
  obtain ⟨i4, rfl, _, _, wf4⟩ := open_int under3 (hval 4 3 v4 rfl rfl) h4
  obtain ⟨i5, rfl, _, _, wf5⟩ := open_int under3 (hval 5 3 v5 rfl rfl) h5
  obtain ⟨i6, rfl, _, _, wf6⟩ := open_int under3 (hval 6 3 v6 rfl rfl) h6
  refine (FactsOffices_spec hf0 T i1 i2 i3 i4 i5 i6 W (Same.refl W)).mono ?_
  rintro e W' ⟨⟨v, w'', rfl, ⟨rfl, he⟩, hs⟩, _⟩
  have he' : Ext W W' := he.same_right hs
  refine ⟨_, rfl, ?_⟩
  refine ⟨[d0, d1, d2, d3, d4, d5, d6], [], (p0 ++ (p1 ++ (p2 ++ (p3 ++ (p4 ++ (p5 ++ (p6))))))) ++ [], [], p0 ++ (p1 ++ (p2 ++ (p3 ++ (p4 ++ (p5 ++ (p6)))))), [], hW', ?_, ?_, rfl, Below.frame he' _, fun h => by cases h⟩
  · exact trodAll_mk1 (shut_bool under4 true)
  · exact trodAll_mkn7 (Below.trod laidOut recFs rowFs h0 he' fun x hx => hW'.lt x (by simp [hx])) (Below.trod laidOut rec3 row3 h1 he' fun x hx => hW'.lt x (by simp [hx])) (Below.trod laidOut rec3 row3 h2 he' fun x hx => hW'.lt x (by simp [hx])) (Below.trod laidOut rec3 row3 h3 he' fun x hx => hW'.lt x (by simp [hx])) (Below.trod laidOut rec3 row3 h4 he' fun x hx => hW'.lt x (by simp [hx])) (Below.trod laidOut rec3 row3 h5 he' fun x hx => hW'.lt x (by simp [hx])) (Below.trod laidOut rec3 row3 h6 he' fun x hx => hW'.lt x (by simp [hx]))

set_option maxHeartbeats 4000000 in
theorem factsOffices_closed : joinedFacts Tryz.pinned.checked.prog 14 Tryz.f14 Rows.factsOfficesSpec Rows.factsOfficesRow = true := by
  unfold joinedFacts
  iterate 31 refine Bool.and_eq_true_iff.2 ⟨?_, ?_⟩
  · as_aux_lemma => kernel_rfl
  · exact kLaid
  · exact kMaps
  · as_aux_lemma => kernel_rfl
  · as_aux_lemma => kernel_rfl
  · as_aux_lemma => kernel_rfl
  · exact kStops
  · as_aux_lemma => kernel_rfl
  · exact kKnobs
  · as_aux_lemma => kernel_rfl
  · as_aux_lemma => kernel_rfl
  · as_aux_lemma => kernel_rfl
  · as_aux_lemma => kernel_rfl
  · as_aux_lemma => kernel_rfl
  · as_aux_lemma => kernel_rfl
  · as_aux_lemma => kernel_rfl
  · as_aux_lemma => kernel_rfl
  · as_aux_lemma => kernel_rfl
  · as_aux_lemma => kernel_rfl
  · as_aux_lemma => kernel_rfl
  · as_aux_lemma => kernel_rfl
  · as_aux_lemma => kernel_rfl
  · exact beq_iff_eq.2 kPlain.symm
  · as_aux_lemma => kernel_rfl
  · exact kHeard
  · exact kEnter
  · exact beq_iff_eq.2 kLifts.symm
  · as_aux_lemma => kernel_rfl
  · as_aux_lemma => kernel_rfl
  · as_aux_lemma => kernel_rfl
  · as_aux_lemma => kernel_rfl
  · as_aux_lemma => kernel_rfl

theorem factsOffices_named : Tryz.pinned.checked.prog.funcNamed Rows.factsOfficesRow.func = some 14 := by kernel_rfl
theorem factsOffices_func : Tryz.pinned.checked.prog.funcs[14]? = some Tryz.f14 := Tryz.func14
theorem factsOffices_inst : Tryz.f14.isInstance Tryz.pinned.checked.prog Rows.factsOfficesRow.origin Rows.factsOfficesRow.targs := of_decide_eq_true (by kernel_rfl)
theorem factsOffices_wrap : Tryz.f14.isWrapper Tryz.pinned.checked.prog Rows.factsOfficesRow.wrapper Rows.factsOfficesRow.mainSum := by
  unfold Func.isWrapper; first | (rw [if_pos (by decide +kernel)]; kernel_rfl) | (rw [if_neg (by decide +kernel)]; exact ⟨rfl, rfl⟩)
theorem factsOffices_text : Rows.factsOfficesRow.wfByText (OpenSpec.ofChange Rows.factsOfficesSpec) = true := by kernel_rfl
theorem factsOffices_main : Tryz.pinned.checked.prog.mainIs = some (Rows.factsOfficesCard.stood.harness.1, Rows.factsOfficesCard.stood.harness.2.toList) := by kernel_rfl
theorem factsOffices_looks : true = Tryz.pinned.checked.prog.looks [] := by kernel_rfl
theorem factsOffices_goes : false = Rows.factsOfficesRow.goesBy Tryz.pinned.checked.prog := by kernel_rfl
theorem factsOffices_stand : (Tryz.f14.params.toList.all fun t => !Tryz.pinned.checked.prog.wantsStandIn t) = true := by kernel_rfl

theorem factsOffices_holds : Rows.FactsOfficesSaid :=
  OpenClaim.holds_of_wide 14 Tryz.f14 rfl rfl rfl rfl rfl rfl rfl ⟨rfl, rfl, rfl, rfl, rfl⟩ rfl rfl rfl rfl rfl factsOffices_named factsOffices_func factsOffices_closed factsOffices_inst factsOffices_wrap
    (fun os started H enc _ => factsOffices_lifted os started H enc)

theorem factsOffices : Rows.FactsOfficesCardSaid :=
  Claim7.holds_tied_plain_at .later [] [.data, .data, .data, .sentinel, .sentinel] true Rows.factsOfficesCard.stood.harness true
    factsOffices_holds (fun _ h => by cases h) factsOffices_text (fun _ h => by cases h) factsOffices_row_tie rfl ⟨rfl, rfl⟩ factsOffices_main rfl
    (fun f fn hf hfn => by
      obtain rfl : f = 14 := Option.some.inj (factsOffices_named.symm.trans hf) |>.symm
      obtain rfl : fn = Tryz.f14 := (Option.some.inj (factsOffices_func.symm.trans hfn)).symm
      refine ⟨factsOffices_looks, fun j t ht => ?_⟩
      have hm : t ∈ Tryz.f14.params.toList := by
        have := Array.mem_of_getElem? ht
        simpa using this
      exact Bool.not_eq_true' _ |>.mp (List.all_eq_true.1 factsOffices_stand t hm))
    factsOffices_goes

#print axioms factsOffices
end Go.Proofs.YthpdkdmbfdmamaaGreatDoor
