/- Proved: for every list of facts and two days the law FactsAt returns true, and its arguments read behind the call as they did before; what the library's variables hold is tied to the program's text. No further condition. -/
import Derived.Test.YthpdkdmbfdmamaaGreatDoorGDd
import Derived.Test.YthpdkdmbfdmamaaGreatDoorGDe
set_option linter.unusedVariables false
set_option linter.unusedSimpArgs false
set_option linter.unnecessarySimpa false
set_option linter.unusedSectionVars false
namespace Go.Proofs.YthpdkdmbfdmamaaGreatDoor
open Go.Eng Go.RowKit

set_option maxRecDepth 100000 in
theorem FactsAt_spec {w : World} {A : Option Addr} {l : List Fact} {c : Nat} (h : HF w A l c) (T : Tabs w) (k day : Int) :
    CallsW C.P 8 #[.slice A l.length c, .int .i64 k, .int .i64 day] w fun v w' => v = .bool true ∧ Ext w w' := by
  refine callsV_of Cw_ok (args := [_, _, _]) (plans := plans8) Tryz.func8 rfl Tryz.ntmps8 (by kernel_rfl) (Nat.le_of_ble_eq_true rfl) ?_
  have hcap := h.cap
  refine brE_dec (fun hb => ?_) (fun hb => ?_)
  · refine (alive_spec w T).mono ?_
    rintro v w1 ⟨rfl, e1⟩
    exact ⟨rfl, e1⟩
  have hb : ¬ (l.length : Int) > 30 := hb
  have hl : l.length ≤ 2 ^ 20 := by omega
  refine loopE Cw_ok (fun (i : Nat) => [(0, .slice A l.length c), (1, .int .i64 k), (2, .int .i64 day), (13, .slice A l.length c), (14, .int .i64 l.length), (15, .int .i64 i)])
    (fun i w' => i ≤ l.length ∧ Ext w w') (fun i => l.length - i) 0 ⟨rfl, rfl, rfl, rfl, rfl, rfl, trivial⟩ ⟨Nat.zero_le _, Ext.refl _⟩ ?_
  rintro i w2 ⟨hi, e2⟩
  refine brE_dec (fun hlt => ?_) (fun hge => ?_)
  · have hlt : i < l.length := by have : (i : Int) < (l.length : Nat) := hlt; omega
    obtain ⟨b, o, hA, hc⟩ := Reads.fact (h.reads.ext e2) hlt
    refine ⟨i, b, o, rfl, hlt, hA, ?_⟩
    refine ⟨l[i].cells, rfl, hc, ?_⟩
    intro g w3 h3
    refine ⟨rfl, _, _, h3.here, Nat.le_of_ble_eq_true rfl, rfl, ?_⟩
    intro w4 h4
    have h4 : Put w3 g (.cells l[i].cells.toArray 29 (0, 0)) w4 := h4
    have e24 : Ext w2 w4 := h4.ext_of h3.ext (by rw [h3.new]; exact Nat.le_refl _)
    refine ⟨l[i].cells, rfl, Rd.of_block h4.here, ?_⟩
    refine ⟨l[i].cells, rfl, Rd.of_block h4.here, ?_⟩
    refine (Holds_spec l[i] day w4).weak.mono ?_
    rintro v w5 ⟨rfl, e5⟩
    refine ⟨e5, ?_⟩
    refine (refHolds_spec l[i] day w5).weak.mono ?_
    rintro v w6 ⟨rfl, e6⟩
    refine ⟨_, neqBool _ _ (holdsB day l[i]) (holdsB day l[i]), ?_⟩
    refine brE_mk (fun hn => ?_) (fun hn => ?_)
    · simp at hn
    · refine ⟨((i + 1 : Nat) : Int), fit ⟨by omega, by omega⟩, ?_⟩
      exact ⟨i + 1, ⟨rfl, rfl, rfl, rfl, rfl, rfl, trivial⟩, ⟨hlt, ((e2.trans e24).trans e5).trans e6⟩, by omega⟩
  · refine (alive_spec w2 (T.ext e2)).mono ?_
    rintro v w3 ⟨rfl, e3⟩
    have e03 := e2.trans e3
    refine (At_spec (h.ext e03) hl k day).weak.mono ?_
    rintro v w4 ⟨ho4, e4⟩
    have e04 := e03.trans e4
    refine (refAt_spec (h.ext e04) hl k day).weak.mono ?_
    rintro v w5 ⟨ho5, e5⟩
    have hlen := atL_length k day l
    obtain ⟨A4, c4, rfl, hr4, _⟩ := ho4.slice
    obtain ⟨A5, c5, rfl, hr5, _⟩ := ho5.slice
    refine (SameFacts_spec (hr4.ext e5) hr5 (by omega)).weak.mono ?_
    rintro v w6 ⟨rfl, rfl⟩
    exact ⟨by rw [decide_eq_true rfl], e04.trans e5⟩

end Go.Proofs.YthpdkdmbfdmamaaGreatDoor

namespace Go.Proofs.YthpdkdmbfdmamaaGreatDoor
open Go.Eng Go.RowKit Go.ChangeShapes Go.WideShapes Go.ChangeAt
open Go.ChangeMaps (open_string shut_string)

set_option maxRecDepth 100000 in
theorem factsAt_lifted (os : Os) (started : os.Started) (H : Type) (enc : TypeId × Value → H) :
    ReturnsInHanded {} Tryz.checked os 8 .any (fun w args => (Rows.factsAtSpec.pre enc Tryz.prog Tryz.f8 Rows.factsAtRow.domain false w args ∧ laidMet Tryz.prog laidL w) ∧ sizedMet enc Tryz.prog Tryz.f8 (OpenSpec.ofChange Rows.factsAtSpec) false w args)
      (Rows.factsAtSpec.post enc Tryz.prog Tryz.f8 false true false false) := by
  refine returnsInHanded_of_change_and (C := Tryz.checked) (X := fun w _ => laidMet Tryz.prog laidL w) (fun _ _ _ hh h => h.of_heap hh) own started (by kernel_rfl) Tryz.func8
    (ChangeSpec.witness_at (enc := enc) (C := Tryz.checked) (os := os) (X := fun w _ => laidMet Tryz.prog laidL w) false (laidWorld os) #[.slice none 0 0, .int .i64 0, .int .i64 0] 8 rfl (by kernel_rfl) (by kernel_rfl) (by kernel_rfl) (by kernel_rfl) (by kernel_rfl) (laidWorld_met os _)) ?_
  intro W base args ds gs before hval0 hW _ hsz0 hL _
  have T := tabs_of_laid hL
  have hval : ∀ (j : Nat) t v, Tryz.f8.params[j]? = some t → args[j]? = some v → Value.okWide Tryz.prog W .any base t v := hval0
  have hW' := hW
  obtain ⟨p, q, hA0, hV, rfl, hfz, hnd⟩ := hW
  have hA : DataW.TrodAll enc Tryz.prog W 0 (fun _ => true) true [22, 3, 3] args.toList ds p := hA0
  obtain ⟨v0, v1, v2, d0, d1, d2, p0, p1, p2, rfl, rfl, rfl, h0, h1, h2⟩ := trodAll_three hA
  obtain ⟨rfl, rfl⟩ := trodVars_none hV
  obtain ⟨A0, l0, c0, rfl, hf0⟩ := open_facts (hval 0 22 v0 rfl rfl) h0
  obtain ⟨i1, rfl, _, _, wf1⟩ := open_int under3 (hval 1 3 v1 rfl rfl) h1
  obtain ⟨i2, rfl, _, _, wf2⟩ := open_int under3 (hval 2 3 v2 rfl rfl) h2
  refine (FactsAt_spec hf0 T i1 i2 W (Same.refl W)).mono ?_
  rintro e W' ⟨⟨v, w'', rfl, ⟨rfl, he⟩, hs⟩, _⟩
  have he' : Ext W W' := he.same_right hs
  refine ⟨_, rfl, ?_⟩
  refine ⟨[d0, d1, d2], [], (p0 ++ p1 ++ p2) ++ [], [], p0 ++ (p1 ++ (p2)), [], hW', ?_, ?_, rfl, Below.frame he' _, fun h => by cases h⟩
  · exact trodAll_mk1 (shut_bool under4 true)
  · exact trodAll_mk3 (Below.trod laidOut recFs rowFs h0 he' fun x hx => hW'.lt x (by simp [hx])) (Below.trod laidOut rec3 row3 h1 he' fun x hx => hW'.lt x (by simp [hx])) (Below.trod laidOut rec3 row3 h2 he' fun x hx => hW'.lt x (by simp [hx]))

set_option maxHeartbeats 4000000 in
theorem factsAt_closed : joinedFacts Tryz.pinned.checked.prog 8 Tryz.f8 Rows.factsAtSpec Rows.factsAtRow = true := by
  unfold joinedFacts
  iterate 31 refine Bool.and_eq_true_iff.2 ⟨?_, ?_⟩
  · as_aux_lemma => kernel_rfl
  · exact kLaid
  · exact kMaps
  · as_aux_lemma => kernel_rfl
  · as_aux_lemma => kernel_rfl
  · as_aux_lemma => kernel_rfl
  · exact kStops
  · as_aux_lemma => kernel_rfl
  · exact kKnobs
  · as_aux_lemma => kernel_rfl
  · as_aux_lemma => kernel_rfl
  · as_aux_lemma => kernel_rfl
  · as_aux_lemma => kernel_rfl
  · as_aux_lemma => kernel_rfl
  · as_aux_lemma => kernel_rfl
  · as_aux_lemma => kernel_rfl
  · as_aux_lemma => kernel_rfl
  · as_aux_lemma => kernel_rfl
  · as_aux_lemma => kernel_rfl
  · as_aux_lemma => kernel_rfl
  · as_aux_lemma => kernel_rfl
  · as_aux_lemma => kernel_rfl
  · exact beq_iff_eq.2 kPlain.symm
  · as_aux_lemma => kernel_rfl
  · exact kHeard
  · exact kEnter
  · exact beq_iff_eq.2 kLifts.symm
  · as_aux_lemma => kernel_rfl
  · as_aux_lemma => kernel_rfl
  · as_aux_lemma => kernel_rfl
  · as_aux_lemma => kernel_rfl
  · as_aux_lemma => kernel_rfl

theorem factsAt_named : Tryz.pinned.checked.prog.funcNamed Rows.factsAtRow.func = some 8 := by kernel_rfl
theorem factsAt_func : Tryz.pinned.checked.prog.funcs[8]? = some Tryz.f8 := Tryz.func8
theorem factsAt_inst : Tryz.f8.isInstance Tryz.pinned.checked.prog Rows.factsAtRow.origin Rows.factsAtRow.targs := of_decide_eq_true (by kernel_rfl)
theorem factsAt_wrap : Tryz.f8.isWrapper Tryz.pinned.checked.prog Rows.factsAtRow.wrapper Rows.factsAtRow.mainSum := by
  unfold Func.isWrapper; first | (rw [if_pos (by decide +kernel)]; kernel_rfl) | (rw [if_neg (by decide +kernel)]; exact ⟨rfl, rfl⟩)
theorem factsAt_text : Rows.factsAtRow.wfByText (OpenSpec.ofChange Rows.factsAtSpec) = true := by kernel_rfl
theorem factsAt_main : Tryz.pinned.checked.prog.mainIs = some (Rows.factsAtCard.stood.harness.1, Rows.factsAtCard.stood.harness.2.toList) := by kernel_rfl
theorem factsAt_looks : true = Tryz.pinned.checked.prog.looks [] := by kernel_rfl
theorem factsAt_goes : false = Rows.factsAtRow.goesBy Tryz.pinned.checked.prog := by kernel_rfl
theorem factsAt_stand : (Tryz.f8.params.toList.all fun t => !Tryz.pinned.checked.prog.wantsStandIn t) = true := by kernel_rfl

theorem factsAt_holds : Rows.FactsAtSaid :=
  OpenClaim.holds_of_wide 8 Tryz.f8 rfl rfl rfl rfl rfl rfl rfl ⟨rfl, rfl, rfl, rfl, rfl⟩ rfl rfl rfl rfl rfl factsAt_named factsAt_func factsAt_closed factsAt_inst factsAt_wrap
    (fun os started H enc _ => factsAt_lifted os started H enc)

theorem factsAt : Rows.FactsAtCardSaid :=
  Claim7.holds_tied_plain_at .later [] [.data, .data, .data, .sentinel, .sentinel] true Rows.factsAtCard.stood.harness true
    factsAt_holds (fun _ h => by cases h) factsAt_text (fun _ h => by cases h) factsAt_row_tie rfl ⟨rfl, rfl⟩ factsAt_main rfl
    (fun f fn hf hfn => by
      obtain rfl : f = 8 := Option.some.inj (factsAt_named.symm.trans hf) |>.symm
      obtain rfl : fn = Tryz.f8 := (Option.some.inj (factsAt_func.symm.trans hfn)).symm
      refine ⟨factsAt_looks, fun j t ht => ?_⟩
      have hm : t ∈ Tryz.f8.params.toList := by
        have := Array.mem_of_getElem? ht
        simpa using this
      exact Bool.not_eq_true' _ |>.mp (List.all_eq_true.1 factsAt_stand t hm))
    factsAt_goes

#print axioms factsAt
end Go.Proofs.YthpdkdmbfdmamaaGreatDoor
