/- Proved: for every list of facts, two days and question the law FactsStill returns true, and its arguments read behind the call as they did before; what the library's variables hold is tied to the program's text. No further condition. -/
import Derived.Test.YthpdkdmbfdmamaaGreatDoorGDf
import Derived.Test.YthpdkdmbfdmamaaGreatDoorGDd
import Derived.Test.YthpdkdmbfdmamaaGreatDoorGDe
set_option linter.unusedVariables false
set_option linter.unusedSimpArgs false
set_option linter.unnecessarySimpa false
set_option linter.unusedSectionVars false
namespace Go.Proofs.YthpdkdmbfdmamaaGreatDoor
open Go.Eng Go.RowKit

set_option maxRecDepth 100000 in
set_option maxHeartbeats 1000000 in
theorem FactsStill_spec {w : World} {A : Option Addr} {l : List Fact} {c : Nat} (h : HF w A l c) (T : Tabs w) {k day : Int} (hk : In64 k) (hd : In64 day) (q : Asked) (hq : In64 q.person) :
    CallsW C.P 18 #[.slice A l.length c, .int .i64 k, .int .i64 day, q.val] w fun v w' => v = .bool true ∧ Ext w w' := by
  refine callsV_of Cw_ok (args := [_, _, _, _]) (plans := plans18) Tryz.func18 rfl Tryz.ntmps18 (by kernel_rfl) (Nat.le_of_ble_eq_true rfl) ?_
  have hcap := h.cap
  intro g7 w1 h1
  have M1 : Mem w w1 [(g7, .cells q.cells.toArray 66 (0, 0))] := (Mem.start w).alloc h1
  refine brE_dec (fun ha => ?_) (fun ha => ?_)
  · refine (alive_spec w1 (T.ext M1.ext)).mono ?_
    rintro v w2 ⟨rfl, e2⟩
    exact ⟨rfl, M1.ext.trans e2⟩
  have ha : ¬ (l.length : Int) > 30 := ha
  have hl : l.length ≤ 2 ^ 20 := by omega
  have hlt := sortD_length (endsL l)
  refine ⟨q.cells, rfl, M1.rd 0 rfl, ?_⟩
  refine (ask_spec (h.ext M1.ext) hl k day q hq).weak.mono ?_
  rintro v w2 ⟨ha2, e2⟩
  obtain ⟨s1, s2, s3, s4, s5, rfl, n1, n2, n3, n4, n5⟩ := ha2
  have M2 := M1.grow e2
  obtain ⟨A1, c1, rfl, _, _⟩ := NewInts.slice n1
  obtain ⟨A2, c2, rfl, _, _⟩ := NewInts.slice n2
  obtain ⟨A3, c3, rfl, _, _⟩ := NewInts.slice n3
  obtain ⟨A4, c4, rfl, _, _⟩ := NewInts.slice n4
  obtain ⟨A5, c5, rfl, _, _⟩ := NewInts.slice n5
  intro g9 w3 h3
  refine ⟨rfl, _, _, h3.here, Nat.le_of_ble_eq_true rfl, rfl, ?_⟩
  intro w4 h4
  have h4 := put_eq h4 (o' := .cells ((askL (atL k day l) q).cells (.slice A1 (askL (atL k day l) q).states.length c1) (.slice A2 (askL (atL k day l) q).alphabet.length c2) (.slice A3 (askL (atL k day l) q).holders.length c3) (.slice A4 (askL (atL k day l) q).acting.length c4) (.slice A5 (askL (atL k day l) q).contested.length c5)).toArray 69 (0, 0)) rfl
  have e34 : Ext w2 w4 := h4.ext_of h3.ext (by rw [h3.new]; exact Nat.le_refl _)
  have M4 := (M2.alloc h3).put 0 rfl h4
  have hs4 : AnsIs w1.heap.size w4 (.agg ((askL (atL k day l) q).cells (.slice A1 (askL (atL k day l) q).states.length c1) (.slice A2 (askL (atL k day l) q).alphabet.length c2) (.slice A3 (askL (atL k day l) q).holders.length c3) (.slice A4 (askL (atL k day l) q).acting.length c4) (.slice A5 (askL (atL k day l) q).contested.length c5)).toArray) (askL (atL k day l) q) :=
    ⟨_, _, _, _, _, rfl, n1.ext e34, n2.ext e34, n3.ext e34, n4.ext e34, n5.ext e34⟩
  have hV1 : ((askL (atL k day l) q).cells (.slice A1 (askL (atL k day l) q).states.length c1) (.slice A2 (askL (atL k day l) q).alphabet.length c2) (.slice A3 (askL (atL k day l) q).holders.length c3) (.slice A4 (askL (atL k day l) q).acting.length c4) (.slice A5 (askL (atL k day l) q).contested.length c5)).length = 21 := rfl
  generalize (askL (atL k day l) q).cells (.slice A1 (askL (atL k day l) q).states.length c1) (.slice A2 (askL (atL k day l) q).alphabet.length c2) (.slice A3 (askL (atL k day l) q).holders.length c3) (.slice A4 (askL (atL k day l) q).acting.length c4) (.slice A5 (askL (atL k day l) q).contested.length c5) = V at *
  replace M4 : Mem w w4 [(g9, .cells V.toArray 69 (0, 0)), (g7, .cells q.cells.toArray 66 (0, 0))] := M4
  have hts : (turnsL k l).length ≤ 2 ^ 40 := by
    have h1 := List.length_filter_le (turnB k l) (sortD (endsL l))
    have h2 := sortD_length (endsL l)
    rw [endsL_length] at h2
    unfold turnsL; omega
  have hls : (learnedL day l).length ≤ 2 ^ 40 := by
    have h1 := List.length_filter_le (learnB day l) (sortD (l.map Fact.known))
    have h2 := sortD_length (l.map Fact.known)
    rw [List.length_map] at h2
    unfold learnedL; omega
  refine brE_dec (fun d1 => ?Y1) (fun d1 => ?N1)
  case' Y1 => refine brE_dec (fun d2 => ?Y2) (fun d2 => ?N2)
  case' Y2 =>
    refine (Turns_spec (h.ext M4.ext) hl k).weak.mono ?_
    rintro v w5 ⟨ho5, e5⟩
    obtain ⟨At, ct, rfl, hrt, _⟩ := ho5.slice
    refine (has_spec hrt hts day).weak.mono ?_
    rintro v w6 ⟨rfl, e6⟩
    have M6 := (M4.grow e5).grow e6
    have hs6 := hs4.ext (e5.trans e6)
    refine brE_ndec (fun d3 => ?Y3) (fun d3 => ?N3)
  case Y3 =>
    have d3 : day ∉ turnsL k l := d3
    have d1 : day ≥ 1 := d1
    have d2 : day ≤ 100000 := d2
    have same := turns_not (k := k) (l := l) (d := day) (by unfold dayB; exact decide_eq_true ⟨by omega, d2⟩) d3
    refine ⟨V, hV1, M6.rd 0 rfl, ?_⟩
    refine ⟨day - 1, fit ⟨by omega, by omega⟩, ?_⟩
    refine ⟨q.cells, rfl, M6.rd 1 rfl, ?_⟩
    refine (ask_spec (h.ext M6.ext) hl k (day - 1) q hq).weak.mono ?_
    rintro v w7 ⟨ha7, e7⟩
    refine ⟨e7, ?_⟩
    rw [← same] at ha7
    refine (same_spec (hs6.ext e7) ha7).weak.mono ?_
    rintro _ w8 ⟨rfl, e8⟩
    have M9 := (M6.grow e7).grow e8
    have hs9 := (hs6.ext e7).ext e8
    refine brE_dec (fun f1 => ?YA1) (fun f1 => ?NA1)
    case' YA1 => refine brE_dec (fun f2 => ?YB1) (fun f2 => ?NB1)
    case' YB1 =>
      refine (Learned_spec (h.ext M9.ext) hl day).weak.mono ?_
      rintro v w15 ⟨ho15, e15⟩
      obtain ⟨At, ct, rfl, hrt, _⟩ := ho15.slice
      refine (has_spec hrt hls k).weak.mono ?_
      rintro v w16 ⟨rfl, e16⟩
      have M16 := (M9.grow e15).grow e16
      have hs16 := hs9.ext (e15.trans e16)
      refine brE_ndec (fun f3 => ?YC1) (fun f3 => ?NC1)
    case' YC1 =>
      have f3 : k ∉ learnedL day l := f3
      have f1 : k ≥ 1 := f1
      have f2 : k ≤ 100000 := f2
      have same := learned_not (k := k) (l := l) (day := day) (by unfold dayB; exact decide_eq_true ⟨by omega, f2⟩) f3
      refine ⟨V, hV1, M16.rd 0 rfl, ?_⟩
      refine ⟨k - 1, fit ⟨by omega, by omega⟩, ?_⟩
      refine ⟨q.cells, rfl, M16.rd 1 rfl, ?_⟩
      refine (ask_spec (h.ext M16.ext) hl (k - 1) day q hq).weak.mono ?_
      rintro v w17 ⟨ha17, e17⟩
      refine ⟨e17, ?_⟩
      rw [← same] at ha17
      refine (same_spec (hs16.ext e17) ha17).weak.mono ?_
      rintro _ w18 ⟨rfl, e18⟩
      have M19 := (M16.grow e17).grow e18
    case' NA1 => have M19 := M9
    case' NB1 => have M19 := M9
    case' NC1 => have M19 := M16
    all_goals
      refine (alive_spec _ (T.ext M19.ext)).mono ?_
      rintro v w20 ⟨rfl, e20⟩
      exact ⟨rfl, M19.ext.trans e20⟩
  case N1 =>
    have M9 := M4
    have hs9 := hs4
    refine brE_dec (fun f1 => ?YA2) (fun f1 => ?NA2)
    case' YA2 => refine brE_dec (fun f2 => ?YB2) (fun f2 => ?NB2)
    case' YB2 =>
      refine (Learned_spec (h.ext M9.ext) hl day).weak.mono ?_
      rintro v w15 ⟨ho15, e15⟩
      obtain ⟨At, ct, rfl, hrt, _⟩ := ho15.slice
      refine (has_spec hrt hls k).weak.mono ?_
      rintro v w16 ⟨rfl, e16⟩
      have M16 := (M9.grow e15).grow e16
      have hs16 := hs9.ext (e15.trans e16)
      refine brE_ndec (fun f3 => ?YC2) (fun f3 => ?NC2)
    case' YC2 =>
      have f3 : k ∉ learnedL day l := f3
      have f1 : k ≥ 1 := f1
      have f2 : k ≤ 100000 := f2
      have same := learned_not (k := k) (l := l) (day := day) (by unfold dayB; exact decide_eq_true ⟨by omega, f2⟩) f3
      refine ⟨V, hV1, M16.rd 0 rfl, ?_⟩
      refine ⟨k - 1, fit ⟨by omega, by omega⟩, ?_⟩
      refine ⟨q.cells, rfl, M16.rd 1 rfl, ?_⟩
      refine (ask_spec (h.ext M16.ext) hl (k - 1) day q hq).weak.mono ?_
      rintro v w17 ⟨ha17, e17⟩
      refine ⟨e17, ?_⟩
      rw [← same] at ha17
      refine (same_spec (hs16.ext e17) ha17).weak.mono ?_
      rintro _ w18 ⟨rfl, e18⟩
      have M19 := (M16.grow e17).grow e18
    case' NA2 => have M19 := M9
    case' NB2 => have M19 := M9
    case' NC2 => have M19 := M16
    all_goals
      refine (alive_spec _ (T.ext M19.ext)).mono ?_
      rintro v w20 ⟨rfl, e20⟩
      exact ⟨rfl, M19.ext.trans e20⟩
  case N2 =>
    have M9 := M4
    have hs9 := hs4
    refine brE_dec (fun f1 => ?YA3) (fun f1 => ?NA3)
    case' YA3 => refine brE_dec (fun f2 => ?YB3) (fun f2 => ?NB3)
    case' YB3 =>
      refine (Learned_spec (h.ext M9.ext) hl day).weak.mono ?_
      rintro v w15 ⟨ho15, e15⟩
      obtain ⟨At, ct, rfl, hrt, _⟩ := ho15.slice
      refine (has_spec hrt hls k).weak.mono ?_
      rintro v w16 ⟨rfl, e16⟩
      have M16 := (M9.grow e15).grow e16
      have hs16 := hs9.ext (e15.trans e16)
      refine brE_ndec (fun f3 => ?YC3) (fun f3 => ?NC3)
    case' YC3 =>
      have f3 : k ∉ learnedL day l := f3
      have f1 : k ≥ 1 := f1
      have f2 : k ≤ 100000 := f2
      have same := learned_not (k := k) (l := l) (day := day) (by unfold dayB; exact decide_eq_true ⟨by omega, f2⟩) f3
      refine ⟨V, hV1, M16.rd 0 rfl, ?_⟩
      refine ⟨k - 1, fit ⟨by omega, by omega⟩, ?_⟩
      refine ⟨q.cells, rfl, M16.rd 1 rfl, ?_⟩
      refine (ask_spec (h.ext M16.ext) hl (k - 1) day q hq).weak.mono ?_
      rintro v w17 ⟨ha17, e17⟩
      refine ⟨e17, ?_⟩
      rw [← same] at ha17
      refine (same_spec (hs16.ext e17) ha17).weak.mono ?_
      rintro _ w18 ⟨rfl, e18⟩
      have M19 := (M16.grow e17).grow e18
    case' NA3 => have M19 := M9
    case' NB3 => have M19 := M9
    case' NC3 => have M19 := M16
    all_goals
      refine (alive_spec _ (T.ext M19.ext)).mono ?_
      rintro v w20 ⟨rfl, e20⟩
      exact ⟨rfl, M19.ext.trans e20⟩
  case N3 =>
    have M9 := M6
    have hs9 := hs6
    refine brE_dec (fun f1 => ?YA4) (fun f1 => ?NA4)
    case' YA4 => refine brE_dec (fun f2 => ?YB4) (fun f2 => ?NB4)
    case' YB4 =>
      refine (Learned_spec (h.ext M9.ext) hl day).weak.mono ?_
      rintro v w15 ⟨ho15, e15⟩
      obtain ⟨At, ct, rfl, hrt, _⟩ := ho15.slice
      refine (has_spec hrt hls k).weak.mono ?_
      rintro v w16 ⟨rfl, e16⟩
      have M16 := (M9.grow e15).grow e16
      have hs16 := hs9.ext (e15.trans e16)
      refine brE_ndec (fun f3 => ?YC4) (fun f3 => ?NC4)
    case' YC4 =>
      have f3 : k ∉ learnedL day l := f3
      have f1 : k ≥ 1 := f1
      have f2 : k ≤ 100000 := f2
      have same := learned_not (k := k) (l := l) (day := day) (by unfold dayB; exact decide_eq_true ⟨by omega, f2⟩) f3
      refine ⟨V, hV1, M16.rd 0 rfl, ?_⟩
      refine ⟨k - 1, fit ⟨by omega, by omega⟩, ?_⟩
      refine ⟨q.cells, rfl, M16.rd 1 rfl, ?_⟩
      refine (ask_spec (h.ext M16.ext) hl (k - 1) day q hq).weak.mono ?_
      rintro v w17 ⟨ha17, e17⟩
      refine ⟨e17, ?_⟩
      rw [← same] at ha17
      refine (same_spec (hs16.ext e17) ha17).weak.mono ?_
      rintro _ w18 ⟨rfl, e18⟩
      have M19 := (M16.grow e17).grow e18
    case' NA4 => have M19 := M9
    case' NB4 => have M19 := M9
    case' NC4 => have M19 := M16
    all_goals
      refine (alive_spec _ (T.ext M19.ext)).mono ?_
      rintro v w20 ⟨rfl, e20⟩
      exact ⟨rfl, M19.ext.trans e20⟩

end Go.Proofs.YthpdkdmbfdmamaaGreatDoor

namespace Go.Proofs.YthpdkdmbfdmamaaGreatDoor
open Go.Eng Go.RowKit Go.ChangeShapes Go.WideShapes Go.ChangeAt
open Go.ChangeMaps (open_string shut_string)

set_option maxRecDepth 100000 in
theorem factsStill_lifted (os : Os) (started : os.Started) (H : Type) (enc : TypeId × Value → H) :
    ReturnsInHanded {} Tryz.checked os 18 .any (fun w args => (Rows.factsStillSpec.pre enc Tryz.prog Tryz.f18 Rows.factsStillRow.domain false w args ∧ laidMet Tryz.prog laidL w) ∧ sizedMet enc Tryz.prog Tryz.f18 (OpenSpec.ofChange Rows.factsStillSpec) false w args)
      (Rows.factsStillSpec.post enc Tryz.prog Tryz.f18 false true false false) := by
  refine returnsInHanded_of_change_and (C := Tryz.checked) (X := fun w _ => laidMet Tryz.prog laidL w) (fun _ _ _ hh h => h.of_heap hh) own started (by kernel_rfl) Tryz.func18
    (ChangeSpec.witness_at (enc := enc) (C := Tryz.checked) (os := os) (X := fun w _ => laidMet Tryz.prog laidL w) false (laidWorld os) #[.slice none 0 0, .int .i64 0, .int .i64 0, .agg #[.int .i64 0, .int .i64 0, .int .i64 0, .int .i64 0, .int .i64 0, .int .i64 0]] 8 rfl (by kernel_rfl) (by kernel_rfl) (by kernel_rfl) (by kernel_rfl) (by kernel_rfl) (laidWorld_met os _)) ?_
  intro W base args ds gs before hval0 hW _ hsz0 hL _
  have T := tabs_of_laid hL
  have hval : ∀ (j : Nat) t v, Tryz.f18.params[j]? = some t → args[j]? = some v → Value.okWide Tryz.prog W .any base t v := hval0
  have hW' := hW
  obtain ⟨p, q, hA0, hV, rfl, hfz, hnd⟩ := hW
  have hA : DataW.TrodAll enc Tryz.prog W 0 (fun _ => true) true [22, 3, 3, 66] args.toList ds p := hA0
  obtain ⟨v0, v1, v2, v3, d0, d1, d2, d3, p0, p1, p2, p3, rfl, rfl, rfl, h0, h1, h2, h3⟩ := trodAll_four hA
  obtain ⟨rfl, rfl⟩ := trodVars_none hV
  obtain ⟨A0, l0, c0, rfl, hf0⟩ := open_facts (hval 0 22 v0 rfl rfl) h0
  obtain ⟨i1, rfl, _, _, wf1⟩ := open_int under3 (hval 1 3 v1 rfl rfl) h1
  obtain ⟨i2, rfl, _, _, wf2⟩ := open_int under3 (hval 2 3 v2 rfl rfl) h2
  obtain ⟨q3, rfl, hq3⟩ := open_asked (hval 3 66 v3 rfl rfl) h3
  refine (FactsStill_spec hf0 T (wf_in64 wf1) (wf_in64 wf2) q3 hq3.1 W (Same.refl W)).mono ?_
  rintro e W' ⟨⟨v, w'', rfl, ⟨rfl, he⟩, hs⟩, _⟩
  have he' : Ext W W' := he.same_right hs
  refine ⟨_, rfl, ?_⟩
  refine ⟨[d0, d1, d2, d3], [], (p0 ++ p1 ++ p2 ++ p3) ++ [], [], p0 ++ (p1 ++ (p2 ++ (p3))), [], hW', ?_, ?_, rfl, Below.frame he' _, fun h => by cases h⟩
  · exact trodAll_mk1 (shut_bool under4 true)
  · exact trodAll_mk4 (Below.trod laidOut recFs rowFs h0 he' fun x hx => hW'.lt x (by simp [hx])) (Below.trod laidOut rec3 row3 h1 he' fun x hx => hW'.lt x (by simp [hx])) (Below.trod laidOut rec3 row3 h2 he' fun x hx => hW'.lt x (by simp [hx])) (Below.trod laidOut recQ rowQ h3 he' fun x hx => hW'.lt x (by simp [hx]))

set_option maxHeartbeats 4000000 in
theorem factsStill_closed : joinedFacts Tryz.pinned.checked.prog 18 Tryz.f18 Rows.factsStillSpec Rows.factsStillRow = true := by
  unfold joinedFacts
  iterate 31 refine Bool.and_eq_true_iff.2 ⟨?_, ?_⟩
  · as_aux_lemma => kernel_rfl
  · exact kLaid
  · exact kMaps
  · as_aux_lemma => kernel_rfl
  · as_aux_lemma => kernel_rfl
  · as_aux_lemma => kernel_rfl
  · exact kStops
  · as_aux_lemma => kernel_rfl
  · exact kKnobs
  · as_aux_lemma => kernel_rfl
  · as_aux_lemma => kernel_rfl
  · as_aux_lemma => kernel_rfl
  · as_aux_lemma => kernel_rfl
  · as_aux_lemma => kernel_rfl
  · as_aux_lemma => kernel_rfl
  · as_aux_lemma => kernel_rfl
  · as_aux_lemma => kernel_rfl
  · as_aux_lemma => kernel_rfl
  · as_aux_lemma => kernel_rfl
  · as_aux_lemma => kernel_rfl
  · as_aux_lemma => kernel_rfl
  · as_aux_lemma => kernel_rfl
  · exact beq_iff_eq.2 kPlain.symm
  · as_aux_lemma => kernel_rfl
  · exact kHeard
  · exact kEnter
  · exact beq_iff_eq.2 kLifts.symm
  · as_aux_lemma => kernel_rfl
  · as_aux_lemma => kernel_rfl
  · as_aux_lemma => kernel_rfl
  · as_aux_lemma => kernel_rfl
  · as_aux_lemma => kernel_rfl

theorem factsStill_named : Tryz.pinned.checked.prog.funcNamed Rows.factsStillRow.func = some 18 := by kernel_rfl
theorem factsStill_func : Tryz.pinned.checked.prog.funcs[18]? = some Tryz.f18 := Tryz.func18
theorem factsStill_inst : Tryz.f18.isInstance Tryz.pinned.checked.prog Rows.factsStillRow.origin Rows.factsStillRow.targs := of_decide_eq_true (by kernel_rfl)
theorem factsStill_wrap : Tryz.f18.isWrapper Tryz.pinned.checked.prog Rows.factsStillRow.wrapper Rows.factsStillRow.mainSum := by
  unfold Func.isWrapper; first | (rw [if_pos (by decide +kernel)]; kernel_rfl) | (rw [if_neg (by decide +kernel)]; exact ⟨rfl, rfl⟩)
theorem factsStill_text : Rows.factsStillRow.wfByText (OpenSpec.ofChange Rows.factsStillSpec) = true := by kernel_rfl
theorem factsStill_main : Tryz.pinned.checked.prog.mainIs = some (Rows.factsStillCard.stood.harness.1, Rows.factsStillCard.stood.harness.2.toList) := by kernel_rfl
theorem factsStill_looks : true = Tryz.pinned.checked.prog.looks [] := by kernel_rfl
theorem factsStill_goes : false = Rows.factsStillRow.goesBy Tryz.pinned.checked.prog := by kernel_rfl
theorem factsStill_stand : (Tryz.f18.params.toList.all fun t => !Tryz.pinned.checked.prog.wantsStandIn t) = true := by kernel_rfl

theorem factsStill_holds : Rows.FactsStillSaid :=
  OpenClaim.holds_of_wide 18 Tryz.f18 rfl rfl rfl rfl rfl rfl rfl ⟨rfl, rfl, rfl, rfl, rfl⟩ rfl rfl rfl rfl rfl factsStill_named factsStill_func factsStill_closed factsStill_inst factsStill_wrap
    (fun os started H enc _ => factsStill_lifted os started H enc)

theorem factsStill : Rows.FactsStillCardSaid :=
  Claim7.holds_tied_plain_at .later [] [.data, .data, .data, .sentinel, .sentinel] true Rows.factsStillCard.stood.harness true
    factsStill_holds (fun _ h => by cases h) factsStill_text (fun _ h => by cases h) factsStill_row_tie rfl ⟨rfl, rfl⟩ factsStill_main rfl
    (fun f fn hf hfn => by
      obtain rfl : f = 18 := Option.some.inj (factsStill_named.symm.trans hf) |>.symm
      obtain rfl : fn = Tryz.f18 := (Option.some.inj (factsStill_func.symm.trans hfn)).symm
      refine ⟨factsStill_looks, fun j t ht => ?_⟩
      have hm : t ∈ Tryz.f18.params.toList := by
        have := Array.mem_of_getElem? ht
        simpa using this
      exact Bool.not_eq_true' _ |>.mp (List.all_eq_true.1 factsStill_stand t hm))
    factsStill_goes

#print axioms factsStill
end Go.Proofs.YthpdkdmbfdmamaaGreatDoor
