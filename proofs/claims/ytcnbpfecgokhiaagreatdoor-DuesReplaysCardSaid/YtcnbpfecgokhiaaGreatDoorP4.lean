/- Proved: for every list of facts and entries the law DuesReplays returns true, and its arguments read behind the call as they did before; what the library's variables hold is tied to the program's text. No further condition. -/
import Derived.Test.YtcnbpfecgokhiaaGreatDoorDYc
import Derived.Test.YtcnbpfecgokhiaaGreatDoorDYa
import Derived.Test.YtcnbpfecgokhiaaGreatDoorDVe
import Derived.Test.YtcnbpfecgokhiaaGreatDoorDTc
import Derived.Test.YtcnbpfecgokhiaaGreatDoorDKa
set_option linter.unusedVariables false
set_option linter.unusedSimpArgs false
set_option linter.unnecessarySimpa false
set_option linter.unusedSectionVars false
namespace Go.Proofs.YtcnbpfecgokhiaaGreatDoor
open Go.Eng Go.RowKit

set_option maxRecDepth 100000 in
set_option maxHeartbeats 2000000 in
theorem DuesReplays_spec {w : World} {A B : Option Addr} {f : List Fact} {s : List Entry} {c d : Nat} (hf : HF w A f c) (hs : HL Entry.cells w B s d) (hn : ∀ x ∈ s, x.Nums) (T : TabP w) :
    CallsV C.P 4 #[.slice A f.length c, .slice B s.length d] w fun v w' => v = .bool true ∧ Ext w w' := by
  refine callsV_of C_ok (args := [_, _]) (plans := plans4) Tryz.func4 rfl Tryz.ntmps4 (by kernel_rfl) (Nat.le_of_ble_eq_true rfl) ?_
  refine (few_spec (s := []) (B := none) (d := 0) hf (Nat.zero_le _)).mono ?_
  rintro v w0 ⟨⟨bf, rfl, hb⟩, rfl⟩
  have hcap := hs.cap
  refine brE_mk (fun c1 => ?_) (fun c1 => ?_)
  · refine (grants_spec w0 T).mono ?_
    rintro v w2 ⟨rfl, e2⟩
    exact ⟨rfl, e2⟩
  refine brE_dec (fun c2 => ?_) (fun c2 => ?_)
  · refine (grants_spec w0 T).mono ?_
    rintro v w2 ⟨rfl, e2⟩
    exact ⟨rfl, e2⟩
  have hfl := (hb (by simpa using c1)).1
  have hsl : s.length ≤ 80 := by have : ¬ ((s.length : Nat) : Int) > 80 := c2; omega
  refine (Replay_spec hf (by omega) hs (by omega) hn).mono ?_
  rintro v w1 ⟨⟨p, rfl, hp⟩, e1⟩
  refine (refReplay_spec (hf.ext e1) (by omega) (hs.ext e1) (by omega) hn).mono ?_
  rintro v w2 ⟨⟨A', c', y, rfl, hH, hy⟩, e2⟩
  intro g8 w3 h3
  refine ⟨rfl, _, _, h3.here, Nat.le_of_ble_eq_true rfl, rfl, ?_⟩
  intro w4 h4
  have e24 : Ext w2 w4 := h4.ext_of h3.ext (by rw [h3.new]; exact Nat.le_refl _)
  have hH4 := hl_put (hH.ext h3.ext) h3.here h4
  obtain ⟨e, he⟩ : ∃ e, e = (repG f [] s).2 := ⟨_, rfl⟩
  rw [← he] at hp hy ⊢
  refine brE_ndec (fun h => absurd rfl h) (fun _ => ?_)
  refine brE_ndec (fun h => absurd rfl h) (fun _ => ?_)
  rcases hp with ⟨hne, rfl⟩ | ⟨h0, l, rfl, hl⟩
  · refine ⟨_, eqNilP _ _ _, ?_⟩
    refine ⟨_, neqBool _ _ true (!decide (e = 0)), ?_⟩
    refine brE_false (by rw [decide_eq_false hne]; rfl) ?_
    refine (grants_spec w4 (tabP_ext T (e1.trans (e2.trans e24)))).mono ?_
    rintro v w5 ⟨rfl, e5⟩
    refine ⟨_, eqNilP _ _ _, ?_⟩
    exact ⟨rfl, e1.trans (e2.trans (e24.trans e5))⟩
  · have hys := hy h0
    subst hys
    have hl4 := (hl.then e2).then e24
    refine ⟨_, eqNilP _ _ _, ?_⟩
    refine ⟨_, neqBool _ _ false (!decide (e = 0)), ?_⟩
    refine brE_false (by rw [decide_eq_true h0]; rfl) ?_
    refine (grants_spec w4 (tabP_ext T (e1.trans (e2.trans e24)))).mono ?_
    rintro v w5 ⟨rfl, e5⟩
    refine ⟨_, eqNilP _ _ _, ?_⟩
    refine ⟨_, cell_of_block (i := 0) (e5.heap h4.here) rfl, ?_⟩
    refine (Entries_spec (hl4.is.ext e5) (by omega)).mono ?_
    rintro v w6 ⟨hv, e6⟩
    obtain ⟨A6, c6, rfl, hH6⟩ := hv.hl
    refine ⟨e6, ?_⟩
    refine (SameEs_spec hH6 (hH4.ext (e5.trans e6))).mono ?_
    rintro v w7 ⟨rfl, rfl⟩
    exact ⟨congrArg _ (decide_eq_true rfl), hl4.ext.trans (e5.trans e6)⟩

end Go.Proofs.YtcnbpfecgokhiaaGreatDoor

namespace Go.Proofs.YtcnbpfecgokhiaaGreatDoor
open Go.Eng Go.RowKit Go.ChangeShapes Go.WideShapes Go.ChangeAt
open Go.ChangeMaps (open_string shut_string)

set_option maxRecDepth 100000 in
theorem duesReplays_lifted (os : Os) (started : os.Started) (H : Type) (enc : TypeId × Value → H) :
    ReturnsInHanded {} Tryz.checked os 4 .any (fun w args => (Rows.duesReplaysSpec.pre enc Tryz.prog Tryz.f4 Rows.duesReplaysRow.domain false w args ∧ laidMet Tryz.prog laidL w) ∧ sizedMet enc Tryz.prog Tryz.f4 (OpenSpec.ofChange Rows.duesReplaysSpec) false w args)
      (Rows.duesReplaysSpec.post enc Tryz.prog Tryz.f4 false true false false) := by
  refine returnsInHanded_of_change_and (C := Tryz.checked) (X := fun w _ => laidMet Tryz.prog laidL w) (fun _ _ _ hh h => h.of_heap hh) own started (by kernel_rfl) Tryz.func4
    (ChangeSpec.witness_at (enc := enc) (C := Tryz.checked) (os := os) (X := fun w _ => laidMet Tryz.prog laidL w) false (laidWorld os) #[.slice none 0 0, .slice none 0 0] 8 rfl (by kernel_rfl) (by kernel_rfl) (by kernel_rfl) (by kernel_rfl) (by kernel_rfl) (laidWorld_met os _)) ?_
  intro W base args ds gs before hval0 hW _ hsz0 hL _
  have T := tabs_of_laid hL
  have hval : ∀ (j : Nat) t v, Tryz.f4.params[j]? = some t → args[j]? = some v → Value.okWide Tryz.prog W .any base t v := hval0
  have hW' := hW
  obtain ⟨p, q, hA0, hV, rfl, hfz, hnd⟩ := hW
  have hA : DataW.TrodAll enc Tryz.prog W 0 (fun _ => true) true [22, 28] args.toList ds p := hA0
  obtain ⟨v0, v1, d0, d1, p0, p1, rfl, rfl, rfl, h0, h1⟩ := trodAll_two hA
  obtain ⟨rfl, rfl⟩ := trodVars_none hV
  obtain ⟨A0, l0, c0, rfl, hf0⟩ := open_facts (hval 0 22 v0 rfl rfl) h0
  obtain ⟨A1, l1, c1, rfl, hs1, ns1⟩ := open_list Entry.len (by omega) (fun y => ⟨.u8, _, rfl⟩) underEs cellsEn open_cE (hval 1 28 v1 rfl rfl) h1
  refine (DuesReplays_spec hf0 hs1 ns1 T W (Same.refl W)).mono ?_
  rintro e W' ⟨⟨v, w'', rfl, ⟨rfl, he⟩, hs⟩, _⟩
  have he' : Ext W W' := he.same_right hs
  refine ⟨_, rfl, ?_⟩
  refine ⟨[d0, d1], [], (p0 ++ p1) ++ [], [], p0 ++ (p1), [], hW', ?_, ?_, rfl, Below.frame he' _, fun h => by cases h⟩
  · exact trodAll_mk1 (shut_bool under4 true)
  · exact trodAll_mk2 (Below.trod laidOut recFs rowFs h0 he' fun x hx => hW'.lt x (by simp [hx])) (Below.trod laidOut recEs rowEs h1 he' fun x hx => hW'.lt x (by simp [hx]))

set_option maxHeartbeats 4000000 in
theorem duesReplays_closed : joinedFacts Tryz.pinned.checked.prog 4 Tryz.f4 Rows.duesReplaysSpec Rows.duesReplaysRow = true := by
  unfold joinedFacts
  iterate 31 refine Bool.and_eq_true_iff.2 ⟨?_, ?_⟩
  · as_aux_lemma => kernel_rfl
  · exact kLaid
  · exact kMaps
  · as_aux_lemma => kernel_rfl
  · as_aux_lemma => kernel_rfl
  · as_aux_lemma => kernel_rfl
  · exact kStops
  · as_aux_lemma => kernel_rfl
  · exact kKnobs
  · as_aux_lemma => kernel_rfl
  · as_aux_lemma => kernel_rfl
  · as_aux_lemma => kernel_rfl
  · as_aux_lemma => kernel_rfl
  · as_aux_lemma => kernel_rfl
  · as_aux_lemma => kernel_rfl
  · as_aux_lemma => kernel_rfl
  · as_aux_lemma => kernel_rfl
  · as_aux_lemma => kernel_rfl
  · as_aux_lemma => kernel_rfl
  · as_aux_lemma => kernel_rfl
  · as_aux_lemma => kernel_rfl
  · as_aux_lemma => kernel_rfl
  · exact beq_iff_eq.2 kPlain.symm
  · as_aux_lemma => kernel_rfl
  · exact kHeard
  · exact kEnter
  · exact beq_iff_eq.2 kLifts.symm
  · as_aux_lemma => kernel_rfl
  · as_aux_lemma => kernel_rfl
  · as_aux_lemma => kernel_rfl
  · as_aux_lemma => kernel_rfl
  · as_aux_lemma => kernel_rfl

theorem duesReplays_named : Tryz.pinned.checked.prog.funcNamed Rows.duesReplaysRow.func = some 4 := by kernel_rfl
theorem duesReplays_func : Tryz.pinned.checked.prog.funcs[4]? = some Tryz.f4 := Tryz.func4
theorem duesReplays_inst : Tryz.f4.isInstance Tryz.pinned.checked.prog Rows.duesReplaysRow.origin Rows.duesReplaysRow.targs := of_decide_eq_true (by kernel_rfl)
theorem duesReplays_wrap : Tryz.f4.isWrapper Tryz.pinned.checked.prog Rows.duesReplaysRow.wrapper Rows.duesReplaysRow.mainSum := by
  unfold Func.isWrapper; first | (rw [if_pos (by decide +kernel)]; kernel_rfl) | (rw [if_neg (by decide +kernel)]; exact ⟨rfl, rfl⟩)
theorem duesReplays_text : Rows.duesReplaysRow.wfByText (OpenSpec.ofChange Rows.duesReplaysSpec) = true := by kernel_rfl
theorem duesReplays_main : Tryz.pinned.checked.prog.mainIs = some (Rows.duesReplaysCard.stood.harness.1, Rows.duesReplaysCard.stood.harness.2.toList) := by kernel_rfl
theorem duesReplays_looks : true = Tryz.pinned.checked.prog.looks [] := by kernel_rfl
theorem duesReplays_goes : false = Rows.duesReplaysRow.goesBy Tryz.pinned.checked.prog := by kernel_rfl
theorem duesReplays_stand : (Tryz.f4.params.toList.all fun t => !Tryz.pinned.checked.prog.wantsStandIn t) = true := by kernel_rfl

theorem duesReplays_holds : Rows.DuesReplaysSaid :=
  OpenClaim.holds_of_wide 4 Tryz.f4 rfl rfl rfl rfl rfl rfl rfl ⟨rfl, rfl, rfl, rfl, rfl⟩ rfl rfl rfl rfl rfl duesReplays_named duesReplays_func duesReplays_closed duesReplays_inst duesReplays_wrap
    (fun os started H enc _ => duesReplays_lifted os started H enc)

theorem duesReplays : Rows.DuesReplaysCardSaid :=
  Claim7.holds_tied_plain_at .later [] [.data, .data, .data] true Rows.duesReplaysCard.stood.harness true
    duesReplays_holds (fun _ h => by cases h) duesReplays_text (fun _ h => by cases h) duesReplays_row_tie rfl ⟨rfl, rfl⟩ duesReplays_main rfl
    (fun f fn hf hfn => by
      obtain rfl : f = 4 := Option.some.inj (duesReplays_named.symm.trans hf) |>.symm
      obtain rfl : fn = Tryz.f4 := (Option.some.inj (duesReplays_func.symm.trans hfn)).symm
      refine ⟨duesReplays_looks, fun j t ht => ?_⟩
      have hm : t ∈ Tryz.f4.params.toList := by
        have := Array.mem_of_getElem? ht
        simpa using this
      exact Bool.not_eq_true' _ |>.mp (List.all_eq_true.1 duesReplays_stand t hm))
    duesReplays_goes

#print axioms duesReplays
end Go.Proofs.YtcnbpfecgokhiaaGreatDoor
