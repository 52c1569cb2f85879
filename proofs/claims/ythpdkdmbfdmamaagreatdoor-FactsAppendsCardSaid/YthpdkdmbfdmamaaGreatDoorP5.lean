/- Proved: for every list of facts and fact the law FactsAppends returns true, and its arguments read behind the call as they did before; what the library's variables hold is tied to the program's text. No further condition. -/
import Derived.Test.YthpdkdmbfdmamaaGreatDoorGDf
import Derived.Test.YthpdkdmbfdmamaaGreatDoorGFe
import Derived.Test.YthpdkdmbfdmamaaGreatDoorGDd
import Derived.Test.YthpdkdmbfdmamaaGreatDoorGDe
set_option linter.unusedVariables false
set_option linter.unusedSimpArgs false
set_option linter.unnecessarySimpa false
set_option linter.unusedSectionVars false
namespace Go.Proofs.YthpdkdmbfdmamaaGreatDoor
open Go.Eng Go.RowKit

theorem sameF {w : World} {v u : Value} {B D : Nat} {xs : List Fact} (hv : NewF B w v xs) (hu : NewF D w u xs) : CallsV C.P 25 #[v, u] w fun r w' => r = .bool true ∧ w' = w := by
  obtain ⟨A1, c1, rfl, hr1, _⟩ := hv.slice
  obtain ⟨A2, c2, rfl, hr2, _⟩ := hu.slice
  have := SameFacts_spec (c := c1) (d := c2) hr1 hr2 (ownsRow_len hv)
  rw [decide_eq_true rfl] at this
  exact this
theorem appL_valid {l : List Fact} {x : Fact} (h : appE l x = 0) : (chkF (l ++ [x])).2 = 0 := by
  unfold appE at h
  split at h
  · rename_i h1; exact absurd h h1
  · exact h

set_option maxRecDepth 100000 in
theorem FactsAppends_spec {w : World} {A : Option Addr} {l : List Fact} {c : Nat} (h : HF w A l c) {x : Fact} (hx : x.Nums) (T : Tabs w) :
    CallsW C.P 5 #[.slice A l.length c, x.val] w fun v w' => v = .bool true ∧ Ext w w' := by
  refine callsV_of Cw_ok (args := [_, _]) (plans := []) Tryz.func5 rfl Tryz.ntmps5 (by kernel_rfl) (Nat.le_of_ble_eq_true rfl) ?_
  have hcap := h.cap
  intro g3 w1 h1
  have M1 : Mem w w1 [(g3, .cells x.cells.toArray 29 (0, 0))] := (Mem.start w).alloc h1
  refine brE_dec (fun ha => ?_) (fun ha => ?_)
  · refine (alive_spec w1 (T.ext M1.ext)).mono ?_
    rintro v w2 ⟨rfl, e2⟩
    exact ⟨rfl, M1.ext.trans e2⟩
  have ha : ¬ (l.length : Int) > 30 := ha
  have hl : l.length ≤ 2 ^ 19 := by omega
  intro g w2 h2
  have ho2 : w2.ownsRow w1.heap.size 29 9 (.slice (some ⟨g, 0, none⟩) 0 0) 0 [] := owns_block (cs := []) h2.here (by rw [h2.new]; exact Nat.le_refl _) rfl (Nat.zero_le _)
  have hrl := h.reads.ext (M1.ext.trans h2.ext)
  refine ⟨rfl, rfl, rfl, w1.heap.size, 0, [], fcells l, ho2, h2.ext.size, Nat.le_of_ble_eq_true rfl, rfl, fcells_length l, hrl, someF hrl, oneF l, by omega, by simp only [maxLen]; omega, ?_⟩
  intro v3 w3 ho3 hg3 _
  have e13 := app_ext h2.ext ho2 hg3
  have M3 := M1.grow e13
  rw [Nat.zero_add, List.nil_append] at ho3
  have ho3 : NewF w1.heap.size w3 v3 l := ho3
  have hq3 := ho3
  refine ⟨x.cells, rfl, M3.rd 0 rfl, ?_⟩
  refine (Append_spec (h.ext M3.ext) hl hx).weak.mono ?_
  rintro _ w4 ⟨⟨r4, rfl, ho4⟩, e4⟩
  have M4 := M3.grow e4
  refine ⟨x.cells, rfl, M4.rd 0 rfl, ?_⟩
  refine (refAppend_spec (h.ext M4.ext) hl hx).weak.mono ?_
  rintro _ w5 ⟨⟨r5, rfl, ho5⟩, e5⟩
  have M5 := M4.grow e5
  have ho4 := ho4.ext e5
  have ho3 := ho3.ext (e4.trans e5)
  have happ : appE l x = 0 → (chkF (l ++ [x])).2 = 0 := appL_valid
  have hapl : appL l x = if appE l x = 0 then l ++ [x] else [] := rfl
  generalize appE l x = E at *
  generalize appL l x = R at *
  have h00 : (!decide (E = E)) = false := by rw [decide_eq_true rfl]; rfl
  refine brE_false h00 ?_
  refine (sameF ho4 ho5).weak.mono ?_
  rintro _ w6 ⟨rfl, rfl⟩
  obtain ⟨A3, c3, rfl, hr3, _⟩ := ho3.slice
  have s := SameFacts_spec (c := c) (d := c3) (h.reads.ext M5.ext) hr3 h.cap
  rw [decide_eq_true rfl] at s
  refine s.weak.mono ?_
  rintro _ w7 ⟨rfl, rfl⟩
  refine brE_ndec (fun hE => ?_) (fun hE => ?_)
  · have hE : ¬ E = 0 := hE
    rw [if_neg hE] at hapl
    subst hapl
    refine (alive_spec w7 (T.ext M5.ext)).mono ?_
    rintro _ w8 ⟨rfl, e8⟩
    obtain ⟨A4, c4, rfl, hr4, _⟩ := ho4.slice
    exact ⟨rfl, M5.ext.trans e8⟩
  · have hE : E = 0 := hE
    rw [if_pos hE] at hapl
    subst hapl
    have hnum : ∀ y ∈ l ++ [x], y.Nums := nums_append h.nums fun y hy => by rw [List.mem_singleton.1 hy]; exact hx
    have hlen : (l ++ [x]).length = l.length + 1 := by simp
    have ho4' := ho4
    obtain ⟨A4, c4, rfl, hf4⟩ := ho4.hf hnum
    refine (Check_spec hf4 (by omega)).weak.mono ?_
    rintro _ w8 ⟨rfl, e8⟩
    rw [happ hE]
    have M8 := M5.grow e8
    refine (alive_spec w8 (T.ext M8.ext)).mono ?_
    rintro _ w9 ⟨rfl, e9⟩
    have M9 := M8.grow e9
    refine ⟨x.cells, rfl, M9.rd 0 rfl, ?_⟩
    intro g10 w10 h10
    have e10 := (e8.trans e9).trans h10.ext
    have ho10 : w10.ownsRow w1.heap.size 29 9 _ _ _ := ownsRow_ext ho3 e10
    have e110 : Ext w1 w10 := ((e13.trans e4).trans e5).trans e10
    refine ⟨rfl, rfl, rfl, w1.heap.size, _, _, x.cells, ho10, e110.size, Nat.le_of_ble_eq_true rfl, rfl, rfl, .inr ⟨g10, 0, rfl, Rd.of_block h10.here⟩, rfl, rfl, by omega, by simp only [maxLen]; omega, ?_⟩
    intro v11 w11 ho11 hg11 _
    have e11 := app_ext e110 ho10 hg11
    have hn11 : NewF w1.heap.size w11 v11 (l ++ [x]) := by
      unfold NewF
      rw [fcells_append, fcells_one, List.length_append]
      exact ho11
    obtain ⟨A11, c11, rfl, hr11, _⟩ := hn11.slice
    have hr4 : Reads w11 A4 (fcells (l ++ [x])) := by
      have h10 := ownsRow_grown (NewF.ext ho4' e10) hg11 (fun e => by
        cases hv : (Value.slice A3 l.length c3).ownBlock with
        | none =>
          rw [hv] at e
          exact absurd (by rw [e] : (Value.slice A4 (l ++ [x]).length c4).ownBlock = none) (by
            obtain ⟨_, h1 | ⟨g, cap, cur, h1, _⟩⟩ := ho4'
            · have := h1.2
              rw [hlen] at this
              omega
            · rw [h1]; simp [Value.ownBlock])
        | some q =>
          have a1 := (World.ownsRow.lt hq3 q hv).2
          rw [hv] at e
          have a2 := (World.ownsRow.lt ho4' q e).1
          have := (e4.trans e5).size
          omega)
      obtain ⟨A', c', e, hr', _⟩ := reads_of_owns h10
      injection e with e1 _ _
      rw [e1]; exact hr'
    have s := SameFacts_spec (c := c4) (d := c11) hr4 hr11 hf4.cap
    rw [decide_eq_true rfl] at s
    refine s.weak.mono ?_
    rintro _ w12 ⟨rfl, rfl⟩
    exact ⟨rfl, M1.ext.trans e11⟩

end Go.Proofs.YthpdkdmbfdmamaaGreatDoor

namespace Go.Proofs.YthpdkdmbfdmamaaGreatDoor
open Go.Eng Go.RowKit Go.ChangeShapes Go.WideShapes Go.ChangeAt
open Go.ChangeMaps (open_string shut_string)

set_option maxRecDepth 100000 in
theorem factsAppends_lifted (os : Os) (started : os.Started) (H : Type) (enc : TypeId × Value → H) :
    ReturnsInHanded {} Tryz.checked os 5 .any (fun w args => (Rows.factsAppendsSpec.pre enc Tryz.prog Tryz.f5 Rows.factsAppendsRow.domain false w args ∧ laidMet Tryz.prog laidL w) ∧ sizedMet enc Tryz.prog Tryz.f5 (OpenSpec.ofChange Rows.factsAppendsSpec) false w args)
      (Rows.factsAppendsSpec.post enc Tryz.prog Tryz.f5 false true false false) := by
  refine returnsInHanded_of_change_and (C := Tryz.checked) (X := fun w _ => laidMet Tryz.prog laidL w) (fun _ _ _ hh h => h.of_heap hh) own started (by kernel_rfl) Tryz.func5
    (ChangeSpec.witness_at (enc := enc) (C := Tryz.checked) (os := os) (X := fun w _ => laidMet Tryz.prog laidL w) false (laidWorld os) #[.slice none 0 0, .agg #[.int .i64 0, .int .i64 0, .int .u8 0, .int .i64 0, .int .i64 0, .int .i64 0, .int .i64 0, .int .i64 0, .string ⟨#[]⟩]] 8 rfl (by kernel_rfl) (by kernel_rfl) (by kernel_rfl) (by kernel_rfl) (by kernel_rfl) (laidWorld_met os _)) ?_
  intro W base args ds gs before hval0 hW _ hsz0 hL _
  have T := tabs_of_laid hL
  have hval : ∀ (j : Nat) t v, Tryz.f5.params[j]? = some t → args[j]? = some v → Value.okWide Tryz.prog W .any base t v := hval0
  have hW' := hW
  obtain ⟨p, q, hA0, hV, rfl, hfz, hnd⟩ := hW
  have hA : DataW.TrodAll enc Tryz.prog W 0 (fun _ => true) true [22, 29] args.toList ds p := hA0
  obtain ⟨v0, v1, d0, d1, p0, p1, rfl, rfl, rfl, h0, h1⟩ := trodAll_two hA
  obtain ⟨rfl, rfl⟩ := trodVars_none hV
  obtain ⟨A0, l0, c0, rfl, hf0⟩ := open_facts (hval 0 22 v0 rfl rfl) h0
  obtain ⟨x1, rfl, hx1⟩ := open_fact (hval 1 29 v1 rfl rfl) h1
  refine (FactsAppends_spec hf0 hx1 T W (Same.refl W)).mono ?_
  rintro e W' ⟨⟨v, w'', rfl, ⟨rfl, he⟩, hs⟩, _⟩
  have he' : Ext W W' := he.same_right hs
  refine ⟨_, rfl, ?_⟩
  refine ⟨[d0, d1], [], (p0 ++ p1) ++ [], [], p0 ++ (p1), [], hW', ?_, ?_, rfl, Below.frame he' _, fun h => by cases h⟩
  · exact trodAll_mk1 (shut_bool under4 true)
  · exact trodAll_mk2 (Below.trod laidOut recFs rowFs h0 he' fun x hx => hW'.lt x (by simp [hx])) (Below.trod laidOut recF rowF h1 he' fun x hx => hW'.lt x (by simp [hx]))

set_option maxHeartbeats 4000000 in
theorem factsAppends_closed : joinedFacts Tryz.pinned.checked.prog 5 Tryz.f5 Rows.factsAppendsSpec Rows.factsAppendsRow = true := by
  unfold joinedFacts
  iterate 31 refine Bool.and_eq_true_iff.2 ⟨?_, ?_⟩
  · as_aux_lemma => kernel_rfl
  · exact kLaid
  · exact kMaps
  · as_aux_lemma => kernel_rfl
  · as_aux_lemma => kernel_rfl
  · as_aux_lemma => kernel_rfl
  · exact kStops
  · as_aux_lemma => kernel_rfl
  · exact kKnobs
  · as_aux_lemma => kernel_rfl
  · as_aux_lemma => kernel_rfl
  · as_aux_lemma => kernel_rfl
  · as_aux_lemma => kernel_rfl
  · as_aux_lemma => kernel_rfl
  · as_aux_lemma => kernel_rfl
  · as_aux_lemma => kernel_rfl
  · as_aux_lemma => kernel_rfl
  · as_aux_lemma => kernel_rfl
  · as_aux_lemma => kernel_rfl
  · as_aux_lemma => kernel_rfl
  · as_aux_lemma => kernel_rfl
  · as_aux_lemma => kernel_rfl
  · exact beq_iff_eq.2 kPlain.symm
  · as_aux_lemma => kernel_rfl
  · exact kHeard
  · exact kEnter
  · exact beq_iff_eq.2 kLifts.symm
  · as_aux_lemma => kernel_rfl
  · as_aux_lemma => kernel_rfl
  · as_aux_lemma => kernel_rfl
  · as_aux_lemma => kernel_rfl
  · as_aux_lemma => kernel_rfl

theorem factsAppends_named : Tryz.pinned.checked.prog.funcNamed Rows.factsAppendsRow.func = some 5 := by kernel_rfl
theorem factsAppends_func : Tryz.pinned.checked.prog.funcs[5]? = some Tryz.f5 := Tryz.func5
theorem factsAppends_inst : Tryz.f5.isInstance Tryz.pinned.checked.prog Rows.factsAppendsRow.origin Rows.factsAppendsRow.targs := of_decide_eq_true (by kernel_rfl)
theorem factsAppends_wrap : Tryz.f5.isWrapper Tryz.pinned.checked.prog Rows.factsAppendsRow.wrapper Rows.factsAppendsRow.mainSum := by
  unfold Func.isWrapper; first | (rw [if_pos (by decide +kernel)]; kernel_rfl) | (rw [if_neg (by decide +kernel)]; exact ⟨rfl, rfl⟩)
theorem factsAppends_text : Rows.factsAppendsRow.wfByText (OpenSpec.ofChange Rows.factsAppendsSpec) = true := by kernel_rfl
theorem factsAppends_main : Tryz.pinned.checked.prog.mainIs = some (Rows.factsAppendsCard.stood.harness.1, Rows.factsAppendsCard.stood.harness.2.toList) := by kernel_rfl
theorem factsAppends_looks : true = Tryz.pinned.checked.prog.looks [] := by kernel_rfl
theorem factsAppends_goes : false = Rows.factsAppendsRow.goesBy Tryz.pinned.checked.prog := by kernel_rfl
theorem factsAppends_stand : (Tryz.f5.params.toList.all fun t => !Tryz.pinned.checked.prog.wantsStandIn t) = true := by kernel_rfl

theorem factsAppends_holds : Rows.FactsAppendsSaid :=
  OpenClaim.holds_of_wide 5 Tryz.f5 rfl rfl rfl rfl rfl rfl rfl ⟨rfl, rfl, rfl, rfl, rfl⟩ rfl rfl rfl rfl rfl factsAppends_named factsAppends_func factsAppends_closed factsAppends_inst factsAppends_wrap
    (fun os started H enc _ => factsAppends_lifted os started H enc)

theorem factsAppends : Rows.FactsAppendsCardSaid :=
  Claim7.holds_tied_plain_at .later [] [.data, .data, .data, .sentinel, .sentinel] true Rows.factsAppendsCard.stood.harness true
    factsAppends_holds (fun _ h => by cases h) factsAppends_text (fun _ h => by cases h) factsAppends_row_tie rfl ⟨rfl, rfl⟩ factsAppends_main rfl
    (fun f fn hf hfn => by
      obtain rfl : f = 5 := Option.some.inj (factsAppends_named.symm.trans hf) |>.symm
      obtain rfl : fn = Tryz.f5 := (Option.some.inj (factsAppends_func.symm.trans hfn)).symm
      refine ⟨factsAppends_looks, fun j t ht => ?_⟩
      have hm : t ∈ Tryz.f5.params.toList := by
        have := Array.mem_of_getElem? ht
        simpa using this
      exact Bool.not_eq_true' _ |>.mp (List.all_eq_true.1 factsAppends_stand t hm))
    factsAppends_goes

#print axioms factsAppends
end Go.Proofs.YthpdkdmbfdmamaaGreatDoor
