/- Proved: for every list of facts, list of later facts, rules, scene and guests the law RankTime returns true, and its arguments read behind the call as they did before. No condition. -/
import Derived.Test.YtdpdjcopkehdjaaGreatRVa
import Derived.Test.YtdpdjcopkehdjaaGreatRVb
import Derived.Test.YtdpdjcopkehdjaaGreatRVc
import Derived.Test.YtdpdjcopkehdjaaGreatRVd
import Derived.Test.YtdpdjcopkehdjaaGreatRVe
import Derived.Test.YtdpdjcopkehdjaaGreatRVf
import Derived.Test.YtdpdjcopkehdjaaGreatRVg
import Derived.Test.YtdpdjcopkehdjaaGreatRVh
import Derived.Test.YtdpdjcopkehdjaaGreatRVi
import Derived.Test.YtdpdjcopkehdjaaGreatRVj
import Derived.Test.YtdpdjcopkehdjaaGreatRVk
import Derived.Test.YtdpdjcopkehdjaaGreatRVl
import Derived.Test.YtdpdjcopkehdjaaGreatRVm
import Derived.JoinedOf
import Derived.Shelf.Strings.OnBuilder
import Derived.Shelf.Strconv.AtoiAll
import Derived.Shelf.Strconv.Itoa3
import Derived.Shelf.Strings.Search2
import Derived.KernelRfl
import Derived.Test.YtdpdjcopkehdjaaGreatProg
import Derived.WideLaws
import Derived.Maps.RangeRun
set_option linter.unusedVariables false
set_option linter.unusedSimpArgs false
set_option linter.unnecessarySimpa false
set_option linter.unusedSectionVars false
namespace Go.Proofs.YtdpdjcopkehdjaaGreat.Rk
open Go.Eng Go.RowKit Go.ChangeShapes Go.WideShapes Go.ChangeAt
set_option maxRecDepth 100000 in
theorem rankTime_lifted (os : Os) (started : os.Started) (H : Type) (enc : TypeId × Value → H) :
    ReturnsInHanded {} Tryz.checked os 6 .any (Rows.rankTimeSpec.pre6 enc Tryz.prog Tryz.f6 Rows.rankTimeRow.domain false) (Rows.rankTimeSpec.post enc Tryz.prog Tryz.f6 false true false false) := by
  refine returnsInHanded_of_change (C := Tryz.checked) own started (by kernel_rfl) Tryz.func6
    (ChangeSpec.witness6 (enc := enc) (C := Tryz.checked) false ⟨#[], #[.slice none 0 0, .slice none 0 0, .agg #[.slice none 0 0], .agg #[.int .i64 0, .int .i64 0, .int .i64 0, .int .i64 0, .int .i64 0], .slice none 0 0], []⟩ 8 (by kernel_rfl) (by kernel_rfl) (by kernel_rfl) (by kernel_rfl)) ?_
  intro W base args ds gs before hval0 hW hcnd _
  have hval : ∀ (j : Nat) t v, Tryz.f6.params[j]? = some t → args[j]? = some v → Value.okWide Tryz.prog W .any base t v := hval0
  have hW' := hW
  obtain ⟨p, q, hA0, hV, rfl, hfz, hnd⟩ := hW
  have hA : DataW.TrodAll enc Tryz.prog W 0 (fun _ => true) true [22, 22, 29, 24, 25] args.toList ds p := hA0
  obtain ⟨v0, v1, v2, v3, v4, d0, d1, d2, d3, d4, p0, p1, p2, p3, p4, rfl, rfl, rfl, h0, h1, h2, h3, h4⟩ := trodAll_n5 hA
  obtain ⟨rfl, rfl⟩ := trodVars_none hV
  obtain ⟨A0, l0, c0, rfl, hf0⟩ := open_facts (hval 0 22 v0 rfl rfl) h0
  obtain ⟨A1, l1, c1, rfl, hf1⟩ := open_facts (hval 1 22 v1 rfl rfl) h1
  obtain ⟨R2, l2, c2, rfl, hR2⟩ := open_rules (hval 2 29 v2 rfl rfl) h2
  obtain ⟨sc3, rfl, hsc3⟩ := open_scene (hval 3 24 v3 rfl rfl) h3
  obtain ⟨B4, l4, c4, rfl, hl4, hc4, hm4, hw4⟩ := open_guests (hval 4 25 v4 rfl rfl) h4
  refine (RankTime_spec hf0 hf1 hR2 sc3 hl4 (fun x hx => (hw4 x hx).1) W (Same.refl W)).mono ?_
  rintro e W' ⟨⟨v, w'', rfl, ⟨rfl, he⟩, hs⟩, _⟩
  have he' : Ext W W' := he.same_right hs
  refine ⟨_, rfl, ?_⟩
  refine ⟨[d0, d1, d2, d3, d4], [], (p0 ++ (p1 ++ (p2 ++ (p3 ++ (p4))))) ++ [], [], p0 ++ (p1 ++ (p2 ++ (p3 ++ (p4)))), [], hW', ?_, ?_, rfl, Below.frame he' _, fun h => by cases h⟩
  · exact trodAll_mk1 (shut_bool under4 true)
  · exact trodAll_mkn5 (Below.trod laidOut recFs rowFs h0 he' fun x hx => hW'.lt x (by simp [hx])) (Below.trod laidOut recFs rowFs h1 he' fun x hx => hW'.lt x (by simp [hx])) (Below.trod laidOut recRs rowRs h2 he' fun x hx => hW'.lt x (by simp [hx])) (Below.trod laidOut recSc rowSc h3 he' fun x hx => hW'.lt x (by simp [hx])) (Below.trod laidOut recUs rowUs h4 he' fun x hx => hW'.lt x (by simp [hx]))
end Go.Proofs.YtdpdjcopkehdjaaGreat.Rk
namespace Go.Proofs.YtdpdjcopkehdjaaGreat
open Go.Eng Go.RowKit Go.ChangeShapes Go.WideShapes Go.ChangeAt
set_option maxHeartbeats 4000000 in
theorem rankTime_closed : joinedFacts Tryz.pinned.checked.prog 6 Tryz.f6 Rows.rankTimeSpec Rows.rankTimeRow = true := by
  unfold joinedFacts
  iterate 31 refine Bool.and_eq_true_iff.2 ⟨?_, ?_⟩
  all_goals as_aux_lemma => kernel_rfl
theorem rankTime_named : Tryz.pinned.checked.prog.funcNamed Rows.rankTimeRow.func = some 6 := by kernel_rfl
theorem rankTime_inst : Tryz.f6.isInstance Tryz.pinned.checked.prog Rows.rankTimeRow.origin Rows.rankTimeRow.targs := of_decide_eq_true (by kernel_rfl)
theorem rankTime_wrap : Tryz.f6.isWrapper Tryz.pinned.checked.prog Rows.rankTimeRow.wrapper Rows.rankTimeRow.mainSum := by
  unfold Func.isWrapper; first | (rw [if_pos (by decide +kernel)]; kernel_rfl) | (rw [if_neg (by decide +kernel)]; exact ⟨rfl, rfl⟩)
theorem rankTime : Rows.RankTimeSaid :=
  OpenClaim.holds_of_wide 6 Tryz.f6 rfl rfl rfl rfl rfl rfl rfl ⟨rfl, rfl, rfl, rfl, rfl⟩ rfl rfl rfl rfl rfl rankTime_named Tryz.func6 rankTime_closed rankTime_inst rankTime_wrap
    (fun os started H enc _ => Rk.rankTime_lifted os started H enc)
#print axioms rankTime
end Go.Proofs.YtdpdjcopkehdjaaGreat
