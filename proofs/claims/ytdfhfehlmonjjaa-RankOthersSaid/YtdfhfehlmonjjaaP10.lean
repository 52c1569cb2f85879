/- Proved: for every two relations, pairs and list the law RankOthers returns true, and its arguments read behind the call as they did before. No condition. -/
import Derived.Test.YtdfhfehlmonjjaaO1
import Derived.Test.YtdfhfehlmonjjaaS4
namespace Go.Proofs.Ytdfhfehlmonjjaa
open Go.Eng Go.RowKit Go.ChangeShapes Go.WideShapes Go.ChangeAt

set_option maxRecDepth 100000 in
theorem rankOthers_lifted (os : Os) (started : os.Started) (H : Type) (enc : TypeId × Value → H) :
    ReturnsInHanded {} Try.checked os 12 .any (Rows.rankOthersSpec.pre6 enc Try.prog Try.f12 Rows.rankOthersRow.domain false) (Rows.rankOthersSpec.post enc Try.prog Try.f12 false true false false) := by
  refine returnsInHanded_of_change (C := Try.checked) own started (by kernel_rfl) Try.func12
    (ChangeSpec.witness6 (enc := enc) (C := Try.checked) false ⟨#[], #[.agg #[.int .i64 0, .slice none 0 0], .agg #[.int .i64 0, .slice none 0 0], .slice none 0 0, .slice none 0 0], []⟩ 8 (by kernel_rfl) (by kernel_rfl) (by kernel_rfl) (by kernel_rfl)) ?_
  intro W base args ds gs before hval0 hW hcnd _
  have hval : ∀ (j : Nat) t v, Try.f12.params[j]? = some t → args[j]? = some v → Value.okWide Try.prog W .any base t v := hval0
  have hW' := hW
  obtain ⟨p, q, hA0, hV, rfl, hfz, hnd⟩ := hW
  have hA : DataW.TrodAll enc Try.prog W 0 (fun _ => true) true [24, 24, 36, 30] args.toList ds p := hA0
  obtain ⟨v0, v1, v2, v3, d0, d1, d2, d3, p0, p1, p2, p3, rfl, rfl, rfl, h0, h1, h2, h3⟩ := trodAll_four hA
  obtain ⟨rfl, rfl⟩ := trodVars_none hV
  obtain ⟨N0, A0, xs0, c0, rfl, hrel0⟩ := open_rel (hval 0 24 v0 rfl rfl) h0
  obtain ⟨N1, A1, xs1, c1, rfl, hrel1⟩ := open_rel (hval 1 24 v1 rfl rfl) h1
  obtain ⟨B2, l2, d2', rfl, hl2, hc2, hm2, hw2⟩ := open_prs (hval 2 36 v2 rfl rfl) h2
  obtain ⟨B3, l3, d3', rfl, hl3, hc3, hm3, hw3⟩ := open_intl (hval 3 30 v3 rfl rfl) h3
  refine (RankOthers_spec hrel0 hrel1 hl2 hw2 hl3 W (Same.refl W)).mono ?_
  rintro e W' ⟨⟨v, w'', rfl, ⟨rfl, he⟩, hs⟩, _⟩
  have he' : Ext W W' := he.same_right hs
  refine ⟨_, rfl, ?_⟩
  refine ⟨[d0, d1, d2, d3], [], (p0 ++ p1 ++ p2 ++ p3) ++ [], [], p0 ++ (p1 ++ (p2 ++ (p3))), [], hW', ?_, ?_, rfl, Below.frame he' _, fun h => by cases h⟩
  · exact trodAll_mk1 (shut_bool under4 true)
  · exact trodAll_mk4 (Below.trod laidOut rec24 row24 h0 he' fun x hx => hW'.lt x (by simp [hx])) (Below.trod laidOut rec24 row24 h1 he' fun x hx => hW'.lt x (by simp [hx])) (Below.trod laidOut rec36 row36 h2 he' fun x hx => hW'.lt x (by simp [hx])) (Below.trod laidOut rec30 row30 h3 he' fun x hx => hW'.lt x (by simp [hx]))

theorem rankOthers : Rows.RankOthersSaid :=
  OpenClaim.holds_of_wide 12 Try.f12 rfl rfl rfl rfl rfl rfl rfl ⟨rfl, rfl, rfl, rfl, rfl⟩ rfl rfl rfl rfl rfl (by kernel_rfl) Try.func12 (by kernel_rfl)
    (of_decide_eq_true (by kernel_rfl)) (by unfold Func.isWrapper; first | (rw [if_pos (by decide +kernel)]; kernel_rfl) | (rw [if_neg (by decide +kernel)]; exact ⟨rfl, rfl⟩))
    (fun os started H enc _ => rankOthers_lifted os started H enc)

#print axioms rankOthers
end Go.Proofs.Ytdfhfehlmonjjaa
