/- Proved: for every relation and list the law RankParts returns true, and its arguments read behind the call as they did before. No condition. -/
import Derived.Test.YtdfhfehlmonjjaaO1
import Derived.Test.YtdfhfehlmonjjaaS6
namespace Go.Proofs.Ytdfhfehlmonjjaa
open Go.Eng Go.RowKit Go.ChangeShapes Go.WideShapes Go.ChangeAt

set_option maxRecDepth 100000 in
theorem rankParts_lifted (os : Os) (started : os.Started) (H : Type) (enc : TypeId × Value → H) :
    ReturnsInHanded {} Try.checked os 13 .any (Rows.rankPartsSpec.pre6 enc Try.prog Try.f13 Rows.rankPartsRow.domain false) (Rows.rankPartsSpec.post enc Try.prog Try.f13 false true false false) := by
  refine returnsInHanded_of_change (C := Try.checked) own started (by kernel_rfl) Try.func13
    (ChangeSpec.witness6 (enc := enc) (C := Try.checked) false ⟨#[], #[.agg #[.int .i64 0, .slice none 0 0], .slice none 0 0], []⟩ 8 (by kernel_rfl) (by kernel_rfl) (by kernel_rfl) (by kernel_rfl)) ?_
  intro W base args ds gs before hval0 hW hcnd _
  have hval : ∀ (j : Nat) t v, Try.f13.params[j]? = some t → args[j]? = some v → Value.okWide Try.prog W .any base t v := hval0
  have hW' := hW
  obtain ⟨p, q, hA0, hV, rfl, hfz, hnd⟩ := hW
  have hA : DataW.TrodAll enc Try.prog W 0 (fun _ => true) true [24, 30] args.toList ds p := hA0
  obtain ⟨v0, v1, d0, d1, p0, p1, rfl, rfl, rfl, h0, h1⟩ := trodAll_two hA
  obtain ⟨rfl, rfl⟩ := trodVars_none hV
  obtain ⟨N0, A0, xs0, c0, rfl, hrel0⟩ := open_rel (hval 0 24 v0 rfl rfl) h0
  obtain ⟨B1, l1, d1', rfl, hl1, hc1, hm1, hw1⟩ := open_intl (hval 1 30 v1 rfl rfl) h1
  refine (RankParts_spec hrel0 hl1 W (Same.refl W)).mono ?_
  rintro e W' ⟨⟨v, w'', rfl, ⟨rfl, he⟩, hs⟩, _⟩
  have he' : Ext W W' := he.same_right hs
  refine ⟨_, rfl, ?_⟩
  refine ⟨[d0, d1], [], (p0 ++ p1) ++ [], [], p0 ++ (p1), [], hW', ?_, ?_, rfl, Below.frame he' _, fun h => by cases h⟩
  · exact trodAll_mk1 (shut_bool under4 true)
  · exact trodAll_mk2 (Below.trod laidOut rec24 row24 h0 he' fun x hx => hW'.lt x (by simp [hx])) (Below.trod laidOut rec30 row30 h1 he' fun x hx => hW'.lt x (by simp [hx]))

theorem rankParts : Rows.RankPartsSaid :=
  OpenClaim.holds_of_wide 13 Try.f13 rfl rfl rfl rfl rfl rfl rfl ⟨rfl, rfl, rfl, rfl, rfl⟩ rfl rfl rfl rfl rfl (by kernel_rfl) Try.func13 (by kernel_rfl)
    (of_decide_eq_true (by kernel_rfl)) (by unfold Func.isWrapper; first | (rw [if_pos (by decide +kernel)]; kernel_rfl) | (rw [if_neg (by decide +kernel)]; exact ⟨rfl, rfl⟩))
    (fun os started H enc _ => rankParts_lifted os started H enc)

#print axioms rankParts
end Go.Proofs.Ytdfhfehlmonjjaa
