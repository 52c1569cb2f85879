/- Proved: for every scene, guests and relation the law RankChecks returns true, and its arguments read behind the call as they did before. No condition. -/
import Derived.Test.YtdfhfehlmonjjaaO1
namespace Go.Proofs.Ytdfhfehlmonjjaa
open Go.Eng Go.RowKit Go.ChangeShapes Go.WideShapes Go.ChangeAt

set_option maxRecDepth 100000 in
theorem rankChecks_lifted (os : Os) (started : os.Started) (H : Type) (enc : TypeId × Value → H) :
    ReturnsInHanded {} Try.checked os 8 .any (Rows.rankChecksSpec.pre6 enc Try.prog Try.f8 Rows.rankChecksRow.domain false) (Rows.rankChecksSpec.post enc Try.prog Try.f8 false true false false) := by
  refine returnsInHanded_of_change (C := Try.checked) own started (by kernel_rfl) Try.func8
    (ChangeSpec.witness6 (enc := enc) (C := Try.checked) false ⟨#[], #[.agg #[.int .i64 0, .int .i64 0, .int .i64 0, .int .i64 0, .int .i64 0], .slice none 0 0, .agg #[.int .i64 0, .slice none 0 0]], []⟩ 8 (by kernel_rfl) (by kernel_rfl) (by kernel_rfl) (by kernel_rfl)) ?_
  intro W base args ds gs before hval0 hW hcnd _
  have hval : ∀ (j : Nat) t v, Try.f8.params[j]? = some t → args[j]? = some v → Value.okWide Try.prog W .any base t v := hval0
  have hW' := hW
  obtain ⟨p, q, hA0, hV, rfl, hfz, hnd⟩ := hW
  have hA : DataW.TrodAll enc Try.prog W 0 (fun _ => true) true [45, 46, 24] args.toList ds p := hA0
  obtain ⟨v0, v1, v2, d0, d1, d2, p0, p1, p2, rfl, rfl, rfl, h0, h1, h2⟩ := trodAll_three hA
  obtain ⟨rfl, rfl⟩ := trodVars_none hV
  obtain ⟨sc0, rfl, hsc0⟩ := open_scene (hval 0 45 v0 rfl rfl) h0
  obtain ⟨B1, l1, d1', rfl, hl1, hc1, hm1, hw1⟩ := open_guests (hval 1 46 v1 rfl rfl) h1
  obtain ⟨N2, A2, xs2, c2, rfl, hrel2⟩ := open_rel (hval 2 24 v2 rfl rfl) h2
  refine (RankChecks_spec (s := sc0) hl1 hrel2 W (Same.refl W)).mono ?_
  rintro e W' ⟨v, w'', rfl, ⟨rfl, he⟩, hs⟩
  have he' : Ext W W' := he.same_right hs
  refine ⟨_, rfl, ?_⟩
  refine ⟨[d0, d1, d2], [], (p0 ++ p1 ++ p2) ++ [], [], p0 ++ (p1 ++ (p2)), [], hW', ?_, ?_, rfl, Below.frame he' _, fun h => by cases h⟩
  · exact trodAll_mk1 (shut_bool under4 true)
  · exact trodAll_mk3 (Below.trod laidOut rec45 row45 h0 he' fun x hx => hW'.lt x (by simp [hx])) (Below.trod laidOut rec46 row46 h1 he' fun x hx => hW'.lt x (by simp [hx])) (Below.trod laidOut rec24 row24 h2 he' fun x hx => hW'.lt x (by simp [hx]))

theorem rankChecks : Rows.RankChecksSaid :=
  OpenClaim.holds_of_wide 8 Try.f8 rfl rfl rfl rfl rfl rfl rfl ⟨rfl, rfl, rfl, rfl, rfl⟩ rfl rfl rfl rfl rfl (by kernel_rfl) Try.func8 (by kernel_rfl)
    (of_decide_eq_true (by kernel_rfl)) (by unfold Func.isWrapper; first | (rw [if_pos (by decide +kernel)]; kernel_rfl) | (rw [if_neg (by decide +kernel)]; exact ⟨rfl, rfl⟩))
    (fun os started H enc _ => rankChecks_lifted os started H enc)

#print axioms rankChecks
end Go.Proofs.Ytdfhfehlmonjjaa
