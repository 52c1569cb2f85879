/- Proved: for every list of facts, scene and guests the law RankProfiles returns true, and its arguments read behind the call as they did before. No condition. -/
import Derived.Test.YtdpdjcopkehdjaaGreatRSa
import Derived.Test.YtdpdjcopkehdjaaGreatRSb
import Derived.Test.YtdpdjcopkehdjaaGreatRSc
import Derived.Test.YtdpdjcopkehdjaaGreatRSd
import Derived.Test.YtdpdjcopkehdjaaGreatRSe
import Derived.Test.YtdpdjcopkehdjaaGreatRSf
import Derived.Test.YtdpdjcopkehdjaaGreatRSg
import Derived.Test.YtdpdjcopkehdjaaGreatRSh
import Derived.Test.YtdpdjcopkehdjaaGreatRSi
import Derived.Test.YtdpdjcopkehdjaaGreatRSj
import Derived.Test.YtdpdjcopkehdjaaGreatRSk
import Derived.Test.YtdpdjcopkehdjaaGreatRSl
import Derived.Shelf.Strings.OnBuilder
import Derived.Shelf.Strconv.AtoiAll
import Derived.Shelf.Strconv.Itoa3
import Derived.Shelf.Strings.Search2
import Derived.KernelRfl
import Derived.Test.YtdpdjcopkehdjaaGreatProg
set_option linter.unusedVariables false
set_option linter.unusedSimpArgs false
set_option linter.unnecessarySimpa false
set_option linter.unusedSectionVars false
namespace Go.Proofs.YtdpdjcopkehdjaaGreat.Rk
open Go.Eng Go.RowKit Go.ChangeShapes Go.WideShapes Go.ChangeAt
set_option maxRecDepth 100000 in
theorem rankProfiles_lifted (os : Os) (started : os.Started) (H : Type) (enc : TypeId × Value → H) :
    ReturnsInHanded {} Tryz.checked os 4 .any (Rows.rankProfilesSpec.pre6 enc Tryz.prog Tryz.f4 Rows.rankProfilesRow.domain false) (Rows.rankProfilesSpec.post enc Tryz.prog Tryz.f4 false true false false) := by
  refine returnsInHanded_of_change (C := Tryz.checked) own started (by kernel_rfl) Tryz.func4
    (ChangeSpec.witness6 (enc := enc) (C := Tryz.checked) false ⟨#[], #[.slice none 0 0, .agg #[.int .i64 0, .int .i64 0, .int .i64 0, .int .i64 0, .int .i64 0], .slice none 0 0], []⟩ 8 (by kernel_rfl) (by kernel_rfl) (by kernel_rfl) (by kernel_rfl)) ?_
  intro W base args ds gs before hval0 hW hcnd _
  have hval : ∀ (j : Nat) t v, Tryz.f4.params[j]? = some t → args[j]? = some v → Value.okWide Tryz.prog W .any base t v := hval0
  have hW' := hW
  obtain ⟨p, q, hA0, hV, rfl, hfz, hnd⟩ := hW
  have hA : DataW.TrodAll enc Tryz.prog W 0 (fun _ => true) true [22, 24, 25] args.toList ds p := hA0
  obtain ⟨v0, v1, v2, d0, d1, d2, p0, p1, p2, rfl, rfl, rfl, h0, h1, h2⟩ := trodAll_three hA
  obtain ⟨rfl, rfl⟩ := trodVars_none hV
  obtain ⟨A0, l0, c0, rfl, hf0⟩ := open_facts (hval 0 22 v0 rfl rfl) h0
  obtain ⟨sc1, rfl, hsc1⟩ := open_scene (hval 1 24 v1 rfl rfl) h1
  obtain ⟨B2, l2, c2, rfl, hl2, hc2, hm2, hw2⟩ := open_guests (hval 2 25 v2 rfl rfl) h2
  refine (RankProfiles_spec hf0 sc1 hl2 (fun x hx => (hw2 x hx).1) W (Same.refl W)).mono ?_
  rintro e W' ⟨⟨v, w'', rfl, ⟨rfl, he⟩, hs⟩, _⟩
  have he' : Ext W W' := he.same_right hs
  refine ⟨_, rfl, ?_⟩
  refine ⟨[d0, d1, d2], [], (p0 ++ p1 ++ p2) ++ [], [], p0 ++ (p1 ++ (p2)), [], hW', ?_, ?_, rfl, Below.frame he' _, fun h => by cases h⟩
  · exact trodAll_mk1 (shut_bool under4 true)
  · exact trodAll_mk3 (Below.trod laidOut recFs rowFs h0 he' fun x hx => hW'.lt x (by simp [hx])) (Below.trod laidOut recSc rowSc h1 he' fun x hx => hW'.lt x (by simp [hx])) (Below.trod laidOut recUs rowUs h2 he' fun x hx => hW'.lt x (by simp [hx]))
end Go.Proofs.YtdpdjcopkehdjaaGreat.Rk
namespace Go.Proofs.YtdpdjcopkehdjaaGreat
open Go.Eng Go.RowKit Go.ChangeShapes Go.WideShapes Go.ChangeAt
theorem rankProfiles : Rows.RankProfilesSaid :=
  OpenClaim.holds_of_wide 4 Tryz.f4 rfl rfl rfl rfl rfl rfl rfl ⟨rfl, rfl, rfl, rfl, rfl⟩ rfl rfl rfl rfl rfl (by kernel_rfl) Tryz.func4 (by kernel_rfl)
    (of_decide_eq_true (by kernel_rfl)) (by unfold Func.isWrapper; first | (rw [if_pos (by decide +kernel)]; kernel_rfl) | (rw [if_neg (by decide +kernel)]; exact ⟨rfl, rfl⟩))
    (fun os started H enc _ => Rk.rankProfiles_lifted os started H enc)
#print axioms rankProfiles
end Go.Proofs.YtdpdjcopkehdjaaGreat
