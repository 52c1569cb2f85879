/- Proved: for every list of facts, rules, scene, guests, pairs and two guests the law RankCauses returns true, and its arguments read behind the call as they did before. No condition. -/
import Derived.Test.YtdpdjcopkehdjaaGreatRXa
import Derived.Test.YtdpdjcopkehdjaaGreatRXb
import Derived.Test.YtdpdjcopkehdjaaGreatRXc
import Derived.Test.YtdpdjcopkehdjaaGreatRXd
import Derived.Test.YtdpdjcopkehdjaaGreatRXe
import Derived.Test.YtdpdjcopkehdjaaGreatRXf
import Derived.Test.YtdpdjcopkehdjaaGreatRXg
import Derived.Test.YtdpdjcopkehdjaaGreatRXh
import Derived.Test.YtdpdjcopkehdjaaGreatRXi
import Derived.Test.YtdpdjcopkehdjaaGreatRXj
import Derived.Test.YtdpdjcopkehdjaaGreatRXk
import Derived.Test.YtdpdjcopkehdjaaGreatRXl
import Derived.Test.YtdpdjcopkehdjaaGreatRXm
import Derived.Test.YtdpdjcopkehdjaaGreatRXn
import Derived.Test.YtdpdjcopkehdjaaGreatRXo
import Derived.Test.YtdpdjcopkehdjaaGreatRXp
import Derived.Test.YtdpdjcopkehdjaaGreatRXq
import Derived.Test.YtdpdjcopkehdjaaGreatRXr
import Derived.JoinedOf
import Derived.Shelf.Strings.OnBuilder
import Derived.Shelf.Strconv.AtoiAll
import Derived.Shelf.Strconv.Itoa3
import Derived.Shelf.Strings.Search2
import Derived.KernelRfl
import Derived.Test.YtdpdjcopkehdjaaGreatProg
import Derived.WideLaws
import Derived.Maps.RangeRun
set_option linter.unusedVariables false
set_option linter.unusedSimpArgs false
set_option linter.unnecessarySimpa false
set_option linter.unusedSectionVars false
namespace Go.Proofs.YtdpdjcopkehdjaaGreat.Rk
open Go.Eng Go.RowKit Go.ChangeShapes Go.WideShapes Go.ChangeAt
set_option maxRecDepth 100000 in
theorem rankCauses_lifted (os:Os) (started:os.Started) (H:Type) (enc:TypeId × Value -> H) :
  ReturnsInHanded {} Tryz.checked os 8 .any (Rows.rankCausesSpec.pre6 enc Tryz.prog Tryz.f8 Rows.rankCausesRow.domain false) (Rows.rankCausesSpec.post enc Tryz.prog Tryz.f8 false true false false):=by
 refine returnsInHanded_of_change (C:=Tryz.checked) own started (by kernel_rfl) Tryz.func8
  (ChangeSpec.witness6 (enc:=enc) (C:=Tryz.checked) false ⟨#[],#[.slice none 0 0,.agg #[.slice none 0 0],.agg #[.int .i64 0,.int .i64 0,.int .i64 0,.int .i64 0,.int .i64 0],.slice none 0 0,.slice none 0 0,.int .i64 0,.int .i64 0],[]⟩ 8 (by kernel_rfl) (by kernel_rfl) (by kernel_rfl) (by kernel_rfl)) ?_
 intro W base args ds gs before hval0 hW hcnd _
 have hval:∀ (j:Nat) t v,Tryz.f8.params[j]? = some t -> args[j]? = some v -> Value.okWide Tryz.prog W .any base t v:=hval0
 have hW':=hW
 obtain ⟨p,q,hA0,hV,rfl,hfz,hnd⟩:=hW
 have hA:DataW.TrodAll enc Tryz.prog W 0 (fun _ => true) true [22,29,24,25,46,3,3] args.toList ds p:=hA0
 obtain ⟨v0,v1,v2,v3,v4,v5,v6,d0,d1,d2,d3,d4,d5,d6,p0,p1,p2,p3,p4,p5,p6,rfl,rfl,rfl,h0,h1,h2,h3,h4,h5,h6⟩:=trodAll_n7 hA
 obtain ⟨rfl,rfl⟩:=trodVars_none hV
 obtain ⟨A0,l0,c0,rfl,hf0⟩:=open_facts (hval 0 22 v0 rfl rfl) h0
 obtain ⟨R1,l1,c1,rfl,hR1⟩:=open_rules (hval 1 29 v1 rfl rfl) h1
 obtain ⟨sc2,rfl,hsc2⟩:=open_scene (hval 2 24 v2 rfl rfl) h2
 obtain ⟨B3,l3,c3,rfl,hl3,hc3,hm3,hw3⟩:=open_guests (hval 3 25 v3 rfl rfl) h3
 obtain ⟨B4,l4,c4,rfl,hl4,hc4,hm4,hw4⟩:=open_prs (hval 4 46 v4 rfl rfl) h4
 obtain ⟨i5,rfl,_,_,wf5⟩:=open_int under3 (hval 5 3 v5 rfl rfl) h5
 obtain ⟨i6,rfl,_,_,wf6⟩:=open_int under3 (hval 6 3 v6 rfl rfl) h6
 refine (RankCauses_spec hf0 hR1 sc2 hl3 (fun x hx => (hw3 x hx).1) hl4 hw4 i5 i6 W (Same.refl W)).mono ?_
 rintro e W' ⟨⟨v,w'',rfl,⟨rfl,he⟩,hs⟩,_⟩
 have he':Ext W W':=he.same_right hs
 refine ⟨_,rfl,?_⟩
 refine ⟨[d0,d1,d2,d3,d4,d5,d6],[],(p0 ++ (p1 ++ (p2 ++ (p3 ++ (p4 ++ (p5 ++ (p6))))))) ++ [],[],p0 ++ (p1 ++ (p2 ++ (p3 ++ (p4 ++ (p5 ++ (p6)))))),[],hW',?_,?_,rfl,Below.frame he' _,fun h => by cases h⟩
 ·exact trodAll_mk1 (shut_bool under4 true)
 ·exact trodAll_mkn7 (Below.trod laidOut recFs rowFs h0 he' fun x hx => hW'.lt x (by simp [hx])) (Below.trod laidOut recRs rowRs h1 he' fun x hx => hW'.lt x (by simp [hx])) (Below.trod laidOut recSc rowSc h2 he' fun x hx => hW'.lt x (by simp [hx])) (Below.trod laidOut recUs rowUs h3 he' fun x hx => hW'.lt x (by simp [hx])) (Below.trod laidOut recPs rowPs h4 he' fun x hx => hW'.lt x (by simp [hx])) (Below.trod laidOut rec3 row3 h5 he' fun x hx => hW'.lt x (by simp [hx])) (Below.trod laidOut rec3 row3 h6 he' fun x hx => hW'.lt x (by simp [hx]))
end Go.Proofs.YtdpdjcopkehdjaaGreat.Rk
namespace Go.Proofs.YtdpdjcopkehdjaaGreat
open Go.Eng Go.RowKit Go.ChangeShapes Go.WideShapes Go.ChangeAt
set_option maxHeartbeats 4000000 in
theorem rankCauses_closed:joinedFacts Tryz.pinned.checked.prog 8 Tryz.f8 Rows.rankCausesSpec Rows.rankCausesRow = true:=by
 unfold joinedFacts
 iterate 31 refine Bool.and_eq_true_iff.2 ⟨?_,?_⟩
 all_goals as_aux_lemma => kernel_rfl
theorem rankCauses_named:Tryz.pinned.checked.prog.funcNamed Rows.rankCausesRow.func = some 8:=by kernel_rfl
theorem rankCauses_inst:Tryz.f8.isInstance Tryz.pinned.checked.prog Rows.rankCausesRow.origin Rows.rankCausesRow.targs:=of_decide_eq_true (by kernel_rfl)
theorem rankCauses_wrap:Tryz.f8.isWrapper Tryz.pinned.checked.prog Rows.rankCausesRow.wrapper Rows.rankCausesRow.mainSum:=by
 unfold Func.isWrapper; first | (rw [if_pos (by decide +kernel)]; kernel_rfl) | (rw [if_neg (by decide +kernel)]; exact ⟨rfl,rfl⟩)
theorem rankCauses:Rows.RankCausesSaid :=
 OpenClaim.holds_of_wide 8 Tryz.f8 rfl rfl rfl rfl rfl rfl rfl ⟨rfl,rfl,rfl,rfl,rfl⟩ rfl rfl rfl rfl rfl rankCauses_named Tryz.func8 rankCauses_closed rankCauses_inst rankCauses_wrap
  (fun os started H enc _ => Rk.rankCauses_lifted os started H enc)
#print axioms rankCauses
end Go.Proofs.YtdpdjcopkehdjaaGreat
