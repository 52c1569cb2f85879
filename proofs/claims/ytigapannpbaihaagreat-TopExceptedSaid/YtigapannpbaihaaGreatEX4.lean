/- Proved: for every court and every list of entries the law TopExcepted returns true, and its arguments read behind the call as they did before. No condition. -/
import Derived.Test.YtigapannpbaihaaGreatEXa
import Derived.Test.YtigapannpbaihaaGreatEXb
import Derived.Test.YtigapannpbaihaaGreatEXc
import Derived.Test.YtigapannpbaihaaGreatEXd
import Derived.Test.YtigapannpbaihaaGreatEXe
import Derived.Test.YtigapannpbaihaaGreatEXf
import Derived.Test.YtigapannpbaihaaGreatEXg
import Derived.Test.YtigapannpbaihaaGreatEXh
import Derived.Test.YtigapannpbaihaaGreatEXi
import Derived.Test.YtigapannpbaihaaGreatEXj
import Derived.Test.YtigapannpbaihaaGreatEXk
import Derived.Test.YtigapannpbaihaaGreatEXl
import Derived.Test.YtigapannpbaihaaGreatEXm
import Derived.Test.YtigapannpbaihaaGreatEXn
import Derived.Test.YtigapannpbaihaaGreatEXo
import Derived.Test.YtigapannpbaihaaGreatEXp
import Derived.JoinedOf
import Derived.Shelf.Strings.OnBuilder
import Derived.Shelf.Strconv.AtoiAll
import Derived.Shelf.Strconv.Itoa3
import Derived.Shelf.Strings.Search2
import Derived.KernelRfl
import Derived.Test.YtigapannpbaihaaGreatProg
import Derived.WideLaws
import Derived.Recover
set_option linter.unusedVariables false
set_option linter.unusedSimpArgs false
set_option linter.unnecessarySimpa false
set_option linter.unusedSectionVars false
namespace Go.Proofs.YtigapannpbaihaaGreat.Rk
open Go.Eng Go.RowKit Go.ChangeShapes Go.WideShapes Go.ChangeAt
set_option maxRecDepth 100000 in
theorem topExcepted_lifted (os:Os) (started:os.Started) (H:Type) (enc:TypeId × Value -> H) :
  ReturnsInHanded {} Tryz.checked os 4 .any (Rows.topExceptedSpec.pre6 enc Tryz.prog Tryz.f4 Rows.topExceptedRow.domain false) (Rows.topExceptedSpec.post enc Tryz.prog Tryz.f4 false true false false):=by
 refine returnsInHanded_of_change (C:=Tryz.checked) own started (by kernel_rfl) Tryz.func4
  (ChangeSpec.witness6 (enc:=enc) (C:=Tryz.checked) false ⟨#[],#[.agg #[.slice none 0 0,.slice none 0 0,.int .i64 0,.int .i64 0,.int .i64 0,.int .i64 0,.int .i64 0,.slice none 0 0],.slice none 0 0],[]⟩ 8 (by kernel_rfl) (by kernel_rfl) (by kernel_rfl) (by kernel_rfl)) ?_
 intro W base args ds gs before hval0 hW hcnd _
 have hval:∀ (j:Nat) t v,Tryz.f4.params[j]? = some t -> args[j]? = some v -> Value.okWide Tryz.prog W .any base t v:=hval0
 have hW':=hW
 obtain ⟨p,q,hA0,hV,rfl,hfz,hnd⟩:=hW
 have hA:DataW.TrodAll enc Tryz.prog W 0 (fun _ => true) true [30,54] args.toList ds p:=hA0
 obtain ⟨v0,v1,d0,d1,p0,p1,rfl,rfl,rfl,h0,h1⟩:=trodAll_two hA
 obtain ⟨rfl,rfl⟩:=trodVars_none hV
 obtain ⟨A,f,c,R,l,cl,s,B,gs,dd,rfl,hf,hR,hr,hgd,hgc,hg⟩:=open_court (hval 0 30 v0 rfl rfl) h0
 obtain ⟨E,xs,e,rfl,hx,hn⟩:=open_entries (hval 1 54 v1 rfl rfl) h1
 refine (TopExcepted_spec hf hR s hr hg hgd hgc hx hn W (Same.refl W)).mono ?_
 rintro e W' ⟨⟨v,w'',rfl,⟨rfl,he⟩,hs⟩,_⟩
 have he':Ext W W':=he.same_right hs
 refine ⟨_,rfl,?_⟩
 refine ⟨[d0,d1],[],(p0 ++ p1) ++ [],[],p0 ++ (p1),[],hW',?_,?_,rfl,Below.frame he' _,fun h => by cases h⟩
 ·exact trodAll_mk1 (shut_bool under4 true)
 ·exact trodAll_mk2 (Below.trod laidOut recCt rowCt h0 he' fun x hx => hW'.lt x (by simp [hx])) (Below.trod laidOut recEs rowEs h1 he' fun x hx => hW'.lt x (by simp [hx]))
end Go.Proofs.YtigapannpbaihaaGreat.Rk
namespace Go.Proofs.YtigapannpbaihaaGreat
open Go.Eng Go.RowKit Go.ChangeShapes Go.WideShapes Go.ChangeAt
set_option maxHeartbeats 4000000 in
theorem topExcepted_closed:joinedFacts Tryz.pinned.checked.prog 4 Tryz.f4 Rows.topExceptedSpec Rows.topExceptedRow = true:=by
 unfold joinedFacts
 iterate 31 refine Bool.and_eq_true_iff.2 ⟨?_,?_⟩
 all_goals as_aux_lemma => kernel_rfl
theorem topExcepted_named:Tryz.pinned.checked.prog.funcNamed Rows.topExceptedRow.func = some 4:=by kernel_rfl
theorem topExcepted_inst:Tryz.f4.isInstance Tryz.pinned.checked.prog Rows.topExceptedRow.origin Rows.topExceptedRow.targs:=of_decide_eq_true (by kernel_rfl)
theorem topExcepted_wrap:Tryz.f4.isWrapper Tryz.pinned.checked.prog Rows.topExceptedRow.wrapper Rows.topExceptedRow.mainSum:=by
 unfold Func.isWrapper; first | (rw [if_pos (by decide +kernel)]; kernel_rfl) | (rw [if_neg (by decide +kernel)]; exact ⟨rfl,rfl⟩)
theorem topExcepted:Rows.TopExceptedSaid :=
 OpenClaim.holds_of_wide 4 Tryz.f4 rfl rfl rfl rfl rfl rfl rfl ⟨rfl,rfl,rfl,rfl,rfl⟩ rfl rfl rfl rfl rfl topExcepted_named Tryz.func4 topExcepted_closed topExcepted_inst topExcepted_wrap
  (fun os started H enc _ => Rk.topExcepted_lifted os started H enc)
#print axioms topExcepted
end Go.Proofs.YtigapannpbaihaaGreat
