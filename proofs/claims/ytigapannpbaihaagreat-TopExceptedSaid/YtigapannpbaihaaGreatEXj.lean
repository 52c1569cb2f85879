/- a part of the proof: steps, walks and plain laws that the law below stands on; no condition. -/
import Derived.Test.YtigapannpbaihaaGreatEXa
import Derived.Test.YtigapannpbaihaaGreatEXb
import Derived.Test.YtigapannpbaihaaGreatEXc
import Derived.Test.YtigapannpbaihaaGreatEXd
import Derived.Test.YtigapannpbaihaaGreatEXe
import Derived.Test.YtigapannpbaihaaGreatEXf
import Derived.Test.YtigapannpbaihaaGreatEXg
import Derived.Test.YtigapannpbaihaaGreatEXh
import Derived.Test.YtigapannpbaihaaGreatEXi
import Derived.Recover
set_option linter.unusedVariables false
set_option linter.unusedSimpArgs false
set_option linter.unnecessarySimpa false
set_option linter.unusedSectionVars false
namespace Go.Proofs.YtigapannpbaihaaGreat.Rk
open Go.Eng Go.RowKit
def srchCells (Wm:Nat -> Nat -> Int) (n:Nat) (cv vv:Value):List Value:=imat Wm ++ [.int .i64 (n:Nat),cv,vv,.int .i64 (-1)]
def tabOf (Wm:Nat -> Nat -> Int) (c:List Int):List Int:=Rw.tabL (wf Wm c) c.length (2 ^ c.length)
theorem tabOf_length (Wm:Nat -> Nat -> Int) (c:List Int):(tabOf Wm c).length = 2 ^ c.length:=Rw.tabL_length _ _ _
theorem srch_w {a b:Nat} (ha:a < 24) (hb:b < 24) (Wm:Nat -> Nat -> Int) (n:Nat) (cv vv:Value):(srchCells Wm n cv vv)[a * 24 + b]? = some (.int .i64 (Wm a b)):=by
 unfold srchCells
 rw [List.getElem?_append_left (by rw [imat_length]; omega)]
 exact imat_get ha hb Wm
theorem srch_tail (Wm:Nat -> Nat -> Int) (n:Nat) (cv vv:Value) (j:Nat):(srchCells Wm n cv vv)[576 + j]? = ([.int .i64 (n:Nat),cv,vv,.int .i64 (-1)]:List Value)[j]?:=by
 unfold srchCells
 rw [List.getElem?_append_right (by rw [imat_length]; omega),imat_length,Nat.add_sub_cancel_left]
structure SrchOk (n:Nat) (Wm:Nat -> Nat -> Int) (cs:List (List Int)):Prop where
 hn:n <= 24
 hW:∀ p q,0 <= Wm p q ∧ Wm p q <= 1000
 hl:cs.length <= 24
 len:∀ c ∈ cs,c.length <= 10
 lt:∀ c ∈ cs,∀ x ∈ c,0 <= x ∧ x < (n:Int)
structure Srch (w:World) (gS n:Nat) (Wm:Nat -> Nat -> Int) (cs:List (List Int)) (Ac Av:Option Addr) (cc cv:Nat) (uc uv:List Value):Prop where
 at_:w.heap[gS]? = some (.cells (srchCells Wm n (.slice Ac cs.length cc) (.slice Av cs.length cv)).toArray 112 (0,0))
 rc:RList w Ac cs uc
 rv:RList w Av (cs.map (tabOf Wm)) uv
section
variable {w w':World} {gS n:Nat} {Wm:Nat -> Nat -> Int} {cs:List (List Int)} {Ac Av:Option Addr} {cc cv:Nat} {uc uv:List Value}
theorem Srch.ext (h:Srch w gS n Wm cs Ac Av cc cv uc uv) (e:Ext w w'):Srch w' gS n Wm cs Ac Av cc cv uc uv:=⟨e.heap h.at_,h.rc.ext e,h.rv.ext e⟩
theorem Srch.tail (h:Srch w gS n Wm cs Ac Av cc cv uc uv) {j:Nat} {v:Value} (hj:([.int .i64 (n:Nat),.slice Ac cs.length cc,.slice Av cs.length cv,.int .i64 (-1)]:List Value)[j]? = some v):w.cell? ⟨gS,576 + j,none⟩ = some v:=by
 refine cell_of_block h.at_ ?_
 have:=srch_tail Wm n (.slice Ac cs.length cc) (.slice Av cs.length cv) j
 rw [hj] at this
 simpa using this
theorem Srch.wt (h:Srch w gS n Wm cs Ac Av cc cv uc uv) {a b:Nat} (ha:a < 24) (hb:b < 24):w.cell? ⟨gS,a * 24 + b,none⟩ = some (.int .i64 (Wm a b)):=by
 refine cell_of_block h.at_ ?_
 have:=srch_w ha hb Wm n (.slice Ac cs.length cc) (.slice Av cs.length cv)
 simpa using this
theorem RList.at {A:Option Addr} {L:List (List Int)} {us:List Value} (h:RList w A L us) {i:Nat} (hi:i < L.length):∃ b o A' c,A = some ⟨b,o,none⟩ ∧ w.cell? ⟨b,o + i,none⟩ = some (.slice A' L[i].length c) ∧ Reads w A' (ints L[i]):=by
 obtain ⟨A',c,hu,hr⟩:=h.row i hi
 rcases h.reads with h0 | ⟨b,o,hA,hrd⟩
 ·have:=h.len; rw [h0] at this; simp at this; omega
 ·exact ⟨b,o,A',c,hA,hrd i _ hu,hr⟩
end
theorem mask_step (c:List Int) (f:Nat -> Bool) {j x:Nat} (hj:j < c.length) (hx:c[j] = (x:Int)):Rw.maskTo (ns c) f (j + 1) = if f x = true then Rw.maskTo (ns c) f j ||| 2 ^ j else Rw.maskTo (ns c) f j:=by
 have:(ns c).getD j 0 = x:=by rw [ns_getD hj,hx]; rfl
 show (if f ((ns c).getD j 0) = true then _ else _) = _
 rw [this]
theorem mask_lt62 (c:List Nat) (f:Nat -> Bool) {j:Nat} (hj:j <= 10):Rw.maskTo c f j < 2 ^ 62:=Nat.lt_of_lt_of_le (Rw.maskTo_lt c f j) (Nat.pow_le_pow_right (by omega) (by omega))
def leftTo (Wm:Nat -> Nat -> Int) (cs:List (List Int)) (f:Nat -> Bool) (i:Nat):Int:=Rw.left ((cs.take i).map ns) (Rw.Vof Wm) f
theorem leftTo_succ (Wm:Nat -> Nat -> Int) (cs:List (List Int)) (f:Nat -> Bool) {i:Nat} (hi:i < cs.length):leftTo Wm cs f (i + 1) = leftTo Wm cs f i + Rw.Vof Wm (ns cs[i]) f:=by
 unfold leftTo Rw.left
 rw [List.take_succ_eq_append_getElem hi,List.map_append,List.map_append,List.sum_append]
 simp only [List.map_cons,List.map_nil,List.sum_cons,List.sum_nil,Int.add_zero]
theorem Vof_tab (Wm:Nat -> Nat -> Int) (c:List Int) (f:Nat -> Bool):(tabOf Wm c)[Rw.maskTo (ns c) f c.length]? = some (Rw.Vof Wm (ns c) f):=by
 unfold tabOf Rw.Vof
 have h:=Rw.maskTo_lt (ns c) f c.length
 rw [Rw.tabL_get _ _ h]
 unfold Rw.T Rw.maskOf
 rw [ns_length]
 rfl
theorem Vof_bound {n:Nat} {Wm:Nat -> Nat -> Int} {cs:List (List Int)} (h:SrchOk n Wm cs) {c:List Int} (hc:c ∈ cs) (f:Nat -> Bool):0 <= Rw.Vof Wm (ns c) f ∧ Rw.Vof Wm (ns c) f <= 1000000000:=by
 have hw:∀ i k,0 <= Wm ((ns c).getD i 0) ((ns c).getD k 0) ∧ Wm ((ns c).getD i 0) ((ns c).getD k 0) <= 1000:=fun i k => h.hW _ _
 have hl:=h.len c hc
 have hm:=Rw.maskOf_lt (ns c) f
 exact ⟨Rw.T_nonneg hw (by rw [ns_length]; omega) _ hm,Rw.T_small hw (by rw [ns_length]; omega) hm⟩
theorem leftTo_bound {n:Nat} {Wm:Nat -> Nat -> Int} {cs:List (List Int)} (h:SrchOk n Wm cs) (f:Nat -> Bool):∀ i,i <= cs.length -> 0 <= leftTo Wm cs f i ∧ leftTo Wm cs f i <= 1000000000 * i
 | 0,_ => by simp [leftTo,Rw.left]
 | i + 1,hi => by
  have ih:=leftTo_bound h f i (by omega)
  have hv:=Vof_bound h (List.getElem_mem (by omega:i < cs.length)) f
  rw [leftTo_succ _ _ _ (by omega)]
  omega
set_option maxRecDepth 100000 in
set_option maxHeartbeats 8000000 in
theorem left_spec {w:World} {gS n:Nat} {Wm:Nat -> Nat -> Int} {cs:List (List Int)} {Ac Av:Option Addr} {cc cv:Nat} {uc uv:List Value} (hok:SrchOk n Wm cs) (h:Srch w gS n Wm cs Ac Av cc cv uc uv) {gi:Nat} {f:Nat -> Bool} (hin:w.heap[gi]? = some (.cells (bools n f).toArray 4 (0,0))) :
  CallsV C.P 87 #[.pointer (some ⟨gS,0,none⟩),.slice (some ⟨gi,0,none⟩) n n] w fun v w' => v = .int .i64 (leftTo Wm cs f cs.length) ∧ w' = w:=by
 have hn:=hok.hn
 have hcl:=hok.hl
 refine callsV_of C_ok (args:=[_,_]) (plans:=[]) Tryz.func87 rfl Tryz.ntmps87 (by kernel_rfl) (Nat.le_of_ble_eq_true rfl) ?_
 refine ⟨_,h.tail (j:=1) rfl,?_⟩
 refine loopE C_ok (fun (i:Nat) => [(0,.pointer (some ⟨gS,0,none⟩)),(1,.slice (some ⟨gi,0,none⟩) n n),(5,.int .i64 (leftTo Wm cs f i)),(14,.slice Ac cs.length cc),(15,.int .i64 cs.length),(16,.int .i64 i)])
  (fun i w' => i <= cs.length ∧ w' = w) (fun i => cs.length - i) 0 ⟨rfl,rfl,rfl,rfl,rfl,rfl,trivial⟩ ⟨Nat.zero_le _,rfl⟩ ?_
 rintro i w1 ⟨hi,rfl⟩
 refine brE_dec (fun hlt => ?_) (fun hge => ?_)
 ·have hlt:i < cs.length:=by have:(i:Int) < (cs.length:Nat):=hlt; omega
  have hmem:cs[i] ∈ cs:=List.getElem_mem hlt
  have hci:=hok.lt _ hmem
  have hc10:=hok.len _ hmem
  obtain ⟨b,o,A',c',hA,hcell,hrd⟩:=h.rc.at hlt
  have hlb:=leftTo_bound hok f i hi
  have hvb:=Vof_bound hok hmem f
  have hsucc:=leftTo_succ Wm cs f hlt
  have hvt:=Vof_tab Wm cs[i] f
  have hrv:=h.rv.at (i:=i) (by simpa using hlt)
  rw [List.getElem_map] at hrv
  obtain ⟨bv,ov,Av',cv',hAv,hcellv,hrdv⟩:=hrv
  have htl:=tabOf_length Wm cs[i]
  refine ⟨i,b,o,rfl,hlt,hA,?_⟩
  refine ⟨_,by simpa using hcell,?_⟩
  generalize cs[i] = c at *
  refine loopE C_ok (fun (j:Nat) => [(0,.pointer (some ⟨gS,0,none⟩)),(1,.slice (some ⟨gi,0,none⟩) n n),(5,.int .i64 (leftTo Wm cs f i)),(6,.int .i64 i),(8,.int .i64 (Rw.maskTo (ns c) f j:Nat)),(14,.slice Ac cs.length cc),(15,.int .i64 cs.length),(16,.int .i64 i),(21,.slice A' c.length c'),(22,.int .i64 c.length),(23,.int .i64 j)])
   (fun j w' => j <= c.length ∧ w' = w1) (fun j => c.length - j) 0 ⟨rfl,rfl,rfl,rfl,rfl,rfl,rfl,rfl,rfl,rfl,rfl,trivial⟩ ⟨Nat.zero_le _,rfl⟩ ?_
  rintro j w2 ⟨hj,rfl⟩
  refine brE_dec (fun hlt2 => ?_) (fun hge2 => ?_)
  ·have hlt2:j < c.length:=by have:(j:Int) < (c.length:Nat):=hlt2; omega
   obtain ⟨b1,o1,hA1,hc1⟩:=Reads.int hrd hlt2
   have hx:=hci c[j] (List.getElem_mem hlt2)
   obtain ⟨x,hx'⟩:=Int.eq_ofNat_of_zero_le hx.1
   have hms:=mask_step c f hlt2 hx'
   have hxn:x < n:=by omega
   rw [hx'] at hc1
   refine ⟨j,b1,o1,rfl,hlt2,hA1,?_⟩
   refine ⟨_,by simpa using hc1,?_⟩
   refine ⟨x,gi,0,rfl,hxn,rfl,?_⟩
   refine ⟨.bool (f x),by have:=cell_of_block hin (i:=x) (v:=.bool (f x)) (by simpa using bools_get hxn f); simpa using this,?_⟩
   have next:IntKind.i64.wrap ((j:Int) + 1) = ((j + 1:Nat):Int):=fit ⟨by omega,by omega⟩
   refine brE_mk (fun hf => ?_) (fun hf => ?_)
   ·rw [if_pos hf] at hms
    refine ⟨_,fun w => shlQ (by omega) w,⟨by simp,by simp⟩,?_⟩
    refine ⟨_,fun w => orQ (mask_lt62 _ _ (by omega)) (Nat.pow_lt_pow_right (by omega) (by omega)) w,⟨by simp,by simp⟩,?_⟩
    refine ⟨_,next,?_⟩
    exact ⟨j + 1,⟨rfl,rfl,rfl,rfl,by rw [hms]; rfl,rfl,rfl,rfl,rfl,rfl,rfl,trivial⟩,⟨hlt2,rfl⟩,by omega⟩
   ·rw [if_neg (by rw [hf]; simp)] at hms
    refine ⟨_,next,?_⟩
    exact ⟨j + 1,⟨rfl,rfl,rfl,rfl,by rw [hms]; rfl,rfl,rfl,rfl,rfl,rfl,rfl,trivial⟩,⟨hlt2,rfl⟩,by omega⟩
  ·have:j = c.length:=by have:¬ (j:Int) < (c.length:Nat):=hge2; omega
   subst this
   have hmt:Rw.maskTo (ns c) f c.length < (tabOf Wm c).length:=by
    rw [htl]
    exact Rw.maskTo_lt _ _ _
   refine ⟨_,h.tail (j:=2) rfl,?_⟩
   refine ⟨i,bv,ov,rfl,hlt,hAv,?_⟩
   refine ⟨_,by simpa using hcellv,?_⟩
   obtain ⟨b3,o3,hA3,hc3⟩:=Reads.int hrdv hmt
   have e3:(tabOf Wm c)[Rw.maskTo (ns c) f c.length] = Rw.Vof Wm (ns c) f:=by
    rw [List.getElem?_eq_getElem hmt] at hvt
    exact Option.some.inj hvt
   rw [e3] at hc3
   refine ⟨Rw.maskTo (ns c) f c.length,b3,o3,rfl,hmt,hA3,?_⟩
   refine ⟨_,by simpa using hc3,?_⟩
   refine ⟨leftTo Wm cs f (i + 1),by rw [hsucc]; exact fit ⟨by omega,by omega⟩,?_⟩
   refine ⟨((i + 1:Nat):Int),fit ⟨by omega,by omega⟩,?_⟩
   exact ⟨i + 1,⟨rfl,rfl,rfl,rfl,rfl,rfl,trivial⟩,⟨hlt,rfl⟩,by omega⟩
 ·have:i = cs.length:=by have:¬ (i:Int) < (cs.length:Nat):=hge; omega
  subst this
  exact ⟨rfl,rfl⟩
theorem nextC_succ (Wm:Nat -> Nat -> Int) (f:Nat -> Bool) (x i:Nat):Rw.nextC (i + 1) Wm f x = Rw.nextC i Wm f x + if f i = true ∧ i ≠ x then Wm i x else 0:=by
 unfold Rw.nextC
 simp [List.range_succ]
theorem nextC_bound {Wm:Nat -> Nat -> Int} (hW:∀ p q,0 <= Wm p q ∧ Wm p q <= 1000) (f:Nat -> Bool) (x:Nat):∀ i,0 <= Rw.nextC i Wm f x ∧ Rw.nextC i Wm f x <= 1000 * i
 | 0 => by simp [Rw.nextC]
 | i + 1 => by
  have ih:=nextC_bound hW f x i
  have h:=hW i x
  rw [nextC_succ]
  split <;> omega
set_option maxRecDepth 100000 in
set_option maxHeartbeats 8000000 in
theorem nextG_spec {w:World} {gS n:Nat} {Wm:Nat -> Nat -> Int} {cs:List (List Int)} {Ac Av:Option Addr} {cc cv:Nat} {uc uv:List Value} (hok:SrchOk n Wm cs) (h:Srch w gS n Wm cs Ac Av cc cv uc uv) {gi:Nat} {f:Nat -> Bool} (hin:w.heap[gi]? = some (.cells (bools n f).toArray 4 (0,0))) {x:Nat} (hx:x < n) :
  CallsV C.P 88 #[.pointer (some ⟨gS,0,none⟩),.slice (some ⟨gi,0,none⟩) n n,.int .i64 (x:Nat)] w fun v w' => v = .int .i64 (Rw.nextC n Wm f x) ∧ w' = w:=by
 have hn:=hok.hn
 refine callsV_of C_ok (args:=[_,_,_]) (plans:=[]) Tryz.func88 rfl Tryz.ntmps88 (by kernel_rfl) (Nat.le_of_ble_eq_true rfl) ?_
 refine loopE C_ok (fun (i:Nat) => [(0,.pointer (some ⟨gS,0,none⟩)),(2,.int .i64 x),(7,.int .i64 (Rw.nextC i Wm f x)),(10,.slice (some ⟨gi,0,none⟩) n n),(11,.int .i64 n),(12,.int .i64 i)])
  (fun i w' => i <= n ∧ w' = w) (fun i => n - i) 0 ⟨rfl,rfl,rfl,rfl,rfl,rfl,trivial⟩ ⟨Nat.zero_le _,rfl⟩ ?_
 rintro i w1 ⟨hi,rfl⟩
 refine brE_dec (fun hlt => ?_) (fun hge => ?_)
 ·have hlt:i < n:=by have:(i:Int) < (n:Nat):=hlt; omega
  have hb:=nextC_bound hok.hW f x i
  have hw:=hok.hW i x
  have hsucc:=nextC_succ Wm f x i
  have next:IntKind.i64.wrap ((i:Int) + 1) = ((i + 1:Nat):Int):=fit ⟨by omega,by omega⟩
  refine ⟨i,gi,0,rfl,hlt,rfl,?_⟩
  refine ⟨.bool (f i),by have:=cell_of_block hin (i:=i) (v:=.bool (f i)) (by simpa using bools_get hlt f); simpa using this,?_⟩
  refine brE_mk (fun hf => ?_) (fun hf => ?_)
  ·refine brE_ndec (fun hne => ?_) (fun heq => ?_)
   ·have hne:i ≠ x:=fun e => hne (by rw [e])
    rw [if_pos ⟨hf,hne⟩] at hsucc
    refine ⟨i,rfl,by omega,?_⟩
    refine ⟨x,rfl,by omega,?_⟩
    refine ⟨.int .i64 (Wm i x),by have:=h.wt (a:=i) (b:=x) (by omega) (by omega); simpa [addOff] using this,?_⟩
    refine ⟨Rw.nextC (i + 1) Wm f x,by rw [hsucc]; exact fit ⟨by omega,by omega⟩,?_⟩
    refine ⟨_,h.tail (j:=3) rfl,?_⟩
    refine ⟨_,next,?_⟩
    exact ⟨i + 1,⟨rfl,rfl,rfl,rfl,rfl,rfl,trivial⟩,⟨hlt,rfl⟩,by omega⟩
   ·have heq:i = x:=by have:(i:Int) = (x:Nat):=heq; omega
    rw [if_neg (fun h => h.2 heq),Int.add_zero] at hsucc
    refine ⟨_,next,?_⟩
    exact ⟨i + 1,⟨rfl,rfl,by rw [hsucc]; rfl,rfl,rfl,rfl,trivial⟩,⟨hlt,rfl⟩,by omega⟩
  ·rw [if_neg (fun h => by rw [hf] at h; cases h.1),Int.add_zero] at hsucc
   refine ⟨_,next,?_⟩
   exact ⟨i + 1,⟨rfl,rfl,by rw [hsucc]; rfl,rfl,rfl,rfl,trivial⟩,⟨hlt,rfl⟩,by omega⟩
 ·have:i = n:=by have:¬ (i:Int) < (n:Nat):=hge; omega
  subst this
  exact ⟨rfl,rfl⟩
end Go.Proofs.YtigapannpbaihaaGreat.Rk
namespace Go.Proofs.YtigapannpbaihaaGreat.Rk
open Go.Eng Go.RowKit
def natI (l:List Nat):List Int:=l.map fun (k:Nat) => (k:Int)
theorem natI_snoc (l:List Nat) (x:Nat):natI (l ++ [x]) = natI l ++ [(x:Int)]:=by simp [natI]
theorem natI_length (l:List Nat):(natI l).length = l.length:=by simp [natI]
theorem leftTo_all (Wm:Nat -> Nat -> Int) (cs:List (List Int)) (f:Nat -> Bool):leftTo Wm cs f cs.length = Rw.left (cs.map ns) (Rw.Vof Wm) f:=by
 unfold leftTo; rw [List.take_length]
def pickB (n:Nat) (Wm:Nat -> Nat -> Int) (cs:List (List Int)) (f:Nat -> Bool) (rest:Int) (x:Nat):Bool :=
 f x && decide (Rw.nextC n Wm f x < Rw.never) && decide (Rw.nextC n Wm f x + Rw.left (cs.map ns) (Rw.Vof Wm) (Rw.without f x) = rest)
def fromL (n:Nat) (Wm:Nat -> Nat -> Int) (cs:List (List Int)) (k:Nat) (f:Nat -> Bool) (rest:Int):List Nat:=Rw.firstL n Wm (cs.map ns) (Rw.Vof Wm) k f rest
theorem fromL_yes {n:Nat} {Wm:Nat -> Nat -> Int} {cs:List (List Int)} {k:Nat} {f:Nat -> Bool} {rest:Int} {x:Nat} (hx:x < n) (hp:pickB n Wm cs f rest x = true) (hq:∀ y < x,pickB n Wm cs f rest y = false) :
  fromL n Wm cs (k + 1) f rest = x :: fromL n Wm cs k (Rw.without f x) (Rw.left (cs.map ns) (Rw.Vof Wm) (Rw.without f x)):=by
 have h:Rw.pick n Wm (cs.map ns) (Rw.Vof Wm) f rest = some x:=by
  unfold Rw.pick
  rw [List.find?_eq_some_iff_getElem]
  refine ⟨hp,x,by simpa using hx,by simp,fun j hj => ?_⟩
  have:=hq j hj
  simp only [List.getElem_range,Bool.not_eq_true']
  exact this
 show (match Rw.pick n Wm (cs.map ns) (Rw.Vof Wm) f rest with | some x => x :: Rw.firstL n Wm (cs.map ns) (Rw.Vof Wm) k (Rw.without f x) (Rw.left (cs.map ns) (Rw.Vof Wm) (Rw.without f x)) | none => Rw.firstL n Wm (cs.map ns) (Rw.Vof Wm) k f rest) = _
 rw [h]; rfl
theorem fromL_no {n:Nat} {Wm:Nat -> Nat -> Int} {cs:List (List Int)} {k:Nat} {f:Nat -> Bool} {rest:Int} (hq:∀ y < n,pickB n Wm cs f rest y = false):fromL n Wm cs (k + 1) f rest = fromL n Wm cs k f rest:=by
 have h:Rw.pick n Wm (cs.map ns) (Rw.Vof Wm) f rest = none:=find_range_none hq
 show (match Rw.pick n Wm (cs.map ns) (Rw.Vof Wm) f rest with | some x => x :: Rw.firstL n Wm (cs.map ns) (Rw.Vof Wm) k (Rw.without f x) (Rw.left (cs.map ns) (Rw.Vof Wm) (Rw.without f x)) | none => Rw.firstL n Wm (cs.map ns) (Rw.Vof Wm) k f rest) = _
 rw [h]; rfl
theorem upd_false (f:Nat -> Bool) (x:Nat):upd f x false = Rw.without f x:=by
 funext k
 unfold upd Rw.without
 by_cases h:k = x <;> simp [h]
theorem upd_back {f:Nat -> Bool} {x:Nat} (h:f x = true):upd (upd f x false) x true = f:=by
 funext k
 unfold upd
 by_cases e:k = x
 ·subst e; simp [h]
 ·simp [e]
theorem upd_to (i:Nat):upd (fun k => decide (k < i)) i true = fun k => decide (k < i + 1):=by
 funext k
 unfold upd
 by_cases e:k = i
 ·subst e; simp
 ·have:decide (k < i) = decide (k < i + 1):=by apply decide_eq_decide.2; omega
  simp [e,this]
structure FirstIn (w:World) (gi n:Nat) (f:Nat -> Bool) (u:Value) (o:List Nat) (W:World):Prop where
 ext:Ext w W
 hin:W.heap[gi]? = some (.cells (bools n f).toArray 4 (0,0))
 base:w.heap.size <= gi
 row:W.ownsRow w.heap.size 3 1 u o.length (ints (natI o))
theorem FirstIn.put {w W W':World} {gi n:Nat} {f f':Nat -> Bool} {u:Value} {o:List Nat} (h:FirstIn w gi n f u o W) (p:Put W gi (.cells (bools n f').toArray 4 (0,0)) W'):FirstIn w gi n f' u o W':=by
 refine ⟨p.ext_of h.ext h.base,p.here,h.base,ownsRow_put h.row p fun e => ?_⟩
 obtain ⟨_,hv | ⟨g',cap,cur,hv,hb,hgg,h1⟩⟩:=h.row
 ·rw [hv.1] at e; cases e
 ·rw [hv] at e
  have e:g' = gi:=by simpa [Value.ownBlock] using e
  subst e
  have:=h.hin
  rw [hgg] at this
  simp at this
def orderL (n:Nat) (Wm:Nat -> Nat -> Int) (cs:List (List Int)):List Nat:=fromL n Wm cs n (fun _ => true) (leftTo Wm cs (fun _ => true) cs.length)
set_option maxRecDepth 100000 in
set_option maxHeartbeats 16000000 in
theorem firstG_spec {w:World} {gS n:Nat} {Wm:Nat -> Nat -> Int} {cs:List (List Int)} {Ac Av:Option Addr} {cc cv:Nat} {uc uv:List Value} (hok:SrchOk n Wm cs) (h:Srch w gS n Wm cs Ac Av cc cv uc uv) :
  CallsV C.P 31 #[.pointer (some ⟨gS,0,none⟩)] w fun v w' => (∃ u,v = .tuple #[u,.int .i64 (leftTo Wm cs (fun _ => true) cs.length)] ∧ w'.ownsRow w.heap.size 3 1 u (orderL n Wm cs).length (ints (natI (orderL n Wm cs)))) ∧ Ext w w':=by
 have hn:=hok.hn
 refine callsV_of C_ok (args:=[_]) (plans:=[]) Tryz.func31 rfl Tryz.ntmps31 (by kernel_rfl) (Nat.le_of_ble_eq_true rfl) ?_
 refine ⟨_,h.tail (j:=0) rfl,?_⟩
 refine ⟨n,n,rfl,rfl,Nat.le_refl _,by omega,by omega,rfl,rfl,rfl,rfl,?_⟩
 intro gi w1 h1
 have h1:Alloc w gi (.cells (bools n fun k => decide (k < 0)).toArray 4 (0,0)) w1:=by
  have e:bools n (fun k => decide (k < 0)) = List.replicate n (Value.bool false):=by rw [bools_false]; exact bools_congr fun k _ => by simp
  rw [e]; exact h1
 have I1:FirstIn w gi n (fun k => decide (k < 0)) (.slice none 0 0) [] w1:=⟨h1.ext,h1.here,by rw [h1.new]; exact Nat.le_refl _,World.ownsRow_nil _ _ _ _⟩
 refine loopE C_ok (fun (i:Nat) => [(0,.pointer (some ⟨gS,0,none⟩)),(4,.slice (some ⟨gi,0,none⟩) n n),(17,.slice (some ⟨gi,0,none⟩) n n),(18,.int .i64 n),(19,.int .i64 i)])
  (fun i W => i <= n ∧ FirstIn w gi n (fun k => decide (k < i)) (.slice none 0 0) [] W) (fun i => n - i) 0 ⟨rfl,rfl,rfl,rfl,rfl,trivial⟩ ⟨Nat.zero_le _,I1⟩ ?_
 rintro i w2 ⟨hi,I2⟩
 refine brE_dec (fun hlt => ?_) (fun hge => ?_)
 ·have hlt:i < n:=by have:(i:Int) < (n:Nat):=hlt; omega
  refine ⟨i,gi,0,rfl,hlt,rfl,?_⟩
  refine ⟨rfl,_,_,I2.hin,by rw [bools_length]; show 0 + i * 1 + 1 <= n; omega,rfl,?_⟩
  intro w3 h3
  have e3:splice (bools n fun k => decide (k < i)) (0 + i * 1) [.bool true] = bools n fun k => decide (k < i + 1):=by
   rw [show 0 + i * 1 = i by omega,bools_set hlt,upd_to]
  have h3:Put w2 gi (.cells (bools n fun k => decide (k < i + 1)).toArray 4 (0,0)) w3:=by rw [<-e3]; exact h3
  refine ⟨((i + 1:Nat):Int),fit ⟨by omega,by omega⟩,?_⟩
  exact ⟨i + 1,⟨rfl,rfl,rfl,rfl,rfl,trivial⟩,⟨hlt,I2.put h3⟩,by omega⟩
 have:i = n:=by have:¬ (i:Int) < (n:Nat):=hge; omega
 subst this
 have I2:FirstIn w gi i (fun _ => true) (.slice none 0 0) [] w2:={ I2 with hin:=by rw [<-bools_congr (f:=fun k => decide (k < i)) fun k hk => by simp [hk]]; exact I2.hin }
 generalize i = n at *
 have h2:=h.ext I2.ext
 refine (left_spec hok h2 I2.hin).mono ?_
 rintro v w3 ⟨rfl,rfl⟩
 obtain ⟨least,hleast⟩:∃ least,least = leftTo Wm cs (fun _ => true) cs.length:=⟨_,rfl⟩
 have hord:orderL n Wm cs = fromL n Wm cs n (fun _ => true) least:=by rw [hleast]; rfl
 rw [<-hleast]
 have hlb:=leftTo_bound hok (fun _ => true) cs.length (Nat.le_refl _)
 rw [<-hleast] at hlb
 have hcl:=hok.hl
 refine ⟨_,h2.tail (j:=0) rfl,?_⟩
 refine loopE C_ok (fun (p:Nat × (Nat -> Bool) × Int × List Nat × Value) => [(0,.pointer (some ⟨gS,0,none⟩)),(4,.slice (some ⟨gi,0,none⟩) n n),(6,.int .i64 least),(7,p.2.2.2.2),(8,.int .i64 p.2.2.1),(33,.int .i64 n),(34,.int .i64 p.1)])
  (fun p W => p.1 <= n ∧ orderL n Wm cs = p.2.2.2.1 ++ fromL n Wm cs (n - p.1) p.2.1 p.2.2.1 ∧ p.2.2.2.1.length <= p.1 ∧ FirstIn w gi n p.2.1 p.2.2.2.2 p.2.2.2.1 W) (fun p => n - p.1) (0,fun _ => true,least,[],.slice none 0 0) ⟨rfl,rfl,rfl,rfl,rfl,rfl,rfl,trivial⟩ ⟨Nat.zero_le _,by simpa using hord,Nat.le_refl _,I2⟩ ?_
 rintro ⟨i,f,rest,o,u⟩ w4 ⟨hi,ho,hol,I4⟩
 simp only at hi ho hol I4
 refine brE_dec (fun hlt => ?_) (fun hge => ?_)
 ·have hlt:i < n:=by have:(i:Int) < (n:Nat):=hlt; omega
  refine scopeE C_ok ?_
  refine ⟨_,(h.ext I4.ext).tail (j:=0) rfl,?_⟩
  refine loopE C_ok (fun (x:Nat) => [(0,.pointer (some ⟨gS,0,none⟩)),(4,.slice (some ⟨gi,0,none⟩) n n),(6,.int .i64 least),(7,u),(8,.int .i64 rest),(33,.int .i64 n),(34,.int .i64 i),(39,.int .i64 n),(40,.int .i64 x)])
   (fun x W => x <= n ∧ (∀ y < x,pickB n Wm cs f rest y = false) ∧ FirstIn w gi n f u o W) (fun x => n - x) 0 ⟨rfl,rfl,rfl,rfl,rfl,rfl,rfl,rfl,rfl,trivial⟩ ⟨Nat.zero_le _,fun y hy => absurd hy (Nat.not_lt_zero _),I4⟩ ?_
  rintro x w5 ⟨hx,hno,I5⟩
  refine brE_dec (fun hlt2 => ?_) (fun hge2 => ?_)
  ·have hlt2:x < n:=by have:(x:Int) < (n:Nat):=hlt2; omega
   have h5:=h.ext I5.ext
   have next:IntKind.i64.wrap ((x:Int) + 1) = ((x + 1:Nat):Int):=fit ⟨by omega,by omega⟩
   have more:pickB n Wm cs f rest x = false -> ∀ y < x + 1,pickB n Wm cs f rest y = false:=fun hh y hy => by
    rcases Nat.lt_or_ge y x with h | h
    ·exact hno y h
    ·obtain rfl:y = x:=by omega
     exact hh
   have hnb:=nextC_bound hok.hW f x n
   refine ⟨x,gi,0,rfl,hlt2,rfl,?_⟩
   refine ⟨.bool (f x),by have:=cell_of_block I5.hin (i:=x) (v:=.bool (f x)) (by simpa using bools_get hlt2 f); simpa using this,?_⟩
   refine brE_mk (fun hf => ?_) (fun hf => ?_)
   ·have hf:f x = false:=by simpa using hf
    refine ⟨_,next,?_⟩
    exact ⟨x + 1,⟨rfl,rfl,rfl,rfl,rfl,rfl,rfl,rfl,rfl,trivial⟩,⟨hlt2,more (by unfold pickB; rw [hf]; rfl),I5⟩,by omega⟩
   have hf:f x = true:=by simpa using hf
   refine (nextG_spec hok h5 I5.hin hlt2).mono ?_
   rintro v w6 ⟨rfl,rfl⟩
   refine brE_false (decide_eq_false (by omega)) ?_
   refine ⟨x,gi,0,rfl,hlt2,rfl,?_⟩
   refine ⟨rfl,_,_,I5.hin,by rw [bools_length]; show 0 + x * 1 + 1 <= n; omega,rfl,?_⟩
   intro w7 h7
   have e7:splice (bools n f) (0 + x * 1) [.bool false] = bools n (Rw.without f x):=by
    rw [show 0 + x * 1 = x by omega,bools_set hlt2,upd_false]
   have h7:Put w6 gi (.cells (bools n (Rw.without f x)).toArray 4 (0,0)) w7:=by rw [<-e7]; exact h7
   have I7:=I5.put h7
   refine (left_spec hok (h.ext I7.ext) I7.hin).mono ?_
   rintro v w8 ⟨rfl,rfl⟩
   have hab:=leftTo_bound hok (Rw.without f x) cs.length (Nat.le_refl _)
   have hae:=leftTo_all Wm cs (Rw.without f x)
   obtain ⟨after,haf⟩:∃ after,after = leftTo Wm cs (Rw.without f x) cs.length:=⟨_,rfl⟩
   rw [<-haf] at hab hae ⊢
   refine ⟨Rw.nextC n Wm f x + after,fit ⟨by omega,by omega⟩,?_⟩
   refine brE_dec (fun heq => ?_) (fun hne => ?_)
   ·have hp:pickB n Wm cs f rest x = true:=by
     unfold pickB
     rw [hf,<-hae,decide_eq_true heq,decide_eq_true (show Rw.nextC n Wm f x < Rw.never by show _ < (1099511627776:Int); omega)]; rfl
    have hfr:=fromL_yes (k:=n - (i + 1)) hlt2 hp hno
    rw [<-hae,show n - (i + 1) + 1 = n - i by omega] at hfr
    intro g8 w8 h8
    have hn8:=ownsRow_ext I7.row h8.ext
    refine ⟨rfl,rfl,rfl,w.heap.size,_,_,[.int .i64 (x:Nat)],hn8,Nat.le_trans I7.ext.size h8.ext.size,Nat.le_of_ble_eq_true rfl,rfl,rfl,.inr ⟨g8,0,rfl,Rd.of_block h8.here⟩,rfl,rfl,by omega,by simp only [maxLen]; omega,?_⟩
    intro v9 w9 ho9 hg9 _
    have hn9:w9.ownsRow w.heap.size 3 1 v9 (o ++ [x]).length (ints (natI (o ++ [x]))):=by
     rw [natI_snoc,List.length_append]
     simpa [ints] using ho9
    refine ⟨((i + 1:Nat):Int),fit ⟨by omega,by omega⟩,?_⟩
    refine ⟨(i + 1,Rw.without f x,after,o ++ [x],v9),⟨rfl,rfl,rfl,rfl,rfl,rfl,rfl,trivial⟩,⟨hlt,?_,by simp; omega,?_⟩,by show n - (i + 1) < n - i; omega⟩
    ·show orderL n Wm cs = (o ++ [x]) ++ fromL n Wm cs (n - (i + 1)) (Rw.without f x) after
     rw [ho,hfr,List.append_assoc]; rfl
    ·exact ⟨app_ext (I7.ext.trans h8.ext) hn8 hg9,only_app hn8 hg9 gi _ 4 _ (h8.ext.heap I7.hin) (by decide),I7.base,hn9⟩
   ·have hp:pickB n Wm cs f rest x = false:=by
     unfold pickB
     rw [<-hae,decide_eq_false hne,Bool.and_false]
    refine ⟨x,gi,0,rfl,hlt2,rfl,?_⟩
    refine ⟨rfl,_,_,I7.hin,by rw [bools_length]; show 0 + x * 1 + 1 <= n; omega,rfl,?_⟩
    intro w9 h9
    have e9:splice (bools n (Rw.without f x)) (0 + x * 1) [.bool true] = bools n f:=by
     rw [show 0 + x * 1 = x by omega,bools_set hlt2,<-upd_false,upd_back hf]
    have h9:Put w8 gi (.cells (bools n f).toArray 4 (0,0)) w9:=by rw [<-e9]; exact h9
    refine ⟨_,next,?_⟩
    exact ⟨x + 1,⟨rfl,rfl,rfl,rfl,rfl,rfl,rfl,rfl,rfl,trivial⟩,⟨hlt2,more hp,I7.put h9⟩,by omega⟩
  ·have:x = n:=by have:¬ (x:Int) < (n:Nat):=hge2; omega
   subst this
   have hfr:=fromL_no (k:=x - (i + 1)) hno
   rw [show x - (i + 1) + 1 = x - i by omega] at hfr
   refine ⟨((i + 1:Nat):Int),fit ⟨by omega,by omega⟩,?_⟩
   exact ⟨(i + 1,f,rest,o,u),⟨rfl,rfl,rfl,rfl,rfl,rfl,rfl,trivial⟩,⟨hlt,by show orderL x Wm cs = o ++ fromL x Wm cs (x - (i + 1)) f rest; rw [<-hfr]; exact ho,by show o.length <= i + 1; omega,I5⟩,by show x - (i + 1) < x - i; omega⟩
 ·have:i = n:=by have:¬ (i:Int) < (n:Nat):=hge; omega
  subst this
  have he:orderL i Wm cs = o:=by rw [ho,Nat.sub_self]; simp [fromL,Rw.firstL]
  refine ⟨⟨u,rfl,?_⟩,I4.ext⟩
  rw [he]; exact I4.row
end Go.Proofs.YtigapannpbaihaaGreat.Rk
namespace Go.Proofs.YtigapannpbaihaaGreat.Rk
open Go.Eng Go.RowKit
theorem underIs:Tryz.prog.underlying 31 = some (.slice 3):=by kernel_rfl
theorem eqNilI (x y:Operand) (A:Option Addr) (n c:Nat):EqIs C.P .eql 31 x y (.slice A n c) (.slice none 0 0) A.isNone:=by
 intro w
 have hu:C.P.underlying 31 = some (.slice 3):=underIs
 have h1:(eqGuard .eql 31 x y (.slice A n c) (.slice none 0 0)).run C.P w = .ok () w:=by simp [eqGuard]
 rw [Sem.run_bind,h1]
 simp only [Result.andThen_ok]
 exact Lib.run_eql_slice_nil w _ _ A n c _ _ hu
theorem CloneI_spec {w:World} {A:Option Addr} {l:List Int} {c:Nat} (h:Reads w A (ints l)) (hl:l.length <= 2 ^ 40) :
  CallsV C.P 32 #[.slice A l.length c] w fun v w' => NewInts w w' v l ∧ Ext w w':=by
 refine callsV_of C_ok (args:=[_]) (plans:=[]) Tryz.func32 rfl Tryz.ntmps32 (by kernel_rfl) (Nat.le_of_ble_eq_true rfl) ?_
 refine ⟨_,eqNilI _ _ _ _ _,?_⟩
 refine brE_mk (fun hn => ?_) (fun hn => ?_)
 ·have hl0:l = []:=by
   rcases h with h | ⟨b,o,hA,_⟩
   ·have:=congrArg List.length h
    rw [ints_length] at this
    exact List.length_eq_zero_iff.1 this
   ·rw [hA] at hn; cases hn
  subst hl0
  exact ⟨World.ownsRow_nil _ _ _ _,Ext.refl _⟩
 ·intro g w1 h1
  have ho:w1.ownsRow w.heap.size 3 1 (.slice (some ⟨g,0,none⟩) 0 0) 0 []:=owns_block (cs:=[]) h1.here (by rw [h1.new]; exact Nat.le_refl _) rfl (Nat.zero_le _)
  have hd:ints l = [] ∨ ∃ b o,A = some ⟨b,o,none⟩ ∧ Rd w1 b o (ints l):=h.ext h1.ext
  have hs:A.isSome = true:=by cases A with
   | none => cases hn
   | some a => rfl
  have h1c:(ints l).all (·.oneCell') = true:=by
   rw [List.all_eq_true]
   intro v hv
   obtain ⟨x,_,rfl⟩:=List.mem_map.1 hv
   rfl
  refine ⟨rfl,rfl,rfl,w.heap.size,0,[],ints l,ho,h1.ext.size,Nat.le_of_ble_eq_true rfl,rfl,by rw [ints_length,Nat.mul_one],hd,by rw [hs]; rfl,h1c,by omega,by simp only [maxLen]; omega,?_⟩
  intro v2 w2 ho2 hg2 _
  refine ⟨?_,app_ext h1.ext ho hg2⟩
  unfold NewInts
  rw [Nat.zero_add,List.nil_append] at ho2
  exact ho2
theorem filter_range {S : Nat → Bool} {n : Nat} (h : ∀ k, S k = true → k < n) : ∀ {m : Nat}, n ≤ m → (List.range m).filter S = (List.range n).filter S := by
  intro m hm
  induction m with
  | zero => have : n = 0 := by omega
            subst this; rfl
  | succ m ih =>
    by_cases e : n = m + 1
    · rw [e]
    · rw [List.range_succ, List.filter_append, ih (by omega)]
      have : S m = false := by
        cases hs : S m with
        | false => rfl
        | true => exact absurd (h m hs) (by omega)
      simp [this]
theorem members_len {n:Nat} (hn:n <= 24) {S:Nat -> Bool} (h:∀ k,S k = true -> k < n):(members S).length <= n:=by
 unfold members
 rw [List.length_map,filter_range h hn]
 exact Nat.le_trans (List.length_filter_le _ _) (by simp)
theorem circ_from {N:Int} {xs:List Arrow} (hok:Valid N xs) {c:List Int} (hc:c ∈ circlesV N xs):c ∈ compsL N.toNat (reach (toM xs)) ∧ 2 <= c.length ∧ ∃ a < N.toNat,c = members (compS N.toNat (reach (toM xs)) a):=by
 unfold circlesV at hc
 obtain ⟨h1,h2⟩:=List.mem_filter.1 hc
 have h2:2 <= c.length:=by simp at h2; exact h2
 rw [compsV,if_pos hok.chk] at h1
 have hn:N.toNat <= 24:=by have:=hok.hi; omega
 exact ⟨h1,h2,(pre_reach hn hok.inside).from_ h1⟩
theorem circ_props {N:Int} {xs:List Arrow} (hok:Valid N xs) {c:List Int} (hc:c ∈ circlesV N xs):c.length <= N.toNat ∧ ∀ x ∈ c,0 <= x ∧ x < N:=by
 obtain ⟨_,_,a,ha,rfl⟩:=circ_from hok hc
 have hn:N.toNat <= 24:=by have:=hok.hi; omega
 refine ⟨members_len hn fun k hk => (compS_iff.1 hk).1,fun x hx => ?_⟩
 obtain ⟨k,rfl,_,hk⟩:=mem_members.1 hx
 have:=(compS_iff.1 hk).1
 omega
theorem circ_len {N:Int} {xs:List Arrow}:(circlesV N xs).length <= 24:=Nat.le_trans (List.length_filter_le _ _) compsV_props.1
theorem circles_spec {N:Int} {A:Option Addr} {xs:List Arrow} {c:Nat} {w:World} (h:HRel w N A xs c) (hok:Valid N xs) (hN:N <= 10) :
  CallsV C.P 29 #[relVal N A xs.length c] w fun v w' => (∃ u,v = .tuple #[u,.int .i64 0] ∧ Lists w.heap.size w' u (circlesV N xs)) ∧ Ext w w':=by
 refine callsV_of C_ok (args:=[_]) (plans:=[]) Tryz.func29 rfl Tryz.ntmps29 (by kernel_rfl) (Nat.le_of_ble_eq_true rfl) ?_
 intro g1 w1 h1
 have M1:=(Mem.start w).alloc h1
 refine ⟨[.int .i64 N,.slice A xs.length c],rfl,M1.rd 0 rfl,?_⟩
 refine (Circles_spec (h.ext M1.ext)).mono ?_
 rintro v w2 ⟨hl,e2⟩
 have M2:=M1.grow e2
 have hlen:=circ_len (N:=N) (xs:=xs)
 have hc10:∀ l ∈ circlesV N xs,l.length <= 10:=fun l hl => by have:=(circ_props hok hl).1; have:=hok.lo; omega
 generalize circlesV N xs = L at *
 obtain ⟨A2,c2,us,rfl,hr⟩:=hl.read
 refine loopE C_ok (fun (i:Nat) => [(4,.slice A2 L.length c2),(9,.slice A2 L.length c2),(10,.int .i64 L.length),(11,.int .i64 i)])
  (fun i w' => i <= L.length ∧ w' = w2) (fun i => L.length - i) 0 ⟨rfl,rfl,rfl,rfl,trivial⟩ ⟨Nat.zero_le _,rfl⟩ ?_
 rintro i w3 ⟨hi,rfl⟩
 refine brE_dec (fun hlt => ?_) (fun hge => ?_)
 ·have hlt:i < L.length:=by have:(i:Int) < (L.length:Nat):=hlt; omega
  obtain ⟨b,o,A',c',hA,hcell,_⟩:=hr.at hlt
  have h10:=hc10 _ (List.getElem_mem hlt)
  refine ⟨i,b,o,rfl,hlt,hA,?_⟩
  refine ⟨_,by simpa using hcell,?_⟩
  refine brE_false (decide_eq_false (by omega)) ?_
  refine ⟨((i + 1:Nat):Int),fit ⟨by omega,by omega⟩,?_⟩
  exact ⟨i + 1,⟨rfl,rfl,rfl,rfl,trivial⟩,⟨hlt,rfl⟩,by omega⟩
 ·exact ⟨⟨_,rfl,hl.base M1.ext.size⟩,M2.ext⟩
theorem srch_build (Wm:Nat -> Nat -> Int) (n:Int) (cv:Value) :
  splice (splice (splice (splice (List.replicate 577 (.int .i64 0) ++ [.slice none 0 0,.slice none 0 0] ++ [.int .i64 0]) 0 (imat Wm)) 576 [.int .i64 n]) 577 [cv]) 579 [.int .i64 (-1)] = imat Wm ++ [.int .i64 n,cv,.slice none 0 0,.int .i64 (-1)]:=by
 have e0:(List.replicate 577 (Value.int .i64 0) ++ [.slice none 0 0,.slice none 0 0] ++ [.int .i64 0]) = List.replicate 576 (Value.int .i64 0) ++ [.int .i64 0,.slice none 0 0,.slice none 0 0,.int .i64 0]:=by
  have:List.replicate 577 (Value.int .i64 0) = List.replicate 576 (Value.int .i64 0) ++ [.int .i64 0]:=by rw [List.replicate_succ']
  rw [this]; simp only [List.append_assoc,List.cons_append,List.nil_append]
 have e1:∀ (X:List Value),splice (List.replicate 576 (Value.int .i64 0) ++ X) 0 (imat Wm) = imat Wm ++ X:=fun X => by
  unfold splice
  rw [List.take_zero,List.nil_append,Nat.zero_add,imat_length,List.drop_left' (by rw [List.length_replicate])]
 have e2:∀ (X vs:List Value) (j:Nat),splice (imat Wm ++ X) (576 + j) vs = imat Wm ++ splice X j vs:=fun X vs j => by
  have:=splice_right (xs:=imat Wm) (bs:=X) (vs:=vs) (o:=j)
  rwa [imat_length] at this
 rw [e0,e1,e2 _ _ 0,e2 _ _ 1,e2 _ _ 3]
 rfl
theorem srch_set (Wm:Nat -> Nat -> Int) (n:Nat) (cv vv vv':Value):splice (srchCells Wm n cv vv) 578 [vv'] = srchCells Wm n cv vv':=by
 unfold srchCells
 have:=splice_right (xs:=imat Wm) (bs:=[.int .i64 (n:Nat),cv,vv,.int .i64 (-1)]) (vs:=[vv']) (o:=2)
 rw [imat_length] at this
 rw [this]; rfl
theorem srch_len (Wm:Nat -> Nat -> Int) (n:Nat) (cv vv:Value):(srchCells Wm n cv vv).length = 580:=by simp [srchCells,imat_length]
theorem srch_rd {w:World} {gS n:Nat} {Wm:Nat -> Nat -> Int} {cv vv:Value} (h:w.heap[gS]? = some (.cells (srchCells Wm n cv vv).toArray 112 (0,0))):Rd w gS 0 (imat Wm):=fun i v hv => by
 refine cell_of_block h ?_
 have hi:i < 576:=by
  have:=(List.getElem?_eq_some_iff.1 hv).1
  rwa [imat_length] at this
 rw [List.getElem?_toArray,Nat.zero_add]
 unfold srchCells
 rw [List.getElem?_append_left (by rw [imat_length]; exact hi)]
 exact hv
set_option maxRecDepth 100000 in
set_option maxHeartbeats 16000000 in
theorem begin_spec {N:Int} {A:Option Addr} {xs:List Arrow} {c:Nat} {w:World} (h:HRel w N A xs c) (hok:Valid N xs) {Ac:Option Addr} {cs:List (List Int)} {cc:Nat} {uc:List Value} (hs:SrchOk N.toNat (wAt xs) cs) (hc:RList w Ac cs uc) :
  CallsV C.P 30 #[relVal N A xs.length c,.slice Ac cs.length cc,.int .i64 (-1)] w fun v w' => (∃ gS Av cv uv,v = .pointer (some ⟨gS,0,none⟩) ∧ Srch w' gS N.toNat (wAt xs) cs Ac Av cc cv uc uv) ∧ Ext w w':=by
 have hN:N = (N.toNat:Nat):=by have:=hok.lo; omega
 obtain ⟨n,hn⟩:∃ n,n = N.toNat:=⟨_,rfl⟩
 rw [<-hn] at hN hs ⊢
 have hcl:=hs.hl
 refine callsV_of C_ok (args:=[_,_,_]) (plans:=plans30) Tryz.func30 rfl Tryz.ntmps30 (by kernel_rfl) (Nat.le_of_ble_eq_true rfl) ?_
 intro g3 w1 h1
 have M1:=(Mem.start w).alloc h1
 refine ⟨[.int .i64 N,.slice A xs.length c],rfl,M1.rd 0 rfl,?_⟩
 refine ⟨_,M1.cell 0 rfl rfl,?_⟩
 refine (weigh_spec (h.ext M1.ext) hok).mono ?_
 rintro v w2 ⟨rfl,e2⟩
 refine ⟨e2,?_⟩
 have M2:=M1.grow e2
 intro gS w3 h3
 have h3:Alloc w2 gS (.cells (srchCells (wAt xs) n (.slice Ac cs.length cc) (.slice none 0 0)).toArray 112 (0,0)) w3:=by
  have:=srch_build (wAt xs) N (.slice Ac cs.length cc)
  unfold srchCells
  rw [<-hN,<-this]
  exact h3
 have E3:Ext w w3:=M2.ext.trans h3.ext
 have hgS:w.heap.size <= gS:=by rw [h3.new]; exact M2.ext.size
 refine loopE C_ok (fun (p:Nat × Value) => [(2,.int .i64 (-1)),(7,.pointer (some ⟨gS,0,none⟩)),(18,.slice Ac cs.length cc),(19,.int .i64 cs.length),(20,.int .i64 p.1)])
  (fun p W => p.1 <= cs.length ∧ Ext w W ∧ W.heap[gS]? = some (.cells (srchCells (wAt xs) n (.slice Ac cs.length cc) p.2).toArray 112 (0,0)) ∧ ∃ us,W.ownsRow w.heap.size 31 1 p.2 p.1 us ∧ AllRows W w.heap.size us ((cs.take p.1).map (tabOf (wAt xs)))) (fun p => cs.length - p.1) (0,.slice none 0 0) ⟨rfl,rfl,rfl,rfl,rfl,trivial⟩
  ⟨Nat.zero_le _,E3,h3.here,[],World.ownsRow_nil _ _ _ _,.nil⟩ ?_
 rintro ⟨i,vv⟩ w4 ⟨hi,E4,hS,us,hrow,hall⟩
 simp only at hi hS hrow hall
 refine brE_dec (fun hlt0 => ?_) (fun hge => ?_)
 ·have hlt:i < cs.length:=by have:(i:Int) < (cs.length:Nat):=hlt0; omega
  clear hlt0
  have hmem:cs[i] ∈ cs:=List.getElem_mem hlt
  obtain ⟨b,o,A',c',hA,hcell,hrd⟩:=hc.at hlt
  obtain ⟨A0,n0,c0,rfl⟩:∃ A0 n0 c0,vv = .slice A0 n0 c0:=by
   obtain ⟨A9,c9,rfl,_⟩:=reads_of_owns hrow
   exact ⟨_,_,_,rfl⟩
  refine ⟨i,b,o,rfl,hlt,hA,?_⟩
  refine ⟨_,by have:=E4.cell hcell; simpa using this,?_⟩
  refine ⟨.slice A0 n0 c0,cell_of_block hS (by rw [List.getElem?_toArray]; exact srch_tail _ _ _ _ 2),?_⟩
  refine (table_spec hs.hW (srch_rd hS) (hrd.ext E4) (fun x hx => by have:=hs.lt _ hmem x hx; have:=hs.hn; omega) (hs.len _ hmem)).mono ?_
  rintro v w5 ⟨hv5,e5⟩
  obtain ⟨A9,n9,c9,rfl⟩:∃ A9 n9 c9,v = .slice A9 n9 c9:=by
   obtain ⟨A9,c9,rfl,_⟩:=reads_of_owns hv5
   exact ⟨_,_,_,rfl⟩
  refine ⟨e5,?_⟩
  intro g6 w6 h6
  refine ⟨h6.ext,?_⟩
  have hrow6:=ownsRow_ext (ownsRow_ext hrow e5) h6.ext
  have hall6:AllRows w6 w.heap.size us ((cs.take i).map (tabOf (wAt xs))):=hall.only (only_ext 0 (e5.trans h6.ext)) (by decide)
  have hv6:w6.ownsRow w.heap.size 3 1 (.slice A9 n9 c9) (tabOf (wAt xs) cs[i]).length (ints (tabOf (wAt xs) cs[i])):=ownsRow_base (ownsRow_ext hv5 h6.ext) E4.size
  have hus:us.length = i:=by
   have:=hall.length
   simp at this; omega
  have E6:Ext w w6:=(E4.trans e5).trans h6.ext
  have hS6:=h6.ext.heap (e5.heap hS)
  refine ⟨rfl,rfl,rfl,w.heap.size,_,_,[.slice A9 n9 c9],hrow6,E6.size,Nat.le_of_ble_eq_true rfl,rfl,rfl,.inr ⟨g6,0,rfl,Rd.of_block h6.here⟩,rfl,rfl,by omega,by simp only [maxLen]; omega,?_⟩
  intro v7 w7 ho7 hg7 _
  obtain ⟨A7,n7,c7,rfl⟩:∃ A7 n7 c7,v7 = .slice A7 n7 c7:=by
   obtain ⟨A9,c9,rfl,_⟩:=reads_of_owns ho7
   exact ⟨_,_,_,rfl⟩
  have only7:=only_app hrow6 hg7
  have hS7:=only7 gS _ _ _ hS6 (by decide)
  have E7:=app_ext E6 hrow6 hg7
  have hall7:AllRows w7 w.heap.size (us ++ [.slice A9 n9 c9]) ((cs.take (i + 1)).map (tabOf (wAt xs))):=by
   rw [List.take_succ_eq_append_getElem hlt,List.map_append]
   exact (hall6.only only7 (by decide)).snoc (ownsRow_only hv6 only7 (by decide))
  refine ⟨rfl,_,_,hS7,by rw [srch_len]; exact Nat.le_of_ble_eq_true rfl,rfl,?_⟩
  intro w8 h8
  have h8:Put w7 gS (.cells (srchCells (wAt xs) n (.slice Ac cs.length cc) (.slice A7 n7 c7)).toArray 112 (0,0)) w8:=by
   rw [<-srch_set (wAt xs) n (.slice Ac cs.length cc) (.slice A0 n0 c0) (.slice A7 n7 c7)]
   exact h8
  have only8:=only_put h8 hS7
  refine ⟨((i + 1:Nat):Int),fit ⟨by omega,by omega⟩,?_⟩
  refine ⟨(i + 1,.slice A7 n7 c7),⟨rfl,rfl,rfl,rfl,rfl,trivial⟩,⟨hlt,h8.ext_of E7 hgS,h8.here,_,ownsRow_only (by simpa using ho7) only8 (by decide),hall7.only only8 (by decide)⟩,by show cs.length - (i + 1) < cs.length - i; omega⟩
 ·have:i = cs.length:=by have:¬ (i:Int) < (cs.length:Nat):=hge; omega
  subst this
  rw [List.take_length] at hall
  obtain ⟨Av,cv,uv,e,hr⟩:=(show Lists w.heap.size w4 vv (cs.map (tabOf (wAt xs))) from ⟨us,by rw [List.length_map]; exact hrow,hall⟩).read
  rw [List.length_map] at e
  subst e
  exact ⟨⟨gS,Av,cv,uv,rfl,⟨hS,hc.ext E4,hr⟩⟩,E4⟩
end Go.Proofs.YtigapannpbaihaaGreat.Rk
namespace Go.Proofs.YtigapannpbaihaaGreat.Rk
open Go.Eng Go.RowKit
theorem srchOk_of {N:Int} {xs:List Arrow} (hok:Valid N xs) (hN:N <= 10):SrchOk N.toNat (wAt xs) (circlesV N xs):=by
 have hlo:=hok.lo
 refine ⟨by omega,fun p q => ⟨(hok.wAt p q).1,(hok.wAt p q).2.1⟩,circ_len,fun c hc => ?_,fun c hc x hx => ?_⟩
 ·have:=(circ_props hok hc).1; omega
 ·have:=(circ_props hok hc).2 x hx; omega
noncomputable def leastL (N:Int) (xs:List Arrow):List Nat:=orderL N.toNat (wAt xs) (circlesV N xs)
noncomputable def leastO (N:Int) (xs:List Arrow):Int:=leftTo (wAt xs) (circlesV N xs) (fun _ => true) (circlesV N xs).length
set_option maxRecDepth 100000 in
set_option maxHeartbeats 16000000 in
theorem Least_spec {N:Int} {A:Option Addr} {xs:List Arrow} {c:Nat} {w:World} (h:HRel w N A xs c) (hok:Valid N xs) (hN:N <= 10) :
  CallsV C.P 9 #[relVal N A xs.length c] w fun v w' => (∃ u A0 n0 c0,v = .tuple #[.agg #[u,.int .i64 (leastO N xs),.slice A0 n0 c0],.int .i64 0] ∧ w'.ownsRow w.heap.size 3 1 u (leastL N xs).length (ints (natI (leastL N xs)))) ∧ Ext w w':=by
 have hs:=srchOk_of hok hN
 obtain ⟨cs,hcs⟩:∃ cs,cs = circlesV N xs:=⟨_,rfl⟩
 obtain ⟨ord,hordd⟩:∃ ord,ord = leastL N xs:=⟨_,rfl⟩
 obtain ⟨off,hoff⟩:∃ off,off = leastO N xs:=⟨_,rfl⟩
 have hord:orderL N.toNat (wAt xs) cs = ord:=by rw [hcs,hordd]; rfl
 have hoff2:leftTo (wAt xs) cs (fun _ => true) cs.length = off:=by rw [hcs,hoff]; rfl
 rw [<-hcs] at hs
 rw [<-hordd,<-hoff]
 have hlenL:=hs.hl
 refine callsV_of C_ok (args:=[_]) (plans:=plans9) Tryz.func9 rfl Tryz.ntmps9 (by kernel_rfl) (Nat.le_of_ble_eq_true rfl) ?_
 intro g1 w1 h1
 intro g2 w2 h2
 have M2:=((Mem.start w).alloc h1).alloc h2
 refine ⟨[.int .i64 N,.slice A xs.length c],rfl,M2.rd 1 rfl,?_⟩
 refine (Check_spec (h.ext M2.ext)).mono ?_
 rintro v w3 ⟨rfl,e3⟩
 have M3:=M2.grow e3
 refine brE_ndec (fun hne => absurd hok.chk hne) (fun _ => ?_)
 refine ⟨[.int .i64 N,.slice A xs.length c],rfl,M3.rd 1 rfl,?_⟩
 refine (circles_spec (h.ext M3.ext) hok hN).mono ?_
 rintro v w4 ⟨⟨u4,rfl,hl4⟩,e4⟩
 rw [<-hcs] at hl4
 have M4:=M3.grow e4
 obtain ⟨Ac,cc,uc,rfl,hrc⟩:=hl4.read
 refine ⟨[.int .i64 N,.slice A xs.length c],rfl,M4.rd 1 rfl,?_⟩
 refine (begin_spec (h.ext M4.ext) hok hs hrc).mono ?_
 rintro v w5 ⟨⟨gS,Av,cv,uv,rfl,hS⟩,e5⟩
 have M5:=M4.grow e5
 have hg2:=M5.get 0 rfl
 have hg2n:=M5.new 0 rfl
 intro g8 w6 h6
 have M6:Mem w5 w6 [(g8,.cells #[.slice none 0 0,.int .i64 0,.slice none 0 0] 42 (0,0))]:=(Mem.start w5).alloc h6
 refine (firstG_spec hs (hS.ext M6.ext)).mono ?_
 rw [hord,hoff2]
 rintro v w7 ⟨⟨u,rfl,hu⟩,e7⟩
 obtain ⟨A7,n7,c7,rfl⟩:∃ A7 n7 c7,u = .slice A7 n7 c7:=by
  obtain ⟨A9,c9,rfl,_⟩:=reads_of_owns hu
  exact ⟨_,_,_,rfl⟩
 have M7:=M6.grow e7
 have hu:=ownsRow_base hu M6.ext.size
 refine ⟨rfl,_,_,M7.get 0 rfl,Nat.le_of_ble_eq_true rfl,rfl,?_⟩
 intro w8 h8
 have o8:=only_put h8 (M7.get 0 rfl)
 have M8:=M7.put 0 rfl h8
 refine ⟨rfl,_,_,M8.get 0 rfl,Nat.le_of_ble_eq_true rfl,rfl,?_⟩
 intro w9 h9
 have o9:=only_put h9 (M8.get 0 rfl)
 have M9:Mem w5 w9 [(g8,.cells #[.slice A7 n7 c7,.int .i64 off,.slice none 0 0] 42 (0,0))]:=M8.put 0 rfl h9
 have hu:=ownsRow_only (ownsRow_only hu o8 (by decide)) o9 (by decide)
 clear M6 M7 M8 h8 h9 o8 o9 h6
 have hc10:=hs.len
 have hcl:=hs.hl
 refine loopE C_ok (fun (p:Nat × Value) => [(2,.pointer (some ⟨g2,0,none⟩)),(7,.pointer (some ⟨gS,0,none⟩)),(8,.pointer (some ⟨g8,0,none⟩)),(36,.slice Ac cs.length cc),(37,.int .i64 cs.length),(38,.int .i64 p.1)])
  (fun p W => p.1 <= cs.length ∧ Mem w5 W [(g8,.cells #[.slice A7 n7 c7,.int .i64 off,p.2] 42 (0,0))] ∧ W.ownsRow w5.heap.size 3 1 (.slice A7 n7 c7) ord.length (ints (natI ord)) ∧ ∃ ts,W.ownsRow w5.heap.size 114 2 p.2 p.1 ts) (fun p => cs.length - p.1) (0,.slice none 0 0) ⟨rfl,rfl,rfl,rfl,rfl,rfl,trivial⟩
  ⟨Nat.zero_le _,M9,hu,[],World.ownsRow_nil _ _ _ _⟩ ?_
 rintro ⟨i,tv⟩ W ⟨hi,M,hu,ts,ht⟩
 simp only at hi M hu ht
 refine brE_dec (fun hlt0 => ?_) (fun hge => ?_)
 ·have hlt:i < cs.length:=by have:(i:Int) < (cs.length:Nat):=hlt0; omega
  clear hlt0
  have hSW:=hS.ext M.ext
  obtain ⟨b,o,A',c',hA,hcell,hrd⟩:=hSW.rc.at hlt
  have h10:=hc10 _ (List.getElem_mem hlt)
  have hrv:=hSW.rv.at (i:=i) (by simpa using hlt)
  rw [List.getElem_map] at hrv
  obtain ⟨bv,ov,Av',cv',hAv,hcellv,hrdv⟩:=hrv
  obtain ⟨A0,n0,c0,rfl⟩:∃ A0 n0 c0,tv = .slice A0 n0 c0:=by
   obtain ⟨A9,c9,rfl,_⟩:=reads_of_owns ht
   exact ⟨_,_,_,rfl⟩
  refine ⟨i,b,o,rfl,hlt,hA,?_⟩
  refine ⟨_,by simpa using hcell,?_⟩
  refine ⟨_,M.cell 0 (i:=2) rfl rfl,?_⟩
  refine ⟨_,hSW.tail (j:=2) rfl,?_⟩
  refine ⟨i,bv,ov,rfl,hlt,hAv,?_⟩
  refine ⟨_,by simpa using hcellv,?_⟩
  refine (CloneI_spec hrd (by omega)).mono ?_
  rintro v W1 ⟨hv,e1⟩
  obtain ⟨A9,n9,c9,rfl⟩:∃ A9 n9 c9,v = .slice A9 n9 c9:=by
   obtain ⟨A9,c9,rfl,_⟩:=reads_of_owns hv
   exact ⟨_,_,_,rfl⟩
  refine ⟨e1,?_⟩
  intro g6 W2 H2
  refine ⟨H2.ext,?_⟩
  have e2:=e1.trans H2.ext
  have M:=M.grow e2
  have ht2:=ownsRow_ext ht e2
  refine ⟨rfl,rfl,rfl,w5.heap.size,_,_,[.slice A9 n9 c9,.slice Av' (tabOf (wAt xs) cs[i]).length cv'],ht2,M.ext.size,Nat.le_of_ble_eq_true rfl,rfl,rfl,.inr ⟨g6,0,rfl,Rd.of_block H2.here⟩,rfl,rfl,by omega,by simp only [maxLen]; omega,?_⟩
  intro v7 W3 ho3 hg3 _
  obtain ⟨A8,n8,c8,rfl⟩:∃ A7 n7 c7,v7 = .slice A7 n7 c7:=by
   obtain ⟨A9,c9,rfl,_⟩:=reads_of_owns ho3
   exact ⟨_,_,_,rfl⟩
  have only3:=only_app ht2 hg3
  have E3:=app_ext M.ext ht2 hg3
  have M3:=M.onlyT E3 only3 rfl
  have hu3:=ownsRow_only (ownsRow_ext hu e2) only3 (by decide)
  refine ⟨rfl,_,_,M3.get 0 rfl,Nat.le_of_ble_eq_true rfl,rfl,?_⟩
  intro W4 H4
  have only4:=only_put H4 (M3.get 0 rfl)
  have M4:Mem w5 W4 [(g8,.cells #[.slice A7 n7 c7,.int .i64 off,.slice A8 n8 c8] 42 (0,0))]:=M3.put 0 rfl H4
  refine ⟨((i + 1:Nat):Int),fit ⟨by omega,by omega⟩,?_⟩
  exact ⟨(i + 1,.slice A8 n8 c8),⟨rfl,rfl,rfl,rfl,rfl,rfl,trivial⟩,⟨hlt,M4,ownsRow_only hu3 only4 (by decide),_,ownsRow_only (by simpa using ho3) only4 (by decide)⟩,by show cs.length - (i + 1) < cs.length - i; omega⟩
 ·obtain ⟨A0,n0,c0,rfl⟩:∃ A0 n0 c0,tv = .slice A0 n0 c0:=by
   obtain ⟨A9,c9,rfl,_⟩:=reads_of_owns ht
   exact ⟨_,_,_,rfl⟩
  refine ⟨[.slice A7 n7 c7,.int .i64 off,.slice A0 n0 c0],rfl,M.rd 0 rfl,?_⟩
  have hg2W:=M.ext.heap hg2
  refine ⟨rfl,_,_,hg2W,Nat.le_of_ble_eq_true rfl,rfl,?_⟩
  intro W2 H2
  have only2:=only_put H2 hg2W
  refine ⟨[.slice A7 n7 c7,.int .i64 off,.slice A0 n0 c0],rfl,Rd.of_block H2.here,?_⟩
  refine ⟨⟨_,_,_,_,rfl,?_⟩,H2.ext_of (M5.ext.trans M.ext) hg2n⟩
  exact ownsRow_base (ownsRow_only hu only2 (by decide)) M5.ext.size
end Go.Proofs.YtigapannpbaihaaGreat.Rk
namespace Go.Proofs.YtigapannpbaihaaGreat.Rk
open Go.Eng Go.RowKit
theorem ns_members (S:Nat -> Bool):ns (members S) = (List.range 24).filter S:=by
 unfold ns members
 rw [List.map_map]
 have:(Int.toNat ∘ fun (k:Nat) => (k:Int)) = id:=by funext k; rfl
 rw [this,List.map_id]
theorem mem_ns {c:List Int} (h:∀ x ∈ c,0 <= x) {k:Nat}:k ∈ ns c <-> (k:Int) ∈ c:=by
 unfold ns
 rw [List.mem_map]
 constructor
 ·rintro ⟨x,hx,rfl⟩
  have:=h x hx
  rw [Int.toNat_of_nonneg this]; exact hx
 ·exact fun hk => ⟨_,hk,rfl⟩
theorem circ_pos {N:Int} {xs:List Arrow} (hok:Valid N xs) {c:List Int} (hc:c ∈ circlesV N xs):∀ x ∈ c,0 <= x:=fun x hx => ((circ_props hok hc).2 x hx).1
theorem circ_nodup {N:Int} {xs:List Arrow} (hok:Valid N xs) {c:List Int} (hc:c ∈ circlesV N xs):(ns c).Nodup:=by
 obtain ⟨_,_,a,ha,rfl⟩:=circ_from hok hc
 rw [ns_members]
 exact List.nodup_range.filter _
theorem wAt_self {N:Int} {xs:List Arrow} (hok:Valid N xs) (x:Nat):wAt xs x x = 0:=by
 have h:=hok.wAt x x
 rcases Int.lt_or_le 0 (wAt xs x x) with h1 | h1
 ·exfalso
  have:=h.2.2.1 h1
  unfold toM at this
  obtain ⟨a,ha,hd⟩:=List.any_eq_true.1 this
  obtain ⟨i,hi,rfl⟩:=List.getElem_of_mem ha
  have hg:=goodA_spec (hok.good hi)
  have hd:=of_decide_eq_true hd
  omega
 ·omega
theorem arrow_ix {N:Int} {xs:List Arrow} (hok:Valid N xs) {p q:Nat} (h:toM xs p q = true):ix N.toNat (reach (toM xs)) p <= ix N.toNat (reach (toM xs)) q:=by
 have hn:N.toNat <= 24:=by have:=hok.hi; omega
 have P:=pre_reach hn hok.inside
 have hin:=hok.inside p q h
 obtain ⟨i1,m1⟩:=P.ix_at hin.1
 obtain ⟨i2,m2⟩:=P.ix_at hin.2
 rcases Nat.lt_or_ge (ix N.toNat (reach (toM xs)) q) (ix N.toNat (reach (toM xs)) p) with hlt | hge
 ·exfalso
  have hb:=List.pairwise_iff_getElem.1 P.order _ _ i2 i1 hlt
  obtain ⟨a,b,e1,e2,_,hr⟩:=hb _ m2 _ m1
  have e1:q = a:=by omega
  have e2:p = b:=by omega
  subst e1; subst e2
  rw [reach_iff.2 (.one h)] at hr; cases hr
 ·exact hge
theorem circ_all {N:Int} {xs:List Arrow} (hok:Valid N xs):Rw.Circ N.toNat (wAt xs) ((circlesV N xs).map ns) (ix N.toNat (reach (toM xs))):=by
 have hn:N.toNat <= 24:=by have:=hok.hi; omega
 have P:=pre_reach hn hok.inside
 have hlo:=hok.lo
 refine ⟨fun y x => (hok.wAt y x).1,fun c hc x hx => ?_,fun c hc => ?_,fun y x h _ _ => arrow_ix hok ((hok.wAt y x).2.2.1 h),wAt_self hok,fun y x hy hx he hne => ?_,fun c hc y hy x hx => ?_,?_⟩
 ·obtain ⟨l,hl,rfl⟩:=List.mem_map.1 hc
  have hm:=(mem_ns (circ_pos hok hl)).1 hx
  have:=(circ_props hok hl).2 _ hm
  omega
 ·obtain ⟨l,hl,rfl⟩:=List.mem_map.1 hc
  exact circ_nodup hok hl
 ·obtain ⟨i1,m1⟩:=P.ix_at hy
  obtain ⟨i2,m2⟩:=P.ix_at hx
  have hl:(compsL N.toNat (reach (toM xs)))[ix N.toNat (reach (toM xs)) x] ∈ compsL N.toNat (reach (toM xs)):=List.getElem_mem i2
  have m1':(y:Int) ∈ (compsL N.toNat (reach (toM xs)))[ix N.toNat (reach (toM xs)) x]:=by
   have:∀ (i j:Nat) (hi:i < (compsL N.toNat (reach (toM xs))).length) (hj:j < (compsL N.toNat (reach (toM xs))).length),i = j -> (y:Int) ∈ (compsL N.toNat (reach (toM xs)))[i] -> (y:Int) ∈ (compsL N.toNat (reach (toM xs)))[j]:=by
    intro i j hi hj e h; subst e; exact h
   exact this _ _ i1 i2 he m1
  obtain ⟨l,hle⟩:∃ l,l = (compsL N.toNat (reach (toM xs)))[ix N.toNat (reach (toM xs)) x]:=⟨_,rfl⟩
  rw [<-hle] at hl m1' m2
  have h2:2 <= l.length:=by
   obtain ⟨a,ha,rfl⟩:=P.from_ hl
   match hm:members (compS N.toNat (reach (toM xs)) a),m1',m2 with
   | [],m1',_ => exact absurd m1' (by simp)
   | [z],m1',m2 =>
    simp at m1' m2
    exact absurd (by omega:y = x) hne
   | z :: z2 :: r,_,_ => simp
  have hcirc:l ∈ circlesV N xs:=by
   unfold circlesV
   refine List.mem_filter.2 ⟨by rw [compsV,if_pos hok.chk]; exact hl,by simp; omega⟩
  exact ⟨ns l,List.mem_map_of_mem hcirc,(mem_ns (circ_pos hok hcirc)).2 m1',(mem_ns (circ_pos hok hcirc)).2 m2⟩
 ·obtain ⟨l,hl,rfl⟩:=List.mem_map.1 hc
  have hy:=(mem_ns (circ_pos hok hl)).1 hy
  have hx:=(mem_ns (circ_pos hok hl)).1 hx
  have hyn:=(circ_props hok hl).2 _ hy
  have hxn:=(circ_props hok hl).2 _ hx
  obtain ⟨i,hi,rfl⟩:=List.getElem_of_mem (circ_from hok hl).1
  rw [P.ix_eq (by omega) hi hy,P.ix_eq (by omega) hi hx]
 ·have hpw:(compsL N.toNat (reach (toM xs))).Pairwise fun a b => ∀ x ∈ a,x ∉ b:=by
   refine List.pairwise_iff_getElem.2 fun i j hi hj hij x hx hx2 => ?_
   have:=P.uniq hi hj hx hx2
   omega
  rw [List.pairwise_map]
  have hsub:(circlesV N xs).Sublist (compsL N.toNat (reach (toM xs))):=by
   unfold circlesV
   rw [compsV,if_pos hok.chk]
   exact List.filter_sublist
  refine List.Pairwise.imp_of_mem ?_ (hpw.sublist hsub)
  intro a b ha hb h x hx hx2
  exact h _ ((mem_ns (circ_pos hok ha)).1 hx) ((mem_ns (circ_pos hok hb)).1 hx2)
theorem leastL_spec {N:Int} {xs:List Arrow} (hok:Valid N xs):(leastL N xs).Perm (List.range N.toNat) ∧ (leastL N xs).Pairwise fun x y => 0 < wAt xs y x -> ∃ c ∈ (circlesV N xs).map ns,x ∈ c ∧ y ∈ c:=by
 have hn:N.toNat <= 24:=by have:=hok.hi; omega
 have hV:∀ c ∈ (circlesV N xs).map ns,Rw.TabOk (wAt xs) c (Rw.Vof (wAt xs) c):=fun c hc => by
  obtain ⟨l,hl,rfl⟩:=List.mem_map.1 hc
  refine Rw.tabOk (circ_nodup hok hl) ?_ fun y x => ⟨(hok.wAt y x).1,(hok.wAt y x).2.1⟩
  rw [ns_length]
  have:=(circ_props hok hl).1
  omega
 have h:=Rw.firstL_spec (circ_all hok) hV (fun s x => ?_) N.toNat (fun _ => true) (by rw [List.filter_eq_self.2 fun _ _ => rfl,List.length_range])
 ·have e:leastL N xs = Rw.firstL N.toNat (wAt xs) ((circlesV N xs).map ns) (Rw.Vof (wAt xs)) N.toNat (fun _ => true) (Rw.left ((circlesV N xs).map ns) (Rw.Vof (wAt xs)) fun _ => true):=by
   unfold leastL orderL
   rw [leftTo_all]; rfl
  rw [e]
  refine ⟨h.1.trans ?_,h.2⟩
  have:(List.range N.toNat).filter (fun _ => true) = List.range N.toNat:=List.filter_eq_self.2 fun _ _ => rfl
  rw [this]
 ·have:=nextC_bound (fun p q => ⟨(hok.wAt p q).1,(hok.wAt p q).2.1⟩) s x N.toNat
  show _ < (1099511627776:Int)
  omega
theorem leastL_ord {N:Int} {xs:List Arrow} (hok:Valid N xs):OrdOk N (natI (leastL N xs)):=by
 have hp:=(leastL_spec hok).1
 have hlo:=hok.lo
 refine ⟨by rw [natI_length,hp.length_eq,List.length_range]; omega,fun x hx => ?_,?_⟩
 ·obtain ⟨k,hk,rfl⟩:=List.mem_map.1 hx
  have:=List.mem_range.1 (hp.mem_iff.1 hk)
  omega
 ·unfold natI
  rw [List.nodup_iff_pairwise_ne,List.pairwise_map]
  have hnd:(leastL N xs).Nodup:=hp.nodup_iff.2 List.nodup_range
  exact hnd.imp fun h e => h (by omega)
theorem contrary {N:Int} {xs:List Arrow} (hok:Valid N xs) {x y:Nat} (hne:x ≠ y) (h:∃ c ∈ (circlesV N xs).map ns,x ∈ c ∧ y ∈ c):standS N xs (y:Int) (x:Int) = 3:=by
 obtain ⟨c,hc,hx,hy⟩:=h
 obtain ⟨l,hl,rfl⟩:=List.mem_map.1 hc
 have hx:=(mem_ns (circ_pos hok hl)).1 hx
 have hy:=(mem_ns (circ_pos hok hl)).1 hy
 have hxn:=(circ_props hok hl).2 _ hx
 have hyn:=(circ_props hok hl).2 _ hy
 obtain ⟨_,_,a,ha,rfl⟩:=circ_from hok hl
 have hn:N.toNat <= 24:=by have:=hok.hi; omega
 have P:=pre_reach hn hok.inside
 obtain ⟨x',ex,_,hcx⟩:=mem_members.1 hx
 obtain ⟨y',ey,_,hcy⟩:=mem_members.1 hy
 have ex:x = x':=by omega
 have ey:y = y':=by omega
 subst ex; subst ey
 have hxy:=P.comp_trans (comp_symm ha hcy) hcx
 have h2:=compS_iff.1 hxy
 rcases h2.2 with h2 | h2
 ·exact absurd h2.symm hne
 ·unfold standS
  rw [if_pos hok.chk,if_pos (by simp [inR]; omega)]
  have e1:(y:Int).toNat = y:=rfl
  have e2:(x:Int).toNat = x:=rfl
  rw [e1,e2]
  exact standR_three.2 ⟨Ne.symm hne,h2.1,h2.2⟩
theorem slight_contrary {N:Int} {ys:List Arrow} (hok:Valid N ys) {a:Arrow} (ha:a ∈ ys) (h:slB (natI (leastL N ys)) a = true):standS N ys a.fr a.to = 3:=by
 obtain ⟨hp,hpw⟩:=leastL_spec hok
 have hord:=leastL_ord hok
 obtain ⟨i,hi,rfl⟩:=List.getElem_of_mem ha
 have hg:=goodA_spec (hok.good hi)
 obtain ⟨p,hpp⟩:=Int.eq_ofNat_of_zero_le hg.1
 obtain ⟨q,hq⟩:=Int.eq_ofNat_of_zero_le hg.2.2.1
 have hT:toM ys p q = true:=List.any_eq_true.2 ⟨ys[i],List.getElem_mem hi,decide_eq_true ⟨hpp,hq⟩⟩
 have hW:=(hok.wAt p q).2.2.2 hT
 unfold slB at h
 have h:=of_decide_eq_true h
 rw [hpp,hq] at h ⊢
 have hpn:p < N.toNat:=by omega
 have hqn:q < N.toNat:=by omega
 have mem:∀ {k:Nat},k < N.toNat -> (k:Int) ∈ natI (leastL N ys):=fun {k} hk => List.mem_map.2 ⟨k,hp.mem_iff.2 (List.mem_range.2 hk),rfl⟩
 have place:∀ {k:Nat},k < N.toNat -> placeTo (natI (leastL N ys)) (natI (leastL N ys)).length k = (natI (leastL N ys)).idxOf (k:Int):=fun {k} hk => by
  unfold placeTo
  rw [List.take_length,if_pos (mem hk)]
 have e1:((p:Nat):Int).toNat = p:=rfl
 have e2:((q:Nat):Int).toNat = q:=rfl
 rw [e1,e2,place hpn,place hqn] at h
 have hip:=List.idxOf_lt_length_of_mem (mem hpn)
 have hiq:=List.idxOf_lt_length_of_mem (mem hqn)
 have gp:(natI (leastL N ys))[(natI (leastL N ys)).idxOf (p:Int)] = (p:Int):=List.getElem_idxOf hip
 have gq:(natI (leastL N ys))[(natI (leastL N ys)).idxOf (q:Int)] = (q:Int):=List.getElem_idxOf hiq
 have hpw2:(natI (leastL N ys)).Pairwise fun x y => ∀ a b:Nat,x = (a:Int) -> y = (b:Int) -> 0 < wAt ys b a -> ∃ c ∈ (circlesV N ys).map ns,a ∈ c ∧ b ∈ c:=by
  unfold natI
  rw [List.pairwise_map]
  refine hpw.imp fun {x y} hh a b ea eb hw => ?_
  have ea:x = a:=by omega
  have eb:y = b:=by omega
  subst ea; subst eb
  exact hh hw
 have:=List.pairwise_iff_getElem.1 hpw2 _ _ hiq hip h q p gq gp hW
 refine contrary hok ?_ this
 intro e
 subst e
 have:=hg.2.2.2.2.1
 omega
end Go.Proofs.YtigapannpbaihaaGreat.Rk
namespace Go.Proofs.YtigapannpbaihaaGreat
structure OrdB {α:Type} (lt:α -> α -> Bool):Prop where
 asym:∀ x y,lt x y = true -> lt y x = false
 ntr:∀ x y z,lt y x = false -> lt z y = false -> lt z x = false
abbrev SortedB {α:Type} (lt:α -> α -> Bool) (l:List α):Prop:=l.Pairwise fun x y => lt y x = false
section
variable {α:Type} {lt:α -> α -> Bool}
theorem swap_split {P Y S:List α} {x y:α}:((P ++ x :: (Y ++ y :: S)).set P.length y).set (P.length + 1 + Y.length) x = P ++ y :: (Y ++ x :: S):=by
 rw [List.set_append_right _ _ (Nat.le_refl _),Nat.sub_self,List.set_cons_zero,List.set_append_right _ _ (by omega),show P.length + 1 + Y.length - P.length = Y.length + 1 by omega,List.set_cons_succ,List.set_append_right _ _ (Nat.le_refl _),Nat.sub_self,List.set_cons_zero]
theorem get_mid {P S:List α} {x:α} (h:P.length < (P ++ x :: S).length):(P ++ x :: S)[P.length] = x:=by simp
theorem get_mid2 {P Y S:List α} {x y:α} {k:Nat} (hk:k = P.length + 1 + Y.length) (h:k < (P ++ x :: (Y ++ y :: S)).length):(P ++ x :: (Y ++ y :: S))[k] = y:=by
 subst hk
 rw [List.getElem_append_right (by omega)]
 simp only [show P.length + 1 + Y.length - P.length = Y.length + 1 by omega,List.getElem_cons_succ]
 rw [List.getElem_append_right (Nat.le_refl _)]
 simp
theorem sorted_insert {M1 M2:List α} {x:α} (h:SortedB lt (M1 ++ M2)) (h1:∀ z ∈ M1,lt x z = false) (h2:∀ z ∈ M2,lt z x = false):SortedB lt (M1 ++ x :: M2):=by
 obtain ⟨a,b,c⟩:=List.pairwise_append.1 h
 refine List.pairwise_append.2 ⟨a,List.pairwise_cons.2 ⟨fun z hz => h2 z hz,b⟩,fun z hz y hy => ?_⟩
 rcases List.mem_cons.1 hy with rfl | hy
 ·exact h1 z hz
 ·exact c z hz y hy
theorem sorted_last (O:OrdB lt) {M:List α} {x y:α} (h:SortedB lt (M ++ [y])) (hx:lt x y = false):∀ z ∈ M ++ [y],lt x z = false:=by
 intro z hz
 obtain ⟨_,_,c⟩:=List.pairwise_append.1 h
 rcases List.mem_append.1 hz with hz | hz
 ·exact O.ntr z y x (c z hz y (by simp)) hx
 ·rw [List.mem_singleton.1 hz]; exact hx
theorem sorted_at {l:List α} (h:SortedB lt l) {i j:Nat} (hi:i < l.length) (hj:j < l.length) (hij:i < j):lt l[j] l[i] = false:=List.pairwise_iff_getElem.1 h i j hi hj hij
theorem sorted_le (O:OrdB lt) {l:List α} (h:SortedB lt l) {i j:Nat} (hi:i < l.length) (hj:j < l.length) (hij:i <= j):lt l[j] l[i] = false:=by
 rcases Nat.lt_or_ge i j with h' | h'
 ·exact sorted_at h hi hj h'
 ·obtain rfl:i = j:=by omega
  cases e:lt l[i] l[i] with
  | false => rfl
  | true => exact absurd (O.asym _ _ e) (by rw [e]; decide)
theorem search_yes (O:OrdB lt) {l:List α} (h:SortedB lt l) {x:α} {k:Nat} (hk:k < l.length) (hx:lt l[k] x = true) {t:Nat} (ht:t <= k):lt (l[t]'(by omega)) x = true:=by
 cases e:lt (l[t]'(by omega)) x with
 | true => rfl
 | false =>
  have h1:=sorted_le O h (by omega:t < l.length) hk ht
  have:=O.ntr x _ _ e h1
  rw [hx] at this; cases this
theorem search_no (O:OrdB lt) {l:List α} (h:SortedB lt l) {x:α} {k:Nat} (hk:k < l.length) (hx:lt l[k] x = false) {t:Nat} (ht:k <= t) (htl:t < l.length):lt l[t] x = false :=
 O.ntr x _ _ hx (sorted_le O h hk htl ht)
theorem search_yes' (O:OrdB lt) {l:List α} (h:SortedB lt l) {x:α} {k:Nat} (hk:k < l.length) (hx:lt x l[k] = false) {t:Nat} (ht:t <= k):lt x (l[t]'(by omega)) = false :=
 O.ntr _ _ x (sorted_le O h (by omega:t < l.length) hk ht) hx
theorem search_no' (O:OrdB lt) {l:List α} (h:SortedB lt l) {x:α} {k:Nat} (hk:k < l.length) (hx:lt x l[k] = true) {t:Nat} (ht:k <= t) (htl:t < l.length):lt x l[t] = true:=by
 cases e:lt x l[t] with
 | true => rfl
 | false =>
  have h1:=sorted_le O h hk htl ht
  have:=O.ntr _ _ x h1 e
  rw [hx] at this; cases this
theorem mem_take_at {l:List α} {k:Nat} {z:α} (h:z ∈ l.take k):∃ t,∃ ht:t < l.length,t < k ∧ z = l[t]:=by
 obtain ⟨t,ht,rfl⟩:=List.getElem_of_mem h
 rw [List.length_take] at ht
 exact ⟨t,by omega,by omega,by rw [List.getElem_take]⟩
theorem mem_drop_at {l:List α} {k:Nat} {z:α} (h:z ∈ l.drop k):∃ t,∃ ht:t < l.length,k <= t ∧ z = l[t]:=by
 obtain ⟨t,ht,rfl⟩:=List.getElem_of_mem h
 rw [List.length_drop] at ht
 exact ⟨k + t,by omega,by omega,by rw [List.getElem_drop]⟩
theorem merge_one (O:OrdB lt) {B:List α} (h:SortedB lt B) {x:α} {k:Nat} (h1:∀ t (ht:t < B.length),t < k -> lt B[t] x = true) (h2:∀ t (ht:t < B.length),k <= t -> lt B[t] x = false):SortedB lt (B.take k ++ x :: B.drop k):=by
 refine sorted_insert (by rw [List.take_append_drop]; exact h) (fun z hz => ?_) (fun z hz => ?_)
 ·obtain ⟨t,ht,hk,rfl⟩:=mem_take_at hz
  exact O.asym _ _ (h1 t ht hk)
 ·obtain ⟨t,ht,hk,rfl⟩:=mem_drop_at hz
  exact h2 t ht hk
theorem merge_one' (O:OrdB lt) {A:List α} (h:SortedB lt A) {x:α} {k:Nat} (h1:∀ t (ht:t < A.length),t < k -> lt x A[t] = false) (h2:∀ t (ht:t < A.length),k <= t -> lt x A[t] = true):SortedB lt (A.take k ++ x :: A.drop k):=by
 refine sorted_insert (by rw [List.take_append_drop]; exact h) (fun z hz => ?_) (fun z hz => ?_)
 ·obtain ⟨t,ht,hk,rfl⟩:=mem_take_at hz
  exact h1 t ht hk
 ·obtain ⟨t,ht,hk,rfl⟩:=mem_drop_at hz
  exact O.asym _ _ (h2 t ht hk)
theorem merge_halves {A1 A2 B1 B2 X Y:List α} (h1:∀ x ∈ A1,∀ y ∈ B2,lt y x = false) (h2:∀ x ∈ B1,∀ y ∈ A2,lt y x = false) (hA:SortedB lt (A1 ++ A2)) (hB:SortedB lt (B1 ++ B2))
  (hX:SortedB lt X) (hXp:X.Perm (A1 ++ B1)) (hY:SortedB lt Y) (hYp:Y.Perm (A2 ++ B2)):SortedB lt (X ++ Y) ∧ (X ++ Y).Perm (A1 ++ A2 ++ (B1 ++ B2)):=by
 obtain ⟨_,_,cA⟩:=List.pairwise_append.1 hA
 obtain ⟨_,_,cB⟩:=List.pairwise_append.1 hB
 refine ⟨List.pairwise_append.2 ⟨hX,hY,fun x hx y hy => ?_⟩,?_⟩
 ·rcases List.mem_append.1 (hXp.mem_iff.1 hx) with hx | hx <;> rcases List.mem_append.1 (hYp.mem_iff.1 hy) with hy | hy
  ·exact cA x hx y hy
  ·exact h1 x hx y hy
  ·exact h2 x hx y hy
  ·exact cB x hx y hy
 ·refine (hXp.append hYp).trans ?_
  rw [List.append_assoc,List.append_assoc]
  refine List.Perm.append_left A1 ?_
  rw [<-List.append_assoc,<-List.append_assoc]
  exact List.Perm.append_right B2 List.perm_append_comm
end
end Go.Proofs.YtigapannpbaihaaGreat
namespace Go.Proofs.YtigapannpbaihaaGreat.Rk
open Go.Eng Go.RowKit
def icells (x:Int):List Value:=[.int .i64 x]
theorem icells_len (x:Int):(icells x).length = 1:=rfl
theorem icells_ints (l:List Int):l.flatMap icells = ints l:=by
 unfold ints icells
 induction l with
 | nil => rfl
 | cons x r ih => simp_all
theorem row_openB {α:Type} {enc:α -> List Value} {k e:Nat} (hk:∀ x,(enc x).length = k) (k0:0 < k) {B:Nat} {w:World} {v:Value} {l:List α} (h:w.ownsRow B e k v l.length (l.flatMap enc)) {i:Nat} (hi:i < l.length) :
  ∃ g cap,∃ cur:List Value,v = .slice (some ⟨g,0,none⟩) l.length cap ∧ w.heap[g]? = some (.cells cur.toArray e (0,0)) ∧ 0 + i * k + k <= cur.length ∧ v.ownBlock = some g ∧ Rd w g (0 + i * k) (enc l[i]) ∧
   ∀ (c:Nat) (vs:List Value) (y:α) (w':World),splice (enc l[i]) c vs = enc y -> c + vs.length <= k -> Put w g (.cells (splice cur (0 + i * k + c) vs).toArray e (0,0)) w' -> w'.ownsRow B e k v (l.set i y).length ((l.set i y).flatMap enc):=by
 have hv:∃ g cap,v = .slice (some ⟨g,0,none⟩) l.length cap:=by
  obtain ⟨_,⟨_,h0⟩ | ⟨g,cap,cur,hv,_⟩⟩:=h
  ·omega
  ·exact ⟨g,cap,hv⟩
 obtain ⟨g,cap,rfl⟩:=hv
 obtain ⟨cur,hg,_,hn,_,_,hxl,ht,hput⟩:=ownsRow_open h
 have hb:(i + 1) * k <= l.length * k:=Nat.mul_le_mul_right k hi
 rw [Nat.add_mul,Nat.one_mul] at hb
 obtain ⟨A,c2,hA,hr,_⟩:=reads_of_owns h
 refine ⟨g,cap,cur,rfl,hg,by omega,rfl,?_,fun c vs y w' h1 h2 h3 => ?_⟩
 ·cases hA
  obtain ⟨b,o,hb2,hrd⟩:=Reads.elem hk k0 hr hi
  cases hb2
  exact hrd
 ·have:=hput (0 + i * k + c) vs w' (by omega) h3
  rw [Nat.zero_add,flat_field hk hi h1 h2] at this
  rw [List.length_set]
  exact this
abbrev RowI (B:Nat) (w:World) (v:Value) (l:List Int):Prop:=NewL icells 3 1 B w v l
def CmpW (B:Nat) (w0:World) (gd:Nat) (cb:Array Value) (ok:Int -> Int -> Prop) (lt:Int -> Int -> Bool):Prop:=∀ (x y:Int) (w:World),Below B w0 w -> ok x y -> CallsV C.P gd (#[] ++ [.int .i64 x,.int .i64 y].toArray ++ cb) w fun v w' => (∃ k:Int,v = .int .i64 k ∧ (k < 0 <-> lt x y = true)) ∧ Ext w w'
theorem CmpW.later {B:Nat} {w0 w1:World} {gd:Nat} {cb:Array Value} {ok:Int -> Int -> Prop} {lt:Int -> Int -> Bool} (h:CmpW B w0 gd cb ok lt) (b:Below B w0 w1):CmpW B w1 gd cb ok lt:=fun x y w hb hk => h x y w (b.trans hb) hk
abbrev OkL (ok:Int -> Int -> Prop) (l:List Int):Prop:=l.Pairwise fun y x => ok x y
theorem rowI_at {B:Nat} {w:World} {A:Option Addr} {n c:Nat} {l:List Int} (h:RowI B w (.slice A n c) l) {i:Nat} (hi:i < l.length):∃ g,A = some ⟨g,0,none⟩ ∧ B <= g ∧ Rd w g (0 + i * 1) (icells l[i]) ∧ n = l.length:=by
 obtain ⟨g,cap,cur,hv,hg,hb,hown,hrd,hput⟩:=row_openB (enc:=icells) icells_len (by omega) h hi
 cases hv
 exact ⟨g,rfl,(h.lt g rfl).1,hrd,rfl⟩
theorem rowI_swap {B:Nat} {w:World} {A:Option Addr} {n c:Nat} {l:List Int} (h:RowI B w (.slice A n c) l) {i j:Nat} (hi:i < l.length) (hj:j < l.length):∃ g,∃ cur:List Value,A = some ⟨g,0,none⟩ ∧ w.heap[g]? = some (.cells cur.toArray 3 (0,0)) ∧ 0 + i * 1 + 1 <= cur.length ∧
  ∀ w1,Put w g (.cells (splice cur (0 + i * 1) (icells l[j])).toArray 3 (0,0)) w1 -> ∃ cur1:List Value,w1.heap[g]? = some (.cells cur1.toArray 3 (0,0)) ∧ 0 + j * 1 + 1 <= cur1.length ∧
   ∀ w2,Put w1 g (.cells (splice cur1 (0 + j * 1) (icells l[i])).toArray 3 (0,0)) w2 -> RowI B w2 (.slice A n c) ((l.set i l[j]).set j l[i]) ∧ Below B w w2:=by
 obtain ⟨g,cap,cur,hv,hg,hb,hown,hrd,hput⟩:=row_openB (enc:=icells) icells_len (by omega) h hi
 cases hv
 have hB:=(h.lt g rfl).1
 refine ⟨g,cur,rfl,hg,hb,fun w1 h1 => ?_⟩
 have r1:=hput 0 (icells l[j]) l[j] w1 rfl (Nat.le_of_ble_eq_true rfl) h1
 have hj1:j < (l.set i l[j]).length:=by rw [List.length_set]; exact hj
 obtain ⟨g',cap',cur',hv',hg',hb',hown',hrd',hput'⟩:=row_openB (enc:=icells) icells_len (by omega) r1 hj1
 have eg:g' = g:=Option.some.inj (hown'.symm.trans hown)
 subst eg
 refine ⟨cur',hg',hb',fun w2 h2 => ⟨?_,below_put (put_below h1 hB) h2 hB⟩⟩
 exact hput' 0 (icells l[i]) l[i] w2 rfl (Nat.le_of_ble_eq_true rfl) h2
theorem swap_adj {α:Type} {P S:List α} {x y:α}:((P ++ y :: x :: S).set (P.length + 1) y).set P.length x = P ++ x :: y :: S:=by
 rw [List.set_append_right _ _ (by omega),show P.length + 1 - P.length = 1 by omega,List.set_append_right _ _ (Nat.le_refl _),Nat.sub_self]
 rfl
theorem get_adj0 {α:Type} {P S:List α} {x y:α} (h:P.length < (P ++ y :: x :: S).length):(P ++ y :: x :: S)[P.length] = y:=by simp
theorem get_adj1 {α:Type} {P S:List α} {x y:α} (h:P.length + 1 < (P ++ y :: x :: S).length):(P ++ y :: x :: S)[P.length + 1] = x:=by
 rw [List.getElem_append_right (by omega)]; simp
set_option maxRecDepth 100000 in
set_option maxHeartbeats 1000000 in
theorem insSort_spec {B:Nat} {w:World} {A:Option Addr} {n c gd a b:Nat} {cb:Array Value} {lt:Int -> Int -> Bool} {ok:Int -> Int -> Prop} {P M S:List Int} (ho:RowI B w (.slice A n c) (P ++ (M ++ S))) (hB:B <= w.heap.size) (hn:n <= 2 ^ 30) (ha:a = P.length) (hb:b = a + M.length) (hgd:C.can gd = true) (hcmp:CmpW B w gd cb ok lt) (hok:OkL ok M) (O:OrdB lt) :
  CallsV C.P 289 #[.slice A n c,.int .i64 (a:Nat),.int .i64 (b:Nat),.func (.func gd) #[] cb] w fun _ w' => ∃ M',M'.Perm M ∧ SortedB lt M' ∧ RowI B w' (.slice A n c) (P ++ (M' ++ S)) ∧ Below B w w':=by
 have hlen:n = (P ++ (M ++ S)).length:=by
  obtain ⟨A',c',e,_⟩:=NewL.hl ho
  cases e; rfl
 have hln:n = P.length + (M.length + S.length):=by rw [hlen,List.length_append,List.length_append]
 refine callsV_of C_ok (args:=[_,_,_,_]) (plans:=plans289) Tryz.func289 rfl Tryz.ntmps289 (by kernel_rfl) (Nat.le_of_ble_eq_true rfl) ?_
 refine ⟨((a + 1:Nat):Int),fit ⟨by omega,by omega⟩,?_⟩
 refine loopE C_ok (fun (p:Nat × List Int) => [(0,.slice A n c),(1,.int .i64 (a:Nat)),(2,.int .i64 (b:Nat)),(3,.func (.func gd) #[] cb),(8,.int .i64 ((a + p.1:Nat):Int))])
  (fun p w' => 1 <= p.1 ∧ p.2.Perm (M.take p.1) ∧ SortedB lt p.2 ∧ RowI B w' (.slice A n c) (P ++ (p.2 ++ (M.drop p.1 ++ S))) ∧ Below B w w') (fun p => M.length - p.1) (1,M.take 1) ⟨rfl,rfl,rfl,rfl,rfl,trivial⟩
  ⟨Nat.le_refl _,List.Perm.refl _,?_,?_,Below.refl _ _⟩ ?_
 ·show SortedB lt (M.take 1)
  cases M with
  | nil => exact List.Pairwise.nil
  | cons x r => simp [SortedB]
 ·show RowI B w (.slice A n c) (P ++ (M.take 1 ++ (M.drop 1 ++ S)))
  rw [<-List.append_assoc (M.take 1),List.take_append_drop]; exact ho
 rintro ⟨k,M1⟩ w1 ⟨hk',hp',hs',ho',b1⟩
 have hk:1 <= k:=hk'
 have hp:M1.Perm (M.take k):=hp'
 have hs:SortedB lt M1:=hs'
 have ho1:RowI B w1 (.slice A n c) (P ++ (M1 ++ (M.drop k ++ S))):=ho'
 clear hk' hp' hs' ho'
 refine brE_dec (fun hlt => ?_) (fun hge => ?_)
 ·have hlt:k < M.length:=by have:((a + k:Nat):Int) < (b:Nat):=hlt; omega
  have hM1:M1.length = k:=by rw [hp.length_eq,List.length_take]; omega
  generalize hx:M[k] = x
  have hdrop:M.drop k = x :: M.drop (k + 1):=by rw [<-hx]; exact List.drop_eq_getElem_cons hlt
  rw [hdrop] at ho1
  refine loopE C_ok (fun (p:List Int × List Int) => [(0,.slice A n c),(1,.int .i64 (a:Nat)),(2,.int .i64 (b:Nat)),(3,.func (.func gd) #[] cb),(8,.int .i64 ((a + k:Nat):Int)),(9,.int .i64 ((a + p.1.length:Nat):Int))])
   (fun p w' => M1 = p.1 ++ p.2 ∧ (∀ z ∈ p.2,lt x z = true) ∧ RowI B w' (.slice A n c) (P ++ (p.1 ++ x :: (p.2 ++ (M.drop (k + 1) ++ S)))) ∧ Below B w w') (fun p => p.1.length) (M1,[]) ⟨rfl,rfl,rfl,rfl,rfl,congrArg (fun q:Nat => some (Value.int IntKind.i64 ((a + q:Nat):Int))) hM1.symm,trivial⟩
   ⟨(List.append_nil _).symm,(fun z hz => by cases hz),ho1,b1⟩ ?_
  rintro ⟨Q,R⟩ w2 ⟨hQR',hR',ho',b2⟩
  have hQR:M1 = Q ++ R:=hQR'
  have hR:∀ z ∈ R,lt x z = true:=hR'
  have ho2:RowI B w2 (.slice A n c) (P ++ (Q ++ x :: (R ++ (M.drop (k + 1) ++ S)))):=ho'
  clear hQR' hR' ho'
  have hQl:Q.length <= k:=by rw [<-hM1,hQR,List.length_append]; omega
  -- when the place is found
  have done:∀ w3,(∀ z ∈ Q,lt x z = false) -> RowI B w3 (.slice A n c) (P ++ (Q ++ x :: (R ++ (M.drop (k + 1) ++ S)))) -> (Q ++ x :: R).Perm (M.take (k + 1)) ∧ SortedB lt (Q ++ x :: R) ∧ RowI B w3 (.slice A n c) (P ++ ((Q ++ x :: R) ++ (M.drop (k + 1) ++ S))):=fun w3 hq h3 => by
   refine ⟨?_,sorted_insert (by rw [<-hQR]; exact hs) hq fun z hz => O.asym _ _ (hR z hz),?_⟩
   ·rw [List.take_succ_eq_append_getElem hlt,hx]
    refine List.perm_middle.trans ?_
    rw [<-hQR]
    exact (List.Perm.cons x hp).trans (List.perm_append_singleton x (M.take k)).symm
   ·have:(Q ++ x :: R) ++ (M.drop (k + 1) ++ S) = Q ++ x :: (R ++ (M.drop (k + 1) ++ S)):=by simp
    rw [this]; exact h3
  have fin:∀ w3,(∀ z ∈ Q,lt x z = false) -> RowI B w3 (.slice A n c) (P ++ (Q ++ x :: (R ++ (M.drop (k + 1) ++ S)))) -> Below B w w3 -> IntKind.i64.wrap (((a + k:Nat):Int) + 1) = ((a + (k + 1):Nat):Int):=fun _ _ _ _ => fit ⟨by omega,by omega⟩
  refine brE_dec (fun hj => ?_) (fun hj => ?_)
  ·have hj:0 < Q.length:=by have:((a + Q.length:Nat):Int) > (a:Nat):=hj; omega
   obtain ⟨I,y,rfl⟩:∃ I y,Q = I ++ [y]:=⟨Q.dropLast,Q.getLast (by intro e; rw [e] at hj; exact Nat.lt_irrefl _ hj),(List.dropLast_concat_getLast _).symm⟩
   have hIl:(I ++ [y]).length = I.length + 1:=by simp
   have eL:P ++ ((I ++ [y]) ++ x :: (R ++ (M.drop (k + 1) ++ S))) = (P ++ I) ++ y :: x :: (R ++ (M.drop (k + 1) ++ S)):=by simp
   rw [eL] at ho2
   have hpl:(P ++ I).length = a + I.length:=by rw [List.length_append,ha]
   have hLl:((P ++ I) ++ y :: x :: (R ++ (M.drop (k + 1) ++ S))).length = n:=by
    obtain ⟨A',c',e,_⟩:=NewL.hl ho2
    cases e; rfl
   have hi0:(P ++ I).length < ((P ++ I) ++ y :: x :: (R ++ (M.drop (k + 1) ++ S))).length:=by simp only [List.length_append,List.length_cons]; omega
   have hi1:(P ++ I).length + 1 < ((P ++ I) ++ y :: x :: (R ++ (M.drop (k + 1) ++ S))).length:=by simp only [List.length_append,List.length_cons]; omega
   have sub1:IntKind.i64.wrap (((a + (I ++ [y]).length:Nat):Int) - 1) = ((a + I.length:Nat):Int):=by rw [hIl,fit ⟨by omega,by omega⟩]; omega
   have idx1:a + (I ++ [y]).length = (P ++ I).length + 1:=by rw [hIl,hpl]; omega
   have idx0:a + I.length = (P ++ I).length:=hpl.symm
   obtain ⟨g1,hA1,_,hr1,_⟩:=rowI_at ho2 hi1
   obtain ⟨g0,hA0,_,hr0,_⟩:=rowI_at ho2 hi0
   rw [get_adj1 hi1] at hr1
   rw [get_adj0 hi0] at hr0
   refine ⟨a + (I ++ [y]).length,g1,0,rfl,by rw [idx1,<-hLl]; exact hi1,hA1,?_⟩
   refine ⟨_,by rw [idx1]; exact hr1 0 _ rfl,?_⟩
   refine ⟨((a + I.length:Nat):Int),sub1,?_⟩
   refine ⟨a + I.length,g0,0,rfl,by rw [idx0,<-hLl]; exact hi0,hA0,?_⟩
   refine ⟨_,by rw [idx0]; exact hr0 0 _ rfl,?_⟩
   refine brE_true hgd ?_
   have hyx:ok x y:=by
    have hym:y ∈ M.take k:=hp.mem_iff.1 (by rw [hQR]; simp)
    obtain ⟨j,hj1,hj2⟩:=List.getElem_of_mem hym
    have hjk:j < k:=by rw [List.length_take] at hj1; omega
    have:=List.pairwise_iff_getElem.1 hok j k (by omega) hlt hjk
    rw [List.getElem_take] at hj2
    rw [hx,hj2] at this
    exact this
   refine (hcmp x y w2 b2 hyx).mono ?_
   rintro v w3 ⟨⟨z,rfl,hz⟩,e3⟩
   have ho3:=ho2.ext e3
   have b3:Below B w w3:=b2.trans (e3.mono (Nat.le_trans hB b2.size))
   refine brE_dec (fun hc => ?_) (fun hc => ?_)
   ·have hc:z < 0:=hc
    have hlt2:=hz.1 hc
    obtain ⟨g,cur,hA,hg,hb1,hput⟩:=rowI_swap ho3 hi1 hi0
    have hrd:=rowI_at ho3 hi1
    have hrd0:=rowI_at ho3 hi0
    rw [get_adj1 hi1] at hrd
    rw [get_adj0 hi0] at hrd0
    obtain ⟨g1',hA1',_,hr1',_⟩:=hrd
    obtain ⟨g0',hA0',_,hr0',_⟩:=hrd0
    rw [get_adj1 hi1,get_adj0 hi0,swap_adj] at hput
    refine ⟨((a + I.length:Nat):Int),sub1,?_⟩
    refine ⟨((a + I.length:Nat):Int),sub1,?_⟩
    refine ⟨a + I.length,g0',0,rfl,by rw [idx0,<-hLl]; exact hi0,hA0',?_⟩
    refine ⟨_,by rw [idx0]; exact hr0' 0 _ rfl,?_⟩
    refine ⟨a + (I ++ [y]).length,g1',0,rfl,by rw [idx1,<-hLl]; exact hi1,hA1',?_⟩
    refine ⟨_,by rw [idx1]; exact hr1' 0 _ rfl,?_⟩
    refine ⟨a + (I ++ [y]).length,g,0,rfl,by rw [idx1,<-hLl]; exact hi1,hA,?_⟩
    rw [idx1]
    refine ⟨rfl,_,_,hg,hb1,rfl,?_⟩
    intro w4 h4
    obtain ⟨cur1,hg1,hb2,hput2⟩:=hput w4 h4
    refine ⟨a + I.length,g,0,rfl,by rw [idx0,<-hLl]; exact hi0,hA,?_⟩
    rw [idx0]
    refine ⟨rfl,_,_,hg1,hb2,rfl,?_⟩
    intro w5 h5
    obtain ⟨ho5,b5⟩:=hput2 w5 h5
    rw [<-idx1]
    refine ⟨((a + I.length:Nat):Int),sub1,?_⟩
    refine ⟨(I,y :: R),⟨rfl,rfl,rfl,rfl,rfl,rfl,trivial⟩,⟨?_,?_,?_,b3.trans b5⟩,by show I.length < (I ++ [y]).length; rw [hIl]; omega⟩
    ·show M1 = I ++ y :: R
     rw [hQR]; simp
    ·intro z hz
     rcases List.mem_cons.1 hz with rfl | hz
     ·exact hlt2
     ·exact hR z hz
    ·show RowI B w5 (.slice A n c) (P ++ (I ++ x :: ((y :: R) ++ (M.drop (k + 1) ++ S))))
     have:P ++ (I ++ x :: ((y :: R) ++ (M.drop (k + 1) ++ S))) = (P ++ I) ++ x :: y :: (R ++ (M.drop (k + 1) ++ S)):=by simp
     rw [this]; exact ho5
   ·have hc:¬ z < 0:=hc
    have hnl:lt x y = false:=by
     cases e:lt x y with
     | false => rfl
     | true => exact absurd (hz.2 e) hc
    have hall:∀ z ∈ I ++ [y],lt x z = false:=sorted_last O (by rw [hQR] at hs; exact (List.pairwise_append.1 hs).1) hnl
    rw [<-eL] at ho3
    obtain ⟨d1,d2,d3⟩:=done w3 hall ho3
    refine ⟨((a + (k + 1):Nat):Int),fin w3 hall ho3 b3,?_⟩
    exact ⟨(k + 1,(I ++ [y]) ++ x :: R),⟨rfl,rfl,rfl,rfl,rfl,trivial⟩,⟨by show 1 <= k + 1; omega,d1,d2,d3,b3⟩,by show M.length - (k + 1) < M.length - k; omega⟩
  ·have hj:Q = []:=List.length_eq_zero_iff.1 (by have:¬ ((a + Q.length:Nat):Int) > (a:Nat):=hj; omega)
   have hall:∀ z ∈ Q,lt x z = false:=fun z hz => by rw [hj] at hz; cases hz
   obtain ⟨d1,d2,d3⟩:=done w2 hall ho2
   refine ⟨((a + (k + 1):Nat):Int),fin w2 hall ho2 b2,?_⟩
   exact ⟨(k + 1,Q ++ x :: R),⟨rfl,rfl,rfl,rfl,rfl,trivial⟩,⟨by show 1 <= k + 1; omega,d1,d2,d3,b2⟩,by show M.length - (k + 1) < M.length - k; omega⟩
 ·have hge:M.length <= k:=by have:¬ ((a + k:Nat):Int) < (b:Nat):=hge; omega
  rw [List.take_of_length_le hge] at hp
  rw [List.drop_eq_nil_of_le hge] at ho1
  exact ⟨M1,hp,hs,ho1,b1⟩
end Go.Proofs.YtigapannpbaihaaGreat.Rk
namespace Go.Proofs.YtigapannpbaihaaGreat.Rk
open Go.Eng Go.RowKit
theorem rowI_n {B:Nat} {w:World} {A:Option Addr} {n c:Nat} {l:List Int} (ho:RowI B w (.slice A n c) l):n = l.length:=by
 obtain ⟨A',c',e,_⟩:=NewL.hl ho
 cases e; rfl
set_option maxRecDepth 100000 in
set_option maxHeartbeats 1000000 in
theorem swapRange_spec {B:Nat} {w:World} {A:Option Addr} {n c gd a b k:Nat} {cb:Array Value} {P X Y Z S:List Int} (ho:RowI B w (.slice A n c) (P ++ (X ++ (Y ++ (Z ++ S))))) (hn:n <= 2 ^ 30) (ha:a = P.length) (hb:b = P.length + X.length + Y.length) (hk:k = X.length) (hZ:Z.length = X.length) :
  CallsV C.P 311 #[.slice A n c,.int .i64 (a:Nat),.int .i64 (b:Nat),.int .i64 (k:Nat),.func (.func gd) #[] cb] w fun _ w' => RowI B w' (.slice A n c) (P ++ (Z ++ (Y ++ (X ++ S)))) ∧ Below B w w':=by
 have hln:=rowI_n ho
 simp only [List.length_append] at hln
 refine callsV_of C_ok (args:=[_,_,_,_,_]) (plans:=plans311) Tryz.func311 rfl Tryz.ntmps311 (by kernel_rfl) (Nat.le_of_ble_eq_true rfl) ?_
 refine loopE C_ok (fun (i:Nat) => [(0,.slice A n c),(1,.int .i64 (a:Nat)),(2,.int .i64 (b:Nat)),(3,.int .i64 (k:Nat)),(10,.int .i64 (i:Nat))])
  (fun i w' => i <= k ∧ RowI B w' (.slice A n c) (P ++ (Z.take i ++ (X.drop i ++ (Y ++ (X.take i ++ (Z.drop i ++ S)))))) ∧ Below B w w') (fun i => k - i) 0 ⟨rfl,rfl,rfl,rfl,rfl,trivial⟩
  ⟨Nat.zero_le _,ho,Below.refl _ _⟩ ?_
 rintro i w1 ⟨hi,ho1,b1⟩
 refine brE_dec (fun hlt => ?_) (fun hge => ?_)
 ·have hlt:i < k:=by have:(i:Int) < (k:Nat):=hlt; omega
  have hx:i < X.length:=by omega
  have hz:i < Z.length:=by omega
  obtain ⟨x,hxe⟩:∃ x,x = X[i]:=⟨_,rfl⟩
  obtain ⟨z,hze⟩:∃ z,z = Z[i]:=⟨_,rfl⟩
  have hXd:X.drop i = x :: X.drop (i + 1):=by rw [hxe]; exact List.drop_eq_getElem_cons hx
  have hZd:Z.drop i = z :: Z.drop (i + 1):=by rw [hze]; exact List.drop_eq_getElem_cons hz
  have hXt:X.take (i + 1) = X.take i ++ [x]:=by rw [hxe]; exact List.take_succ_eq_append_getElem hx
  have hZt:Z.take (i + 1) = Z.take i ++ [z]:=by rw [hze]; exact List.take_succ_eq_append_getElem hz
  obtain ⟨P1,hP1⟩:∃ P1,P1 = P ++ Z.take i:=⟨_,rfl⟩
  obtain ⟨Y1,hY1⟩:∃ Y1,Y1 = X.drop (i + 1) ++ (Y ++ X.take i):=⟨_,rfl⟩
  obtain ⟨S1,hS1⟩:∃ S1,S1 = Z.drop (i + 1) ++ S:=⟨_,rfl⟩
  have e1:P ++ (Z.take i ++ (X.drop i ++ (Y ++ (X.take i ++ (Z.drop i ++ S))))) = P1 ++ x :: (Y1 ++ z :: S1):=by rw [hXd,hZd,hP1,hY1,hS1]; simp
  have e2:P1 ++ z :: (Y1 ++ x :: S1) = P ++ (Z.take (i + 1) ++ (X.drop (i + 1) ++ (Y ++ (X.take (i + 1) ++ (Z.drop (i + 1) ++ S))))):=by rw [hXt,hZt,hP1,hY1,hS1]; simp
  rw [e1] at ho1
  have hP1l:P1.length = a + i:=by rw [hP1,List.length_append,List.length_take]; omega
  have hY1l:P1.length + 1 + Y1.length = b + i:=by rw [hP1l,hY1,List.length_append,List.length_append,List.length_take,List.length_drop]; omega
  have hl1:=rowI_n ho1
  have hi0:P1.length < (P1 ++ x :: (Y1 ++ z :: S1)).length:=by simp only [List.length_append,List.length_cons]; omega
  have hi1:P1.length + 1 + Y1.length < (P1 ++ x :: (Y1 ++ z :: S1)).length:=by simp only [List.length_append,List.length_cons]; omega
  have hbi:b + i < n:=by omega
  have hai:a + i < n:=by omega
  have ad0:IntKind.i64.wrap (((a:Nat):Int) + (i:Nat)) = ((a + i:Nat):Int):=fit ⟨by omega,by omega⟩
  have ad1:IntKind.i64.wrap (((b:Nat):Int) + (i:Nat)) = ((b + i:Nat):Int):=fit ⟨by omega,by omega⟩
  obtain ⟨g1,hA1,_,hr1,_⟩:=rowI_at ho1 hi1
  obtain ⟨g0,hA0,_,hr0,_⟩:=rowI_at ho1 hi0
  rw [get_mid2 rfl hi1,hY1l] at hr1
  rw [get_mid hi0,hP1l] at hr0
  obtain ⟨g,cur,hA,hg,hb1,hput⟩:=rowI_swap ho1 hi0 hi1
  rw [get_mid2 rfl hi1,get_mid hi0,swap_split,hY1l,hP1l] at hput
  rw [hP1l] at hb1
  refine ⟨((a + i:Nat):Int),ad0,?_⟩
  refine ⟨((b + i:Nat):Int),ad1,?_⟩
  refine ⟨((b + i:Nat):Int),ad1,?_⟩
  refine ⟨b + i,g1,0,rfl,hbi,hA1,?_⟩
  refine ⟨_,hr1 0 _ rfl,?_⟩
  refine ⟨((a + i:Nat):Int),ad0,?_⟩
  refine ⟨a + i,g0,0,rfl,hai,hA0,?_⟩
  refine ⟨_,hr0 0 _ rfl,?_⟩
  refine ⟨a + i,g,0,rfl,hai,hA,?_⟩
  refine ⟨rfl,_,_,hg,hb1,rfl,?_⟩
  intro w2 h2
  obtain ⟨cur1,hg1,hb2,hput2⟩:=hput w2 h2
  refine ⟨b + i,g,0,rfl,hbi,hA,?_⟩
  refine ⟨rfl,_,_,hg1,hb2,rfl,?_⟩
  intro w3 h3
  obtain ⟨ho3,b3⟩:=hput2 w3 h3
  rw [e2] at ho3
  refine ⟨((i + 1:Nat):Int),by (try dsimp only); exact fit ⟨by omega,by omega⟩,?_⟩
  exact ⟨i + 1,⟨rfl,rfl,rfl,rfl,rfl,trivial⟩,⟨hlt,ho3,b1.trans b3⟩,by show k - (i + 1) < k - i; omega⟩
 ·have hik:i = k:=by have:¬ (i:Int) < (k:Nat):=hge; omega
  have hX:X.take i = X:=List.take_of_length_le (by omega)
  have hXd:X.drop i = []:=List.drop_eq_nil_of_le (by omega)
  have hZt:Z.take i = Z:=List.take_of_length_le (by omega)
  have hZd:Z.drop i = []:=List.drop_eq_nil_of_le (by omega)
  rw [hX,hXd,hZt,hZd,List.nil_append,List.nil_append] at ho1
  exact ⟨ho1,b1⟩
set_option maxRecDepth 100000 in
set_option maxHeartbeats 1000000 in
theorem rotate_spec {B:Nat} {w:World} {A:Option Addr} {n c gd a m b:Nat} {cb:Array Value} {P U V S:List Int} (ho:RowI B w (.slice A n c) (P ++ (U ++ (V ++ S)))) (hn:n <= 2 ^ 30) (ha:a = P.length) (hm:m = a + U.length) (hb:b = m + V.length) (hU:0 < U.length) (hV:0 < V.length) :
  CallsV C.P 300 #[.slice A n c,.int .i64 (a:Nat),.int .i64 (m:Nat),.int .i64 (b:Nat),.func (.func gd) #[] cb] w fun _ w' => RowI B w' (.slice A n c) (P ++ (V ++ (U ++ S))) ∧ Below B w w':=by
 have hln:=rowI_n ho
 simp only [List.length_append] at hln
 refine callsV_of C_ok (args:=[_,_,_,_,_]) (plans:=[]) Tryz.func300 rfl Tryz.ntmps300 (by kernel_rfl) (Nat.le_of_ble_eq_true rfl) ?_
 refine ⟨((U.length:Nat):Int),by (try dsimp only); rw [fit ⟨by omega,by omega⟩]; omega,?_⟩
 refine ⟨((V.length:Nat):Int),by (try dsimp only); rw [fit ⟨by omega,by omega⟩]; omega,?_⟩
 refine loopE C_ok (fun (p:List Int × List Int × List Int × List Int) => [(0,.slice A n c),(2,.int .i64 (m:Nat)),(4,.func (.func gd) #[] cb),(10,.int .i64 (p.2.1.length:Nat)),(11,.int .i64 (p.2.2.1.length:Nat))])
  (fun p w' => 0 < p.2.1.length ∧ 0 < p.2.2.1.length ∧ p.1.length + p.2.1.length = m ∧ p.1 ++ (p.2.2.1 ++ (p.2.1 ++ p.2.2.2)) = P ++ (V ++ (U ++ S)) ∧ RowI B w' (.slice A n c) (p.1 ++ (p.2.1 ++ (p.2.2.1 ++ p.2.2.2))) ∧ Below B w w') (fun p => p.2.1.length + p.2.2.1.length) (P,U,V,S) ⟨rfl,rfl,rfl,rfl,rfl,trivial⟩
  ⟨hU,hV,by show P.length + U.length = m; omega,rfl,ho,Below.refl _ _⟩ ?_
 rintro ⟨P1,U1,V1,S1⟩ w1 ⟨hu',hv',hl',he',ho',b1⟩
 have hu:0 < U1.length:=hu'
 have hv:0 < V1.length:=hv'
 have hl:P1.length + U1.length = m:=hl'
 have he:P1 ++ (V1 ++ (U1 ++ S1)) = P ++ (V ++ (U ++ S)):=he'
 have ho1:RowI B w1 (.slice A n c) (P1 ++ (U1 ++ (V1 ++ S1))):=ho'
 clear hu' hv' hl' he' ho'
 have hln1:=rowI_n ho1
 simp only [List.length_append] at hln1
 have mi:IntKind.i64.wrap (((m:Nat):Int) - (U1.length:Nat)) = ((P1.length:Nat):Int):=by (try dsimp only); rw [fit ⟨by omega,by omega⟩]; omega
 refine brE_ndec (fun hne => ?_) (fun heq => ?_)
 ·have hne:¬ ((U1.length:Nat):Int) = (V1.length:Nat):=hne
  refine brE_dec (fun hgt => ?_) (fun hle => ?_)
  ·have hgt:V1.length < U1.length:=by have:((U1.length:Nat):Int) > (V1.length:Nat):=hgt; omega
   obtain ⟨Ua,hUa⟩:∃ Ua,Ua = U1.take V1.length:=⟨_,rfl⟩
   obtain ⟨Ub,hUb⟩:∃ Ub,Ub = U1.drop V1.length:=⟨_,rfl⟩
   have hUU:U1 = Ua ++ Ub:=by rw [hUa,hUb,List.take_append_drop]
   have hal:Ua.length = V1.length:=by rw [hUa,List.length_take]; omega
   have hbl:Ub.length = U1.length - V1.length:=by rw [hUb,List.length_drop]
   refine ⟨((P1.length:Nat):Int),mi,?_⟩
   have ho2:RowI B w1 (.slice A n c) (P1 ++ (Ua ++ (Ub ++ (V1 ++ S1)))):=by
    have:P1 ++ (Ua ++ (Ub ++ (V1 ++ S1))) = P1 ++ (U1 ++ (V1 ++ S1)):=by rw [hUU]; simp
    rw [this]; exact ho1
   refine (swapRange_spec (a:=P1.length) (b:=m) (k:=V1.length) ho2 hn rfl (by omega) hal.symm hal.symm).mono ?_
   rintro v w2 ⟨ho3,b2⟩
   refine ⟨((Ub.length:Nat):Int),by (try dsimp only); rw [fit ⟨by omega,by omega⟩]; omega,?_⟩
   refine ⟨(P1 ++ V1,Ub,Ua,S1),⟨rfl,rfl,rfl,rfl,by show some (Value.int IntKind.i64 (V1.length:Nat)) = some (Value.int IntKind.i64 (Ua.length:Nat)); rw [hal],trivial⟩,⟨by show 0 < Ub.length; omega,by show 0 < Ua.length; omega,?_,?_,?_,b1.trans b2⟩,by show Ub.length + Ua.length < U1.length + V1.length; omega⟩
   ·show (P1 ++ V1).length + Ub.length = m
    rw [List.length_append]; omega
   ·show (P1 ++ V1) ++ (Ua ++ (Ub ++ S1)) = _
    rw [<-he,hUU]; simp
   ·show RowI B w2 (.slice A n c) ((P1 ++ V1) ++ (Ub ++ (Ua ++ S1)))
    rw [List.append_assoc]; exact ho3
  ·have hlt:U1.length < V1.length:=by have:¬ ((U1.length:Nat):Int) > (V1.length:Nat):=hle; omega
   obtain ⟨Va,hVa⟩:∃ Va,Va = V1.take (V1.length - U1.length):=⟨_,rfl⟩
   obtain ⟨Vb,hVb⟩:∃ Vb,Vb = V1.drop (V1.length - U1.length):=⟨_,rfl⟩
   have hVV:V1 = Va ++ Vb:=by rw [hVa,hVb,List.take_append_drop]
   have hal:Va.length = V1.length - U1.length:=by rw [hVa,List.length_take]; omega
   have hbl:Vb.length = U1.length:=by rw [hVb,List.length_drop]; omega
   refine ⟨((P1.length:Nat):Int),mi,?_⟩
   refine ⟨((m + V1.length:Nat):Int),by (try dsimp only); exact fit ⟨by omega,by omega⟩,?_⟩
   refine ⟨((m + V1.length - U1.length:Nat):Int),by (try dsimp only); rw [fit ⟨by omega,by omega⟩]; omega,?_⟩
   have ho2:RowI B w1 (.slice A n c) (P1 ++ (U1 ++ (Va ++ (Vb ++ S1)))):=by
    have:P1 ++ (U1 ++ (Va ++ (Vb ++ S1))) = P1 ++ (U1 ++ (V1 ++ S1)):=by rw [hVV]; simp
    rw [this]; exact ho1
   refine (swapRange_spec (a:=P1.length) (b:=m + V1.length - U1.length) (k:=U1.length) ho2 hn rfl (by omega) rfl hbl).mono ?_
   rintro v w2 ⟨ho3,b2⟩
   refine ⟨((Va.length:Nat):Int),by (try dsimp only); rw [fit ⟨by omega,by omega⟩]; omega,?_⟩
   refine ⟨(P1,Vb,Va,U1 ++ S1),⟨rfl,rfl,rfl,by show some (Value.int IntKind.i64 (U1.length:Nat)) = some (Value.int IntKind.i64 (Vb.length:Nat)); rw [hbl],rfl,trivial⟩,⟨by show 0 < Vb.length; omega,by show 0 < Va.length; omega,?_,?_,?_,b1.trans b2⟩,by show Vb.length + Va.length < U1.length + V1.length; omega⟩
   ·show P1.length + Vb.length = m
    omega
   ·show P1 ++ (Va ++ (Vb ++ (U1 ++ S1))) = _
    rw [<-he,hVV]; simp
   ·show RowI B w2 (.slice A n c) (P1 ++ (Vb ++ (Va ++ (U1 ++ S1))))
    exact ho3
 ·have heq:U1.length = V1.length:=by have:((U1.length:Nat):Int) = (V1.length:Nat):=heq; omega
  refine ⟨((P1.length:Nat):Int),mi,?_⟩
  have ho2:RowI B w1 (.slice A n c) (P1 ++ (U1 ++ ([] ++ (V1 ++ S1)))):=ho1
  refine (swapRange_spec (a:=P1.length) (b:=m) (k:=U1.length) ho2 hn rfl (by simp; omega) rfl heq.symm).mono ?_
  rintro v w2 ⟨ho3,b2⟩
  rw [<-he]
  exact ⟨ho3,b1.trans b2⟩
end Go.Proofs.YtigapannpbaihaaGreat.Rk
