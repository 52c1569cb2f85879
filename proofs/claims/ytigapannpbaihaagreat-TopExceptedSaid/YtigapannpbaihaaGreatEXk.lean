/- a part of the proof: steps, walks and plain laws that the law below stands on; no condition. -/
import Derived.Test.YtigapannpbaihaaGreatEXa
import Derived.Test.YtigapannpbaihaaGreatEXb
import Derived.Test.YtigapannpbaihaaGreatEXc
import Derived.Test.YtigapannpbaihaaGreatEXd
import Derived.Test.YtigapannpbaihaaGreatEXe
import Derived.Test.YtigapannpbaihaaGreatEXf
import Derived.Test.YtigapannpbaihaaGreatEXg
import Derived.Test.YtigapannpbaihaaGreatEXh
import Derived.Test.YtigapannpbaihaaGreatEXj
import Derived.Shelf.SlSortCmp.NoneTotal
set_option linter.unusedVariables false
set_option linter.unusedSimpArgs false
set_option linter.unnecessarySimpa false
set_option linter.unusedSectionVars false
namespace Go.Proofs.YtigapannpbaihaaGreat.Rk
open Go.Eng Go.RowKit
theorem get_app0 {α:Type} {P Q R:List α} {t:Nat} (ht:t < Q.length) {k:Nat} (hk:k = P.length + t) (h:k < (P ++ (Q ++ R)).length):(P ++ (Q ++ R))[k] = Q[t]:=by
 subst hk
 rw [List.getElem_append_right (by omega)]
 simp only [show P.length + t - P.length = t by omega]
 rw [List.getElem_append_left ht]
theorem get_app1 {α:Type} {P Q R S:List α} {t:Nat} (ht:t < R.length) {k:Nat} (hk:k = P.length + Q.length + t) (h:k < (P ++ (Q ++ (R ++ S))).length):(P ++ (Q ++ (R ++ S)))[k] = R[t]:=by
 have e:P ++ (Q ++ (R ++ S)) = (P ++ Q) ++ (R ++ S):=by simp
 have h2:k < ((P ++ Q) ++ (R ++ S)).length:=by rw [<-e]; exact h
 have:(P ++ (Q ++ (R ++ S)))[k] = ((P ++ Q) ++ (R ++ S))[k]:=by congr 1
 rw [this]
 exact get_app0 ht (by rw [List.length_append]; exact hk) h2
theorem swap_adj' {α:Type} {P S:List α} {x y:α}:((P ++ x :: y :: S).set P.length y).set (P.length + 1) x = P ++ y :: x :: S:=swap_split (Y:=[])
theorem half_sum {m p q:Nat}:(m + p + (m + q)) / 2 = m + (p + q) / 2:=by omega
set_option maxRecDepth 100000 in
set_option maxHeartbeats 8000000 in
theorem symMerge_spec {B:Nat} {A:Option Addr} {n c gd:Nat} {cb:Array Value} {lt:Int -> Int -> Bool} {ok:Int -> Int -> Prop} (hn:n <= 2 ^ 30) (hgd:C.can gd = true) (O:OrdB lt):∀ (k:Nat) {w:World} {a m b:Nat} {P M1 M2 S:List Int},
  M1.length + M2.length <= k -> RowI B w (.slice A n c) (P ++ (M1 ++ (M2 ++ S))) -> B <= w.heap.size -> a = P.length -> m = a + M1.length -> b = m + M2.length -> 0 < M1.length -> 0 < M2.length -> SortedB lt M1 -> SortedB lt M2 -> CmpW B w gd cb ok lt -> (∀ y ∈ M1,∀ x ∈ M2,ok x y) →
  CallsV C.P 290 #[.slice A n c,.int .i64 (a:Nat),.int .i64 (m:Nat),.int .i64 (b:Nat),.func (.func gd) #[] cb] w fun _ w' => ∃ M',M'.Perm (M1 ++ M2) ∧ SortedB lt M' ∧ RowI B w' (.slice A n c) (P ++ (M' ++ S)) ∧ Below B w w':=by
 intro k
 induction k with
 | zero => intro w a m b P M1 M2 S hk _ _ _ _ _ h1; omega
 | succ k ih =>
 intro w a m b P M1 M2 S hk ho hB ha hm hb h1 h2 s1 s2 hcmp hok
 have hln:=rowI_n ho
 simp only [List.length_append] at hln
 obtain ⟨la,hla⟩:∃ la,la = M1.length:=⟨_,rfl⟩
 obtain ⟨lb,hlb⟩:∃ lb,lb = M2.length:=⟨_,rfl⟩
 refine callsV_ofS (args:=[_,_,_,_,_]) Tryz.func290 rfl Tryz.ntmps290 C_ok (Nat.le_of_ble_eq_true rfl) ?_
 refine Snd.go C_ok plans290 (by kernel_rfl) ?_
 refine ⟨((la:Nat):Int),by (try dsimp only); rw [fit ⟨by omega,by omega⟩]; omega,?_⟩
 refine brE_dec (fun c1 => ?_) (fun c1 => ?_)
 ·-- one element on the left
  have c1:M1.length = 1:=by have:((la:Nat):Int) = 1:=c1; omega
  obtain ⟨x,rfl⟩:∃ x,M1 = [x]:=List.length_eq_one_iff.1 c1
  have ix:a < n:=by omega
  refine loopE C_ok (fun (p:Nat × Nat) => [(0,.slice A n c),(1,.int .i64 (a:Nat)),(2,.int .i64 (m:Nat)),(3,.int .i64 (b:Nat)),(4,.func (.func gd) #[] cb),(10,.int .i64 ((m + p.1:Nat):Int)),(11,.int .i64 ((m + p.2:Nat):Int))])
   (fun p w' => p.1 <= p.2 ∧ p.2 <= M2.length ∧ (∀ t (ht:t < M2.length),t < p.1 -> lt M2[t] x = true) ∧ (∀ t (ht:t < M2.length),p.2 <= t -> lt M2[t] x = false) ∧ RowI B w' (.slice A n c) (P ++ ([x] ++ (M2 ++ S))) ∧ Below B w w') (fun p => p.2 - p.1) (0,M2.length)
   ⟨rfl,rfl,rfl,rfl,rfl,rfl,congrArg (fun q:Nat => some (Value.int IntKind.i64 ((q:Nat):Int))) hb,trivial⟩
   ⟨Nat.zero_le _,Nat.le_refl _,(fun t _ h => absurd h (Nat.not_lt_zero _)),(fun t ht h => absurd ht (Nat.not_lt.2 h)),ho,Below.refl _ _⟩ ?_
  rintro ⟨p,q⟩ w1 ⟨hpq',hq',hy',hno',ho',b1⟩
  have hpq:p <= q:=hpq'
  have hq:q <= M2.length:=hq'
  have hy:∀ t (ht:t < M2.length),t < p -> lt M2[t] x = true:=hy'
  have hno:∀ t (ht:t < M2.length),q <= t -> lt M2[t] x = false:=hno'
  have ho1:RowI B w1 (.slice A n c) (P ++ ([x] ++ (M2 ++ S))):=ho'
  clear hpq' hq' hy' hno' ho'
  refine brE_dec (fun hlt => ?_) (fun hge => ?_)
  ·have hlt:p < q:=by have:((m + p:Nat):Int) < (m + q:Nat):=hlt; omega
   obtain ⟨h,hh⟩:∃ h,h = (p + q) / 2:=⟨_,rfl⟩
   have hhl:h < M2.length:=by omega
   have eh:(m + p + (m + q)) / 2 = m + h:=by rw [hh]; exact half_sum
   have ih1:m + h < n:=by omega
   obtain ⟨g1,hA1,_,hr1,_⟩:=rowI_at ho1 (i:=m + h) (by rw [<-rowI_n ho1]; exact ih1)
   obtain ⟨g0,hA0,_,hr0,_⟩:=rowI_at ho1 (i:=a) (by rw [<-rowI_n ho1]; exact ix)
   rw [get_app1 hhl (by rw [c1]; omega)] at hr1
   rw [get_app0 (t:=0) (by simp) (by omega)] at hr0
   refine ⟨((m + p + (m + q):Nat):Int),by (try dsimp only); rw [fit ⟨by omega,by omega⟩]; omega,?_⟩
   refine ⟨((m + p + (m + q):Nat):Int),IntWalk.u64_in _ ⟨by omega,by omega⟩,?_⟩
   refine ⟨.int .u64 (((m + p + (m + q)) / 2:Nat):Int),fun w => ?_,⟨by decide,by decide⟩,?_⟩
   ·rw [binOp_shr,shift_shr_u64 _ _ _ (by decide) (by decide)]; simp
   rw [eh]
   refine ⟨((m + h:Nat):Int),by (try dsimp only); exact fit ⟨by omega,by omega⟩,?_⟩
   refine ⟨m + h,g1,0,rfl,ih1,hA1,?_⟩
   refine ⟨_,hr1 0 _ rfl,?_⟩
   refine ⟨a,g0,0,rfl,ix,hA0,?_⟩
   refine ⟨_,hr0 0 _ rfl,?_⟩
   refine brE_true hgd ?_
   refine (hcmp M2[h] x w1 b1 (hok x (by simp) _ (List.getElem_mem _))).mono ?_
   rintro v w2 ⟨⟨z,rfl,hz⟩,e2⟩
   have ho2:=ho1.ext e2
   have b2:Below B w w2:=b1.trans (e2.mono (Nat.le_trans hB b1.size))
   refine brE_dec (fun hc => ?_) (fun hc => ?_)
   ·have hc:z < 0:=hc
    have hl:=hz.1 hc
    refine ⟨((m + (h + 1):Nat):Int),by (try dsimp only); rw [fit ⟨by omega,by omega⟩]; omega,?_⟩
    exact ⟨(h + 1,q),⟨rfl,rfl,rfl,rfl,rfl,rfl,rfl,trivial⟩,⟨by show h + 1 <= q; omega,hq,fun t ht htl => search_yes O s2 hhl hl (by have:t < h + 1:=htl; omega),hno,ho2,b2⟩,by show q - (h + 1) < q - p; omega⟩
   ·have hc:¬ z < 0:=hc
    have hl:lt M2[h] x = false:=by
     cases e:lt M2[h] x with
     | false => rfl
     | true => exact absurd (hz.2 e) hc
    exact ⟨(p,h),⟨rfl,rfl,rfl,rfl,rfl,rfl,rfl,trivial⟩,⟨by show p <= h; omega,by show h <= M2.length; omega,hy,fun t ht htl => search_no O s2 hhl hl htl ht,ho2,b2⟩,by show h - p < q - p; omega⟩
  ·have hpe:p = q:=by have:¬ ((m + p:Nat):Int) < (m + q:Nat):=hge; omega
   subst hpe
   refine loopE C_ok (fun (r:Nat) => [(0,.slice A n c),(10,.int .i64 ((m + p:Nat):Int)),(13,.int .i64 ((a + r:Nat):Int))])
    (fun r w' => r <= p ∧ RowI B w' (.slice A n c) (P ++ (M2.take r ++ x :: (M2.drop r ++ S))) ∧ Below B w w') (fun r => p - r) 0 ⟨rfl,rfl,rfl,trivial⟩
    ⟨Nat.zero_le _,ho1,b1⟩ ?_
   rintro r w2 ⟨hr,ho2,b2⟩
   refine ⟨((a + p:Nat):Int),by (try dsimp only); rw [fit ⟨by omega,by omega⟩]; omega,?_⟩
   refine brE_dec (fun hlt => ?_) (fun hge => ?_)
   ·have hlt:r < p:=by have:((a + r:Nat):Int) < (a + p:Nat):=hlt; omega
    have hrl:r < M2.length:=by omega
    obtain ⟨y,hye⟩:∃ y,y = M2[r]:=⟨_,rfl⟩
    have hd:M2.drop r = y :: M2.drop (r + 1):=by rw [hye]; exact List.drop_eq_getElem_cons hrl
    have ht:M2.take (r + 1) = M2.take r ++ [y]:=by rw [hye]; exact List.take_succ_eq_append_getElem hrl
    obtain ⟨P1,hP1⟩:∃ P1,P1 = P ++ M2.take r:=⟨_,rfl⟩
    obtain ⟨S1,hS1⟩:∃ S1,S1 = M2.drop (r + 1) ++ S:=⟨_,rfl⟩
    have e1:P ++ (M2.take r ++ x :: (M2.drop r ++ S)) = P1 ++ x :: y :: S1:=by rw [hd,hP1,hS1]; simp
    have e2:P1 ++ y :: x :: S1 = P ++ (M2.take (r + 1) ++ x :: (M2.drop (r + 1) ++ S)):=by rw [ht,hP1,hS1]; simp
    rw [e1] at ho2
    have hPl:P1.length = a + r:=by rw [hP1,List.length_append,List.length_take]; omega
    have hi0:P1.length < (P1 ++ x :: y :: S1).length:=by simp only [List.length_append,List.length_cons]; omega
    have hi1:P1.length + 1 < (P1 ++ x :: y :: S1).length:=by simp only [List.length_append,List.length_cons]; omega
    have l0:a + r < n:=by omega
    have l1:a + r + 1 < n:=by omega
    obtain ⟨g1,hA1,_,hr1,_⟩:=rowI_at ho2 hi1
    obtain ⟨g0,hA0,_,hr0,_⟩:=rowI_at ho2 hi0
    rw [get_adj1 hi1,hPl] at hr1
    rw [get_adj0 hi0,hPl] at hr0
    obtain ⟨g,cur,hA,hg,hb1,hput⟩:=rowI_swap ho2 hi0 hi1
    rw [get_adj1 hi1,get_adj0 hi0,swap_adj',hPl] at hput
    rw [hPl] at hb1
    have ad:IntKind.i64.wrap (((a + r:Nat):Int) + 1) = ((a + r + 1:Nat):Int):=by (try dsimp only); rw [fit ⟨by omega,by omega⟩]; omega
    refine ⟨((a + r + 1:Nat):Int),ad,?_⟩
    refine ⟨((a + r + 1:Nat):Int),ad,?_⟩
    refine ⟨a + r + 1,g1,0,rfl,l1,hA1,?_⟩
    refine ⟨_,hr1 0 _ rfl,?_⟩
    refine ⟨a + r,g0,0,rfl,l0,hA0,?_⟩
    refine ⟨_,hr0 0 _ rfl,?_⟩
    refine ⟨a + r,g,0,rfl,l0,hA,?_⟩
    refine ⟨rfl,_,_,hg,hb1,rfl,?_⟩
    intro w3 h3
    obtain ⟨cur1,hg1,hb2,hput2⟩:=hput w3 h3
    refine ⟨a + r + 1,g,0,rfl,l1,hA,?_⟩
    refine ⟨rfl,_,_,hg1,hb2,rfl,?_⟩
    intro w4 h4
    obtain ⟨ho4,b4⟩:=hput2 w4 h4
    rw [e2] at ho4
    refine ⟨((a + (r + 1):Nat):Int),by (try dsimp only); rw [fit ⟨by omega,by omega⟩]; omega,?_⟩
    exact ⟨r + 1,⟨rfl,rfl,rfl,trivial⟩,⟨hlt,ho4,b2.trans b4⟩,by show p - (r + 1) < p - r; omega⟩
   ·have hrp:r = p:=by have:¬ ((a + r:Nat):Int) < (a + p:Nat):=hge; omega
    subst hrp
    refine ⟨M2.take r ++ x :: M2.drop r,?_,merge_one O s2 hy hno,?_,b2⟩
    ·refine List.perm_middle.trans ?_
     rw [List.take_append_drop]
     exact List.Perm.refl _
    ·have:(M2.take r ++ x :: M2.drop r) ++ S = M2.take r ++ x :: (M2.drop r ++ S):=by simp
     rw [this]; exact ho2
 have c1:¬ la = 1:=by have:¬ ((la:Nat):Int) = 1:=c1; omega
 refine ⟨Snd.go C_ok plans290 (by kernel_rfl) ?_⟩
 refine ⟨((lb:Nat):Int),by (try dsimp only); rw [fit ⟨by omega,by omega⟩]; omega,?_⟩
 refine brE_dec (fun c2 => ?_) (fun c2 => ?_)
 ·-- one element on the right
  have c2:M2.length = 1:=by have:((lb:Nat):Int) = 1:=c2; omega
  obtain ⟨y,rfl⟩:∃ y,M2 = [y]:=List.length_eq_one_iff.1 c2
  have iy:m < n:=by omega
  refine loopE C_ok (fun (p:Nat × Nat) => [(0,.slice A n c),(1,.int .i64 (a:Nat)),(2,.int .i64 (m:Nat)),(3,.int .i64 (b:Nat)),(4,.func (.func gd) #[] cb),(14,.int .i64 ((a + p.1:Nat):Int)),(15,.int .i64 ((a + p.2:Nat):Int))])
   (fun p w' => p.1 <= p.2 ∧ p.2 <= M1.length ∧ (∀ t (ht:t < M1.length),t < p.1 -> lt y M1[t] = false) ∧ (∀ t (ht:t < M1.length),p.2 <= t -> lt y M1[t] = true) ∧ RowI B w' (.slice A n c) (P ++ (M1 ++ ([y] ++ S))) ∧ Below B w w') (fun p => p.2 - p.1) (0,M1.length)
   ⟨rfl,rfl,rfl,rfl,rfl,rfl,congrArg (fun q:Nat => some (Value.int IntKind.i64 ((q:Nat):Int))) hm,trivial⟩
   ⟨Nat.zero_le _,Nat.le_refl _,(fun t _ h => absurd h (Nat.not_lt_zero _)),(fun t ht h => absurd ht (Nat.not_lt.2 h)),ho,Below.refl _ _⟩ ?_
  rintro ⟨p,q⟩ w1 ⟨hpq',hq',hy',hno',ho',b1⟩
  have hpq:p <= q:=hpq'
  have hq:q <= M1.length:=hq'
  have hy:∀ t (ht:t < M1.length),t < p -> lt y M1[t] = false:=hy'
  have hno:∀ t (ht:t < M1.length),q <= t -> lt y M1[t] = true:=hno'
  have ho1:RowI B w1 (.slice A n c) (P ++ (M1 ++ ([y] ++ S))):=ho'
  clear hpq' hq' hy' hno' ho'
  refine brE_dec (fun hlt => ?_) (fun hge => ?_)
  ·have hlt:p < q:=by have:((a + p:Nat):Int) < (a + q:Nat):=hlt; omega
   obtain ⟨h,hh⟩:∃ h,h = (p + q) / 2:=⟨_,rfl⟩
   have hhl:h < M1.length:=by omega
   have eh:(a + p + (a + q)) / 2 = a + h:=by rw [hh]; exact half_sum
   have ih1:a + h < n:=by omega
   obtain ⟨g1,hA1,_,hr1,_⟩:=rowI_at ho1 (i:=m) (by rw [<-rowI_n ho1]; exact iy)
   obtain ⟨g0,hA0,_,hr0,_⟩:=rowI_at ho1 (i:=a + h) (by rw [<-rowI_n ho1]; exact ih1)
   rw [get_app1 (t:=0) (by simp) (by omega)] at hr1
   rw [get_app0 hhl (by omega)] at hr0
   refine ⟨((a + p + (a + q):Nat):Int),by (try dsimp only); rw [fit ⟨by omega,by omega⟩]; omega,?_⟩
   refine ⟨((a + p + (a + q):Nat):Int),IntWalk.u64_in _ ⟨by omega,by omega⟩,?_⟩
   refine ⟨.int .u64 (((a + p + (a + q)) / 2:Nat):Int),fun w => ?_,⟨by decide,by decide⟩,?_⟩
   ·rw [binOp_shr,shift_shr_u64 _ _ _ (by decide) (by decide)]; simp
   rw [eh]
   refine ⟨((a + h:Nat):Int),by (try dsimp only); exact fit ⟨by omega,by omega⟩,?_⟩
   refine ⟨m,g1,0,rfl,iy,hA1,?_⟩
   refine ⟨_,hr1 0 _ rfl,?_⟩
   refine ⟨a + h,g0,0,rfl,ih1,hA0,?_⟩
   refine ⟨_,hr0 0 _ rfl,?_⟩
   refine brE_true hgd ?_
   refine (hcmp y M1[h] w1 b1 (hok _ (List.getElem_mem _) y (by simp))).mono ?_
   rintro v w2 ⟨⟨z,rfl,hz⟩,e2⟩
   have ho2:=ho1.ext e2
   have b2:Below B w w2:=b1.trans (e2.mono (Nat.le_trans hB b1.size))
   refine brE_ndec (fun hc => ?_) (fun hc => ?_)
   ·have hc:¬ z < 0:=hc
    have hl:lt y M1[h] = false:=by
     cases e:lt y M1[h] with
     | false => rfl
     | true => exact absurd (hz.2 e) hc
    refine ⟨((a + (h + 1):Nat):Int),by (try dsimp only); rw [fit ⟨by omega,by omega⟩]; omega,?_⟩
    exact ⟨(h + 1,q),⟨rfl,rfl,rfl,rfl,rfl,rfl,rfl,trivial⟩,⟨by show h + 1 <= q; omega,hq,fun t ht htl => search_yes' O s1 hhl hl (by have:t < h + 1:=htl; omega),hno,ho2,b2⟩,by show q - (h + 1) < q - p; omega⟩
   ·have hc:z < 0:=hc
    have hl:=hz.1 hc
    exact ⟨(p,h),⟨rfl,rfl,rfl,rfl,rfl,rfl,rfl,trivial⟩,⟨by show p <= h; omega,by show h <= M1.length; omega,hy,fun t ht htl => search_no' O s1 hhl hl htl ht,ho2,b2⟩,by show h - p < q - p; omega⟩
  ·have hpe:p = q:=by have:¬ ((a + p:Nat):Int) < (a + q:Nat):=hge; omega
   subst hpe
   refine loopE C_ok (fun (r:Nat) => [(0,.slice A n c),(14,.int .i64 ((a + p:Nat):Int)),(17,.int .i64 ((a + r:Nat):Int))])
    (fun r w' => p <= r ∧ r <= M1.length ∧ RowI B w' (.slice A n c) (P ++ (M1.take r ++ y :: (M1.drop r ++ S))) ∧ Below B w w') (fun r => r) M1.length ⟨rfl,rfl,congrArg (fun q:Nat => some (Value.int IntKind.i64 ((q:Nat):Int))) hm,trivial⟩
    ⟨hq,Nat.le_refl _,by rw [List.take_length,List.drop_length]; exact ho1,b1⟩ ?_
   rintro r w2 ⟨hpr,hr,ho2,b2⟩
   refine brE_dec (fun hlt => ?_) (fun hge => ?_)
   ·have hlt:p < r:=by have:((a + r:Nat):Int) > (a + p:Nat):=hlt; omega
    obtain ⟨r,rfl⟩:∃ r',r = r' + 1:=⟨r - 1,by omega⟩
    have hrl:r < M1.length:=by omega
    obtain ⟨x,hxe⟩:∃ x,x = M1[r]:=⟨_,rfl⟩
    have hd:M1.drop r = x :: M1.drop (r + 1):=by rw [hxe]; exact List.drop_eq_getElem_cons hrl
    have ht:M1.take (r + 1) = M1.take r ++ [x]:=by rw [hxe]; exact List.take_succ_eq_append_getElem hrl
    obtain ⟨P1,hP1⟩:∃ P1,P1 = P ++ M1.take r:=⟨_,rfl⟩
    obtain ⟨S1,hS1⟩:∃ S1,S1 = M1.drop (r + 1) ++ S:=⟨_,rfl⟩
    have e1:P ++ (M1.take (r + 1) ++ y :: (M1.drop (r + 1) ++ S)) = P1 ++ x :: y :: S1:=by rw [ht,hP1,hS1]; simp
    have e2:P1 ++ y :: x :: S1 = P ++ (M1.take r ++ y :: (M1.drop r ++ S)):=by rw [hd,hP1,hS1]; simp
    rw [e1] at ho2
    have hPl:P1.length = a + r:=by rw [hP1,List.length_append,List.length_take]; omega
    have hi0:P1.length < (P1 ++ x :: y :: S1).length:=by simp only [List.length_append,List.length_cons]; omega
    have hi1:P1.length + 1 < (P1 ++ x :: y :: S1).length:=by simp only [List.length_append,List.length_cons]; omega
    have l0:a + r < n:=by omega
    have l1:a + (r + 1) < n:=by omega
    have hPl1:P1.length + 1 = a + (r + 1):=by omega
    obtain ⟨g1,hA1,_,hr1,_⟩:=rowI_at ho2 hi1
    obtain ⟨g0,hA0,_,hr0,_⟩:=rowI_at ho2 hi0
    rw [get_adj1 hi1,hPl1] at hr1
    rw [get_adj0 hi0,hPl] at hr0
    obtain ⟨g,cur,hA,hg,hb1,hput⟩:=rowI_swap ho2 hi1 hi0
    rw [get_adj1 hi1,get_adj0 hi0,swap_adj,hPl1,hPl] at hput
    rw [hPl1] at hb1
    have ad:IntKind.i64.wrap (((a + (r + 1):Nat):Int) - 1) = ((a + r:Nat):Int):=by (try dsimp only); rw [fit ⟨by omega,by omega⟩]; omega
    refine ⟨((a + r:Nat):Int),ad,?_⟩
    refine ⟨((a + r:Nat):Int),ad,?_⟩
    refine ⟨a + r,g0,0,rfl,l0,hA0,?_⟩
    refine ⟨_,hr0 0 _ rfl,?_⟩
    refine ⟨a + (r + 1),g1,0,rfl,l1,hA1,?_⟩
    refine ⟨_,hr1 0 _ rfl,?_⟩
    refine ⟨a + (r + 1),g,0,rfl,l1,hA,?_⟩
    refine ⟨rfl,_,_,hg,hb1,rfl,?_⟩
    intro w3 h3
    obtain ⟨cur1,hg1,hb2,hput2⟩:=hput w3 h3
    refine ⟨a + r,g,0,rfl,l0,hA,?_⟩
    refine ⟨rfl,_,_,hg1,hb2,rfl,?_⟩
    intro w4 h4
    obtain ⟨ho4,b4⟩:=hput2 w4 h4
    rw [e2] at ho4
    refine ⟨((a + r:Nat):Int),ad,?_⟩
    exact ⟨r,⟨rfl,rfl,rfl,trivial⟩,⟨by omega,by omega,ho4,b2.trans b4⟩,Nat.lt_succ_self r⟩
   ·have hrp:r = p:=by have:¬ ((a + r:Nat):Int) > (a + p:Nat):=hge; omega
    subst hrp
    refine ⟨M1.take r ++ y :: M1.drop r,?_,merge_one' O s1 hy hno,?_,b2⟩
    ·refine List.perm_middle.trans ?_
     rw [List.take_append_drop]
     exact (List.perm_append_singleton y M1).symm
    ·have:(M1.take r ++ y :: M1.drop r) ++ S = M1.take r ++ y :: (M1.drop r ++ S):=by simp
     rw [this]; exact ho2
 have c2:¬ lb = 1:=by have:¬ ((lb:Nat):Int) = 1:=c2; omega
 obtain ⟨H,hH⟩:∃ H,H = (la + lb) / 2:=⟨_,rfl⟩
 have emid:(a + b) / 2 = a + H:=by omega
 refine ⟨Snd.go C_ok plans290 (by kernel_rfl) ?_⟩
 refine ⟨((a + b:Nat):Int),by (try dsimp only); rw [fit ⟨by omega,by omega⟩]; omega,?_⟩
 refine ⟨((a + b:Nat):Int),IntWalk.u64_in _ ⟨by omega,by omega⟩,?_⟩
 refine ⟨.int .u64 (((a + b) / 2:Nat):Int),fun w => ?_,⟨by decide,by decide⟩,?_⟩
 ·rw [binOp_shr,shift_shr_u64 _ _ _ (by decide) (by decide)]; simp
 rw [emid]
 refine ⟨((a + H:Nat):Int),by (try dsimp only); exact fit ⟨by omega,by omega⟩,?_⟩
 refine ⟨Snd.go C_ok plans290 (by kernel_rfl) ?_⟩
 refine ⟨((a + H + m:Nat):Int),by (try dsimp only); rw [fit ⟨by omega,by omega⟩]; omega,?_⟩
 refine ⟨Snd.go C_ok plans290 (by kernel_rfl) ?_⟩
 refine ⟨Snd.join C_ok plans290 (fun (p:Nat × Nat) => [(0,.slice A n c),(1,.int .i64 (a:Nat)),(2,.int .i64 (m:Nat)),(3,.int .i64 (b:Nat)),(4,.func (.func gd) #[] cb),(18,.int .i64 ((a + H:Nat):Int)),(19,.int .i64 ((a + H + m:Nat):Int)),(20,.int .i64 ((a + p.1:Nat):Int)),(21,.int .i64 ((a + p.2:Nat):Int))])
  (fun p w' => w' = w ∧ p.1 <= p.2 ∧ p.2 <= la ∧ p.2 <= H ∧ H <= p.1 + lb ∧ (p.1 = 0 ∨ p.1 + lb = H) ∧ (p.2 = la ∨ p.2 = H)) (by kernel_rfl) ?_ ?_⟩
 ·refine brE_dec (fun c3 => ?_) (fun c3 => ?_)
  ·have c3:H < la:=by have:((m:Nat):Int) > (a + H:Nat):=c3; omega
   refine ⟨((a + (H - lb):Nat):Int),by (try dsimp only); rw [fit ⟨by omega,by omega⟩]; omega,?_⟩
   exact ⟨(H - lb,H),⟨rfl,rfl,rfl,rfl,rfl,rfl,rfl,rfl,rfl,trivial⟩,rfl,by show H - lb <= H; omega,by show H <= la; omega,Nat.le_refl _,by show H <= H - lb + lb; omega,.inr (by show H - lb + lb = H; omega),.inr rfl⟩
  ·have c3:la <= H:=by have:¬ ((m:Nat):Int) > (a + H:Nat):=c3; omega
   exact ⟨(0,la),⟨rfl,rfl,rfl,rfl,rfl,rfl,rfl,rfl,congrArg (fun q:Nat => some (Value.int IntKind.i64 ((q:Nat):Int))) (by show m = a + la; omega),trivial⟩,rfl,Nat.zero_le _,Nat.le_refl _,c3,by show H <= 0 + lb; omega,.inl rfl,.inl rfl⟩
 rintro ⟨lo,hi⟩ w0 ⟨rfl,f1',f2',f3',f4',f5',f6'⟩
 have f1:lo <= hi:=f1'
 have f2:hi <= la:=f2'
 have f3:hi <= H:=f3'
 have f4:H <= lo + lb:=f4'
 have f5:lo = 0 ∨ lo + lb = H:=f5'
 have f6:hi = la ∨ hi = H:=f6'
 clear f1' f2' f3' f4' f5' f6'
 refine Snd.go C_ok plans290 (by kernel_rfl) ?_
 refine ⟨((a + H + m - 1:Nat):Int),by (try dsimp only); rw [fit ⟨by omega,by omega⟩]; omega,?_⟩
 refine ⟨Snd.go C_ok plans290 (by kernel_rfl) ?_⟩
 refine loopE C_ok (fun (p:Nat × Nat) => [(0,.slice A n c),(1,.int .i64 (a:Nat)),(2,.int .i64 (m:Nat)),(3,.int .i64 (b:Nat)),(4,.func (.func gd) #[] cb),(18,.int .i64 ((a + H:Nat):Int)),(19,.int .i64 ((a + H + m:Nat):Int)),(20,.int .i64 ((a + p.1:Nat):Int)),(21,.int .i64 ((a + p.2:Nat):Int)),(22,.int .i64 ((a + H + m - 1:Nat):Int))])
  (fun p w' => lo <= p.1 ∧ p.1 <= p.2 ∧ p.2 <= hi ∧ (p.1 = lo ∨ ∀ (h1:p.1 - 1 < M1.length) (h2:H - p.1 < M2.length),lt M2[H - p.1] M1[p.1 - 1] = false) ∧ (p.2 = hi ∨ ∀ (h1:p.2 < M1.length) (h2:H - 1 - p.2 < M2.length),lt M2[H - 1 - p.2] M1[p.2] = true) ∧ RowI B w' (.slice A n c) (P ++ (M1 ++ (M2 ++ S))) ∧ Below B w0 w') (fun p => p.2 - p.1) (lo,hi)
  ⟨rfl,rfl,rfl,rfl,rfl,rfl,rfl,rfl,rfl,rfl,trivial⟩ ⟨Nat.le_refl _,f1,Nat.le_refl _,.inl rfl,.inl rfl,ho,Below.refl _ _⟩ ?_
 rintro ⟨u,v⟩ w1 ⟨g1',g2',g3',g4',g5',ho',b1⟩
 have q1:lo <= u:=g1'
 have q2:u <= v:=g2'
 have q3:v <= hi:=g3'
 have q4:u = lo ∨ ∀ (h1:u - 1 < M1.length) (h2:H - u < M2.length),lt M2[H - u] M1[u - 1] = false:=g4'
 have q5:v = hi ∨ ∀ (h1:v < M1.length) (h2:H - 1 - v < M2.length),lt M2[H - 1 - v] M1[v] = true:=g5'
 have ho1:RowI B w1 (.slice A n c) (P ++ (M1 ++ (M2 ++ S))):=ho'
 clear g1' g2' g3' g4' g5' ho'
 refine brE_dec (fun hlt => ?_) (fun hge => ?_)
 ·have hlt:u < v:=by have:((a + u:Nat):Int) < (a + v:Nat):=hlt; omega
  obtain ⟨h,hh⟩:∃ h,h = (u + v) / 2:=⟨_,rfl⟩
  have eh:(a + u + (a + v)) / 2 = a + h:=by rw [hh]; exact half_sum
  have hh1:h < M1.length:=by omega
  have hh2:H - 1 - h < M2.length:=by omega
  have i1:m + (H - 1 - h) < n:=by omega
  have i0:a + h < n:=by omega
  obtain ⟨g1,hA1,_,hr1,_⟩:=rowI_at ho1 (i:=m + (H - 1 - h)) (by rw [<-rowI_n ho1]; exact i1)
  obtain ⟨g0,hA0,_,hr0,_⟩:=rowI_at ho1 (i:=a + h) (by rw [<-rowI_n ho1]; exact i0)
  rw [get_app1 hh2 (by omega)] at hr1
  rw [get_app0 hh1 (by omega)] at hr0
  refine ⟨((a + u + (a + v):Nat):Int),by (try dsimp only); rw [fit ⟨by omega,by omega⟩]; omega,?_⟩
  refine ⟨((a + u + (a + v):Nat):Int),IntWalk.u64_in _ ⟨by omega,by omega⟩,?_⟩
  refine ⟨.int .u64 (((a + u + (a + v)) / 2:Nat):Int),fun w => ?_,⟨by decide,by decide⟩,?_⟩
  ·rw [binOp_shr,shift_shr_u64 _ _ _ (by decide) (by decide)]; simp
  rw [eh]
  refine ⟨((a + h:Nat):Int),by (try dsimp only); exact fit ⟨by omega,by omega⟩,?_⟩
  refine ⟨((m + (H - 1 - h):Nat):Int),by (try dsimp only); rw [fit ⟨by omega,by omega⟩]; omega,?_⟩
  refine ⟨m + (H - 1 - h),g1,0,rfl,i1,hA1,?_⟩
  refine ⟨_,hr1 0 _ rfl,?_⟩
  refine ⟨a + h,g0,0,rfl,i0,hA0,?_⟩
  refine ⟨_,hr0 0 _ rfl,?_⟩
  refine brE_true hgd ?_
  refine (hcmp M2[H - 1 - h] M1[h] w1 b1 (hok _ (List.getElem_mem _) _ (List.getElem_mem _))).mono ?_
  rintro v' w2 ⟨⟨z,rfl,hz⟩,e2⟩
  have ho2:=ho1.ext e2
  have b2:Below B w0 w2:=b1.trans (e2.mono (Nat.le_trans hB b1.size))
  refine brE_ndec (fun hc => ?_) (fun hc => ?_)
  ·have hc:¬ z < 0:=hc
   have hl:lt M2[H - 1 - h] M1[h] = false:=by
    cases e:lt M2[H - 1 - h] M1[h] with
    | false => rfl
    | true => exact absurd (hz.2 e) hc
   refine ⟨((a + (h + 1):Nat):Int),by (try dsimp only); rw [fit ⟨by omega,by omega⟩]; omega,?_⟩
   refine ⟨(h + 1,v),⟨rfl,rfl,rfl,rfl,rfl,rfl,rfl,rfl,rfl,rfl,trivial⟩,⟨by show lo <= h + 1; omega,by show h + 1 <= v; omega,q3,.inr ?_,q5,ho2,b2⟩,by show v - (h + 1) < v - u; omega⟩
   show ∀ (h1:h + 1 - 1 < M1.length) (h2:H - (h + 1) < M2.length),lt M2[H - (h + 1)] M1[h + 1 - 1] = false
   intro _ _
   have ee:H - (h + 1) = H - 1 - h:=by omega
   simp only [ee,Nat.add_sub_cancel]
   exact hl
  ·have hc:z < 0:=hc
   have hl:=hz.1 hc
   exact ⟨(u,h),⟨rfl,rfl,rfl,rfl,rfl,rfl,rfl,rfl,rfl,rfl,trivial⟩,⟨q1,by show u <= h; omega,by show h <= hi; omega,q4,.inr fun _ _ => hl,ho2,b2⟩,by show h - u < v - u; omega⟩
 have huv:u = v:=by have:¬ ((a + u:Nat):Int) < (a + v:Nat):=hge; omega
 subst huv
 clear hge
 obtain ⟨A1,hA1⟩:∃ A1,A1 = M1.take u:=⟨_,rfl⟩
 obtain ⟨A2,hA2⟩:∃ A2,A2 = M1.drop u:=⟨_,rfl⟩
 obtain ⟨B1,hB1⟩:∃ B1,B1 = M2.take (H - u):=⟨_,rfl⟩
 obtain ⟨B2,hB2⟩:∃ B2,B2 = M2.drop (H - u):=⟨_,rfl⟩
 have hMA:M1 = A1 ++ A2:=by rw [hA1,hA2,List.take_append_drop]
 have hMB:M2 = B1 ++ B2:=by rw [hB1,hB2,List.take_append_drop]
 have lA1:A1.length = u:=by rw [hA1,List.length_take]; omega
 have lA2:A2.length = la - u:=by rw [hA2,List.length_drop,hla]
 have lB1:B1.length = H - u:=by rw [hB1,List.length_take]; omega
 have lB2:B2.length = lb - (H - u):=by rw [hB2,List.length_drop,hlb]
 have sA:=s1
 rw [hMA] at sA
 have sB:=s2
 rw [hMB] at sB
 obtain ⟨sA1,sA2,_⟩:=List.pairwise_append.1 sA
 obtain ⟨sB1,sB2,_⟩:=List.pairwise_append.1 sB
 have hle:∀ x ∈ A1,∀ y ∈ B2,lt y x = false:=by
  intro x hx y hy
  rw [hA1] at hx
  rw [hB2] at hy
  obtain ⟨t,ht,htu,rfl⟩:=mem_take_at hx
  obtain ⟨r,hr,hru,rfl⟩:=mem_drop_at hy
  rcases q4 with e | q4
  ·rcases f5 with f5 | f5 <;> omega
  ·have h1:=q4 (by omega) (by omega)
   have h3:=sorted_le O s1 ht (by omega:u - 1 < M1.length) (by omega)
   have h4:=sorted_le O s2 (by omega:H - u < M2.length) hr hru
   exact O.ntr _ _ _ (O.ntr _ _ _ h3 h1) h4
 have hgt:∀ x ∈ B1,∀ y ∈ A2,lt y x = false:=by
  intro x hx y hy
  rw [hB1] at hx
  rw [hA2] at hy
  obtain ⟨t,ht,htu,rfl⟩:=mem_take_at hx
  obtain ⟨r,hr,hru,rfl⟩:=mem_drop_at hy
  rcases q5 with e | q5
  ·rcases f6 with f6 | f6 <;> omega
  ·have h1:=O.asym _ _ (q5 (by omega) (by omega))
   have h3:=sorted_le O s2 ht (by omega:H - 1 - u < M2.length) (by omega)
   have h4:=sorted_le O s1 (by omega:u < M1.length) hr hru
   exact O.ntr _ _ _ (O.ntr _ _ _ h3 h1) h4
 have e1:P ++ (M1 ++ (M2 ++ S)) = (P ++ A1) ++ (A2 ++ (B1 ++ (B2 ++ S))):=by rw [hMA,hMB]; simp
 have e2:(P ++ A1) ++ (B1 ++ (A2 ++ (B2 ++ S))) = P ++ (A1 ++ (B1 ++ (A2 ++ (B2 ++ S)))):=by simp
 rw [e1] at ho1
 refine ⟨Snd.go C_ok plans290 (by kernel_rfl) ?_⟩
 refine ⟨((m + (H - u):Nat):Int),by (try dsimp only); rw [fit ⟨by omega,by omega⟩]; omega,?_⟩
 refine ⟨Snd.join C_ok plans290 (fun (_:Unit) => [(0,.slice A n c),(1,.int .i64 (a:Nat)),(3,.int .i64 (b:Nat)),(4,.func (.func gd) #[] cb),(18,.int .i64 ((a + H:Nat):Int)),(20,.int .i64 ((a + u:Nat):Int)),(24,.int .i64 ((m + (H - u):Nat):Int))])
  (fun _ w' => RowI B w' (.slice A n c) (P ++ (A1 ++ (B1 ++ (A2 ++ (B2 ++ S))))) ∧ Below B w0 w') (by kernel_rfl) ?_ ?_⟩
 ·refine brE_dec (fun d1 => ?_) (fun d1 => ?_)
  ·have d1:u < la:=by have:((a + u:Nat):Int) < (m:Nat):=d1; omega
   refine brE_dec (fun d2 => ?_) (fun d2 => ?_)
   ·have d2:0 < H - u:=by have:((m:Nat):Int) < (m + (H - u):Nat):=d2; omega
    refine (rotate_spec (a:=a + u) (m:=m) (b:=m + (H - u)) ho1 hn (by rw [List.length_append]; omega) (by omega) (by omega) (by omega) (by omega)).mono ?_
    rintro _ w2 ⟨ho2,b2⟩
    rw [e2] at ho2
    exact ⟨(),⟨rfl,rfl,rfl,rfl,rfl,rfl,rfl,trivial⟩,ho2,b1.trans b2⟩
   ·have d2:B1 = []:=List.length_eq_zero_iff.1 (by have:¬ ((m:Nat):Int) < (m + (H - u):Nat):=d2; omega)
    refine ⟨(),⟨rfl,rfl,rfl,rfl,rfl,rfl,rfl,trivial⟩,?_,b1⟩
    rw [<-e2]
    rw [d2] at ho1 ⊢
    exact ho1
  ·have d1:A2 = []:=List.length_eq_zero_iff.1 (by have:¬ ((a + u:Nat):Int) < (m:Nat):=d1; omega)
   refine ⟨(),⟨rfl,rfl,rfl,rfl,rfl,rfl,rfl,trivial⟩,?_,b1⟩
   rw [<-e2]
   rw [d1] at ho1 ⊢
   exact ho1
 rintro _ w2 ⟨ho2,b2⟩
 refine Snd.join C_ok plans290 (fun (_:List Int) => [(0,.slice A n c),(3,.int .i64 (b:Nat)),(4,.func (.func gd) #[] cb),(18,.int .i64 ((a + H:Nat):Int)),(24,.int .i64 ((m + (H - u):Nat):Int))])
  (fun X w' => X.Perm (A1 ++ B1) ∧ SortedB lt X ∧ RowI B w' (.slice A n c) (P ++ (X ++ (A2 ++ (B2 ++ S)))) ∧ Below B w0 w') (by kernel_rfl) ?_ ?_
 ·refine brE_dec (fun d1 => ?_) (fun d1 => ?_)
  ·have d1:0 < u:=by have:((a:Nat):Int) < (a + u:Nat):=d1; omega
   refine brE_dec (fun d2 => ?_) (fun d2 => ?_)
   ·have d2:u < H:=by have:((a + u:Nat):Int) < (a + H:Nat):=d2; omega
    refine (ih (a:=a) (m:=a + u) (b:=a + H) (P:=P) (M1:=A1) (M2:=B1) (S:=A2 ++ (B2 ++ S)) (by omega) ho2 (Nat.le_trans hB b2.size) ha (by omega) (by omega) (by omega) (by omega) sA1 sB1 (hcmp.later b2) (fun y hy x hx => hok y (by rw [hMA]; exact List.mem_append_left _ hy) x (by rw [hMB]; exact List.mem_append_left _ hx))).mono ?_
    rintro _ w3 ⟨X,hp,hs,ho3,b3⟩
    exact ⟨X,⟨rfl,rfl,rfl,rfl,rfl,trivial⟩,hp,hs,ho3,b2.trans b3⟩
   ·have d2:B1 = []:=List.length_eq_zero_iff.1 (by have:¬ ((a + u:Nat):Int) < (a + H:Nat):=d2; omega)
    refine ⟨A1,⟨rfl,rfl,rfl,rfl,rfl,trivial⟩,by rw [d2,List.append_nil],sA1,?_,b2⟩
    rw [d2] at ho2
    exact ho2
  ·have d1:A1 = []:=List.length_eq_zero_iff.1 (by have:¬ ((a:Nat):Int) < (a + u:Nat):=d1; omega)
   refine ⟨B1,⟨rfl,rfl,rfl,rfl,rfl,trivial⟩,by rw [d1]; exact List.Perm.refl _,sB1,?_,b2⟩
   rw [d1] at ho2
   exact ho2
 rintro X w3 ⟨hXp,hXs,ho3,b3⟩
 have lX:X.length = H:=by rw [hXp.length_eq,List.length_append]; omega
 have fin:∀ (Y:List Int) (w4:World),Y.Perm (A2 ++ B2) -> SortedB lt Y -> RowI B w4 (.slice A n c) ((P ++ X) ++ (Y ++ S)) -> Below B w0 w4 -> ∃ M',M'.Perm (M1 ++ M2) ∧ SortedB lt M' ∧ RowI B w4 (.slice A n c) (P ++ (M' ++ S)) ∧ Below B w0 w4:=by
  intro Y w4 hYp hYs ho4 b4
  obtain ⟨r1,r2⟩:=merge_halves (lt:=lt) hle hgt sA sB hXs hXp hYs hYp
  refine ⟨X ++ Y,by rw [hMA,hMB]; exact r2,r1,?_,b4⟩
  have:P ++ ((X ++ Y) ++ S) = (P ++ X) ++ (Y ++ S):=by simp
  rw [this]; exact ho4
 have e3:P ++ (X ++ (A2 ++ (B2 ++ S))) = (P ++ X) ++ (A2 ++ (B2 ++ S)):=by simp
 rw [e3] at ho3
 refine Snd.fin C_ok (plans:=plans290) (by kernel_rfl) ?_
 refine brE_dec (fun d1 => ?_) (fun d1 => ?_)
 ·have d1:u < la:=by have:((a + H:Nat):Int) < (m + (H - u):Nat):=d1; omega
  refine brE_dec (fun d2 => ?_) (fun d2 => ?_)
  ·have d2:0 < B2.length:=by have:((m + (H - u):Nat):Int) < (b:Nat):=d2; omega
   refine (ih (a:=a + H) (m:=m + (H - u)) (b:=b) (P:=P ++ X) (M1:=A2) (M2:=B2) (S:=S) (by omega) ho3 (Nat.le_trans hB b3.size) (by rw [List.length_append]; omega) (by omega) (by omega) (by omega) d2 sA2 sB2 (hcmp.later b3) (fun y hy x hx => hok y (by rw [hMA]; exact List.mem_append_right _ hy) x (by rw [hMB]; exact List.mem_append_right _ hx))).mono ?_
   rintro _ w4 ⟨Y,hp,hs,ho4,b4⟩
   exact fin Y w4 hp hs ho4 (b3.trans b4)
  ·have d2:B2 = []:=List.length_eq_zero_iff.1 (by have:¬ ((m + (H - u):Nat):Int) < (b:Nat):=d2; omega)
   refine fin A2 w3 (by rw [d2,List.append_nil]) sA2 ?_ b3
   rw [d2] at ho3
   exact ho3
 ·have d1:A2 = []:=List.length_eq_zero_iff.1 (by have:¬ ((a + H:Nat):Int) < (m + (H - u):Nat):=d1; omega)
  refine fin B2 w3 (by rw [d1]; exact List.Perm.refl _) sB2 ?_ b3
  rw [d1] at ho3
  exact ho3
end Go.Proofs.YtigapannpbaihaaGreat.Rk
namespace Go.Proofs.YtigapannpbaihaaGreat.Rk
open Go.Eng Go.RowKit
abbrev Cross (ok:Int -> Int -> Prop) (R1 R2:List Int):Prop:=∀ y ∈ R1,∀ x ∈ R2,ok x y
abbrev OkRuns (ok:Int -> Int -> Prop) (Ls:List (List Int)):Prop:=Ls.Pairwise (Cross ok)
theorem okRuns_cross {ok:Int -> Int -> Prop} {Ns Q:List (List Int)} {R1 R2:List Int} (h:OkRuns ok (Ns ++ (R1 :: R2 :: Q))):Cross ok R1 R2:=(List.pairwise_cons.1 (List.pairwise_append.1 h).2.1).1 R2 (by simp)
theorem okRuns_merge {ok:Int -> Int -> Prop} {Ns Q:List (List Int)} {R1 R2 X:List Int} (h:OkRuns ok (Ns ++ (R1 :: R2 :: Q))) (hX:X.Perm (R1 ++ R2)):OkRuns ok ((Ns ++ [X]) ++ Q):=by
 obtain ⟨a,b,c⟩:=List.pairwise_append.1 h
 obtain ⟨b1,b2⟩:=List.pairwise_cons.1 b
 obtain ⟨b3,b4⟩:=List.pairwise_cons.1 b2
 have mem:∀ {z},z ∈ X -> z ∈ R1 ∨ z ∈ R2:=fun hz => List.mem_append.1 (hX.mem_iff.1 hz)
 rw [List.append_assoc,List.singleton_append]
 refine List.pairwise_append.2 ⟨a,List.pairwise_cons.2 ⟨fun L hL y hy x hx => ?_,b4⟩,fun L hL L' hL' y hy x hx => ?_⟩
 ·rcases mem hy with h | h
  ·exact b1 L (by simp [hL]) y h x hx
  ·exact b3 L hL y h x hx
 ·rcases List.mem_cons.1 hL' with rfl | hL'
  ·rcases mem hx with h | h
   ·exact c L hL R1 (by simp) y hy x h
   ·exact c L hL R2 (by simp) y hy x h
  ·exact c L hL L' (by simp [hL']) y hy x hx
theorem okRuns_last {ok:Int -> Int -> Prop} {Rs:List (List Int)} {T T':List Int} (h:OkRuns ok (Rs ++ [T])) (hT:T'.Perm T):OkRuns ok (Rs ++ [T']):=by
 obtain ⟨a,b,c⟩:=List.pairwise_append.1 h
 refine List.pairwise_append.2 ⟨a,List.pairwise_singleton _ _,fun L hL L' hL' y hy x hx => ?_⟩
 rw [List.mem_singleton.1 hL'] at hx
 exact c L hL T (by simp) y hy x (hT.mem_iff.1 hx)
theorem okRuns_take {ok:Int -> Int -> Prop} {Rs:List (List Int)} {rest X:List Int} {k:Nat} (h:OkRuns ok (Rs ++ [rest])) (hr:OkL ok rest) (hX:X.Perm (rest.take k)):OkRuns ok ((Rs ++ [X]) ++ [rest.drop k]):=by
 obtain ⟨a,b,c⟩:=List.pairwise_append.1 h
 have hr2:OkL ok (rest.take k ++ rest.drop k):=by rw [List.take_append_drop]; exact hr
 have mX:∀ {z},z ∈ X -> z ∈ rest.take k:=fun hz => hX.mem_iff.1 hz
 rw [List.append_assoc,List.singleton_append]
 refine List.pairwise_append.2 ⟨a,List.pairwise_cons.2 ⟨fun L hL y hy x hx => ?_,List.pairwise_singleton _ _⟩,fun L hL L' hL' y hy x hx => ?_⟩
 ·rw [List.mem_singleton.1 hL] at hx
  exact (List.pairwise_append.1 hr2).2.2 y (mX hy) x hx
 ·rcases List.mem_cons.1 hL' with rfl | hL'
  ·exact c L hL rest (by simp) y hy x (List.mem_of_mem_take (mX hx))
  ·rw [List.mem_singleton.1 hL'] at hx
   exact c L hL rest (by simp) y hy x (List.mem_of_mem_drop hx)
set_option maxRecDepth 100000 in
set_option maxHeartbeats 4000000 in
theorem stable_spec {B:Nat} {w:World} {A:Option Addr} {n c gd:Nat} {cb:Array Value} {lt:Int -> Int -> Bool} {ok:Int -> Int -> Prop} {M:List Int} (ho:RowI B w (.slice A n c) M) (hB:B <= w.heap.size) (hn:n <= 2 ^ 20) (hgd:C.can gd = true) (hcmp:CmpW B w gd cb ok lt) (hok:OkL ok M) (O:OrdB lt) :
  CallsV C.P 264 #[.slice A n c,.int .i64 (n:Nat),.func (.func gd) #[] cb] w fun _ w' => ∃ M',M'.Perm M ∧ SortedB lt M' ∧ RowI B w' (.slice A n c) M' ∧ Below B w w':=by
 refine callsV_ofS (args:=[_,_,_]) Tryz.func264 rfl Tryz.ntmps264 C_ok (Nat.le_of_ble_eq_true rfl) ?_
 refine Snd.go C_ok [] (by kernel_rfl) ?_
 refine ⟨Snd.go C_ok [] (by kernel_rfl) ?_⟩
 refine ⟨Snd.go C_ok [] (by kernel_rfl) ?_⟩
 refine loopE C_ok (fun (p:List (List Int) × List Int) => [(0,.slice A n c),(1,.int .i64 (n:Nat)),(2,.func (.func gd) #[] cb),(6,.int .i64 20),(7,.int .i64 ((p.1.flatten.length:Nat):Int)),(8,.int .i64 ((p.1.flatten.length + 20:Nat):Int))])
  (fun p w' => (OkRuns ok (p.1 ++ [p.2]) ∧ OkL ok p.2) ∧ (∀ R ∈ p.1,R.length = 20 ∧ SortedB lt R) ∧ (p.1.flatten ++ p.2).Perm M ∧ RowI B w' (.slice A n c) (p.1.flatten ++ p.2) ∧ Below B w w') (fun p => p.2.length) ([],M) ⟨rfl,rfl,rfl,rfl,rfl,rfl,trivial⟩
  ⟨⟨List.pairwise_singleton _ _,hok⟩,(fun R h => by cases h),List.Perm.refl _,ho,Below.refl _ _⟩ ?_
 rintro ⟨Rs,rest⟩ w1 ⟨hK',hR',hp',ho',b1⟩
 have hK:OkRuns ok (Rs ++ [rest]) ∧ OkL ok rest:=hK'
 have hR:∀ R ∈ Rs,R.length = 20 ∧ SortedB lt R:=hR'
 have hp:(Rs.flatten ++ rest).Perm M:=hp'
 have ho1:RowI B w1 (.slice A n c) (Rs.flatten ++ rest):=ho'
 clear hR' hp' ho' hK'
 have hl1:=rowI_n ho1
 rw [List.length_append] at hl1
 refine brE_dec (fun hle => ?_) (fun hgt => ?_)
 ·have hle:Rs.flatten.length + 20 <= n:=by have:((Rs.flatten.length + 20:Nat):Int) <= (n:Nat):=hle; omega
  have ho2:RowI B w1 (.slice A n c) (Rs.flatten ++ (rest.take 20 ++ rest.drop 20)):=by rw [List.take_append_drop]; exact ho1
  have hl20:(rest.take 20).length = 20:=by rw [List.length_take]; omega
  refine (insSort_spec (a:=Rs.flatten.length) (b:=Rs.flatten.length + 20) ho2 (Nat.le_trans hB b1.size) (by omega) rfl (by omega) hgd (hcmp.later b1) (hK.2.sublist (List.take_sublist _ _)) O).mono ?_
  rintro v w2 ⟨X,hXp,hXs,ho3,b2⟩
  have hXl:X.length = 20:=by rw [hXp.length_eq,hl20]
  refine ⟨((Rs.flatten.length + 20 + 20:Nat):Int),by (try dsimp only); rw [fit ⟨by omega,by omega⟩]; omega,?_⟩
  have hfl:(Rs ++ [X]).flatten = Rs.flatten ++ X:=by simp
  have hfn:(Rs ++ [X]).flatten.length = Rs.flatten.length + 20:=by rw [hfl,List.length_append,hXl]
  refine ⟨(Rs ++ [X],rest.drop 20),⟨rfl,rfl,rfl,rfl,congrArg (fun q:Nat => some (Value.int IntKind.i64 ((q:Nat):Int))) hfn.symm,congrArg (fun q:Nat => some (Value.int IntKind.i64 ((q + 20:Nat):Int))) hfn.symm,trivial⟩,⟨⟨okRuns_take hK.1 hK.2 hXp,hK.2.sublist (List.drop_sublist _ _)⟩,?_,?_,?_,b1.trans b2⟩,by show (rest.drop 20).length < rest.length; rw [List.length_drop]; omega⟩
  ·intro R h
   rcases List.mem_append.1 h with h | h
   ·exact hR R h
   ·rw [List.mem_singleton.1 h]; exact ⟨hXl,hXs⟩
  ·show ((Rs ++ [X]).flatten ++ rest.drop 20).Perm M
   rw [hfl,List.append_assoc]
   refine List.Perm.trans ?_ hp
   refine List.Perm.append_left _ ?_
   have:=hXp.append_right (rest.drop 20)
   rwa [List.take_append_drop] at this
  ·show RowI B w2 (.slice A n c) ((Rs ++ [X]).flatten ++ rest.drop 20)
   rw [hfl,List.append_assoc]; exact ho3
 have hlt:rest.length < 20:=by have:¬ ((Rs.flatten.length + 20:Nat):Int) <= (n:Nat):=hgt; omega
 refine ⟨Snd.go C_ok [] (by kernel_rfl) ?_⟩
 refine (insSort_spec (a:=Rs.flatten.length) (b:=n) (P:=Rs.flatten) (M:=rest) (S:=[]) (by rw [List.append_nil]; exact ho1) (Nat.le_trans hB b1.size) (by omega) rfl (by omega) hgd (hcmp.later b1) hK.2 O).mono ?_
 rintro v w2 ⟨T,hTp,hTs,ho2,b2⟩
 rw [List.append_nil] at ho2
 have hKT:=okRuns_last hK.1 hTp
 have hTl:T.length < 20:=by rw [hTp.length_eq]; exact hlt
 have hpT:(Rs.flatten ++ T).Perm M:=(List.Perm.append_left _ hTp).trans hp
 refine ⟨Snd.fin C_ok (plans:=[]) (by kernel_rfl) ?_⟩
 refine loopE C_ok (fun (p:Nat × List (List Int) × List Int) => [(0,.slice A n c),(1,.int .i64 (n:Nat)),(2,.func (.func gd) #[] cb),(6,.int .i64 ((p.1:Nat):Int))])
  (fun p w' => OkRuns ok (p.2.1 ++ [p.2.2]) ∧ 0 < p.1 ∧ p.1 <= 2 ^ 22 ∧ (∀ R ∈ p.2.1,R.length = p.1 ∧ SortedB lt R) ∧ p.2.2.length < p.1 ∧ SortedB lt p.2.2 ∧ (p.2.1.flatten ++ p.2.2).Perm M ∧ RowI B w' (.slice A n c) (p.2.1.flatten ++ p.2.2) ∧ Below B w w') (fun p => n - p.1) (20,Rs,T) ⟨rfl,rfl,rfl,rfl,trivial⟩
  ⟨hKT,(by show 0 < 20; decide),(by show 20 <= 2 ^ 22; decide),hR,hTl,hTs,hpT,ho2,b1.trans b2⟩ ?_
 clear hR hp ho1 hl1 hgt hlt hTp hTs ho2 hTl hpT b1 b2 hK hKT
 rintro ⟨s,Rs2,T2⟩ w3 ⟨hK',s0',s1',hR',hTl',hTs',hp',ho',b3⟩
 have hK:OkRuns ok (Rs2 ++ [T2]):=hK'
 have s0:0 < s:=s0'
 have s1:s <= 2 ^ 22:=s1'
 have hR:∀ R ∈ Rs2,R.length = s ∧ SortedB lt R:=hR'
 have hTl:T2.length < s:=hTl'
 have hTs:SortedB lt T2:=hTs'
 have hp:(Rs2.flatten ++ T2).Perm M:=hp'
 have ho3:RowI B w3 (.slice A n c) (Rs2.flatten ++ T2):=ho'
 clear hK' s0' s1' hR' hTl' hTs' hp' ho'
 have hl3:=rowI_n ho3
 rw [List.length_append] at hl3
 refine brE_dec (fun hlt => ?_) (fun hge => ?_)
 ·have hlt:s < n:=by have:((s:Nat):Int) < (n:Nat):=hlt; omega
  refine ⟨((([]:List (List Int)).flatten.length + 2 * s:Nat):Int),by (try dsimp only); rw [fit ⟨by omega,by omega⟩]; simp,?_⟩
  refine loopE C_ok (fun (p:List (List Int) × List (List Int)) => [(0,.slice A n c),(1,.int .i64 (n:Nat)),(2,.func (.func gd) #[] cb),(6,.int .i64 ((s:Nat):Int)),(7,.int .i64 ((p.1.flatten.length:Nat):Int)),(8,.int .i64 ((p.1.flatten.length + 2 * s:Nat):Int))])
   (fun p w' => OkRuns ok (p.1 ++ (p.2 ++ [T2])) ∧ (∀ R ∈ p.1,R.length = 2 * s ∧ SortedB lt R) ∧ (∀ R ∈ p.2,R.length = s ∧ SortedB lt R) ∧ (p.1.flatten ++ (p.2.flatten ++ T2)).Perm M ∧ RowI B w' (.slice A n c) (p.1.flatten ++ (p.2.flatten ++ T2)) ∧ Below B w w') (fun p => p.2.length) ([],Rs2) ⟨rfl,rfl,rfl,rfl,rfl,rfl,trivial⟩
   ⟨hK,(fun R h => by cases h),hR,hp,ho3,b3⟩ ?_
  rintro ⟨Ns,Qs⟩ w4 ⟨hK4',hN',hQ',hp4',ho4',b4⟩
  have hK4:OkRuns ok (Ns ++ (Qs ++ [T2])):=hK4'
  have hN:∀ R ∈ Ns,R.length = 2 * s ∧ SortedB lt R:=hN'
  have hQ:∀ R ∈ Qs,R.length = s ∧ SortedB lt R:=hQ'
  have hp4:(Ns.flatten ++ (Qs.flatten ++ T2)).Perm M:=hp4'
  have ho4:RowI B w4 (.slice A n c) (Ns.flatten ++ (Qs.flatten ++ T2)):=ho4'
  clear hK4' hN' hQ' hp4' ho4'
  have hl4:=rowI_n ho4
  rw [List.length_append,List.length_append] at hl4
  refine brE_dec (fun hle => ?_) (fun hgt => ?_)
  ·have hle:Ns.flatten.length + 2 * s <= n:=by have:((Ns.flatten.length + 2 * s:Nat):Int) <= (n:Nat):=hle; omega
   match Qs,hQ,hp4,ho4,hl4,hK4 with
   | [],_,_,_,hl4,_ => exact absurd hle (by rw [List.flatten_nil,List.length_nil] at hl4; omega)
   | [R],hQ,_,_,hl4,_ => exact absurd hle (by have:=(hQ R (by simp)).1; simp only [List.flatten_cons,List.flatten_nil,List.append_nil] at hl4; omega)
   | R1 :: R2 :: r,hQ,hp4,ho4,hl4,hK4 =>
    obtain ⟨r1l,r1s⟩:=hQ R1 (by simp)
    obtain ⟨r2l,r2s⟩:=hQ R2 (by simp)
    have e4:(R1 :: R2 :: r).flatten ++ T2 = R1 ++ (R2 ++ (r.flatten ++ T2)):=by simp
    rw [e4] at ho4 hp4
    refine ⟨((Ns.flatten.length + s:Nat):Int),by (try dsimp only); exact fit ⟨by omega,by omega⟩,?_⟩
    refine (symMerge_spec (by omega) hgd O _ (a:=Ns.flatten.length) (m:=Ns.flatten.length + s) (b:=Ns.flatten.length + 2 * s) (Nat.le_refl _) ho4 (Nat.le_trans hB b4.size) rfl (by omega) (by omega) (by omega) (by omega) r1s r2s (hcmp.later b4) (okRuns_cross hK4)).mono ?_
    rintro v w5 ⟨X,hXp,hXs,ho5,b5⟩
    have hXl:X.length = 2 * s:=by rw [hXp.length_eq,List.length_append]; omega
    have hfl:(Ns ++ [X]).flatten = Ns.flatten ++ X:=by simp
    have hfn:(Ns ++ [X]).flatten.length = Ns.flatten.length + 2 * s:=by rw [hfl,List.length_append,hXl]
    refine ⟨((2 * s:Nat):Int),by (try dsimp only); rw [fit ⟨by omega,by omega⟩]; omega,?_⟩
    refine ⟨((Ns.flatten.length + 2 * s + 2 * s:Nat):Int),by (try dsimp only); rw [fit ⟨by omega,by omega⟩]; omega,?_⟩
    refine ⟨(Ns ++ [X],r),⟨rfl,rfl,rfl,rfl,congrArg (fun q:Nat => some (Value.int IntKind.i64 ((q:Nat):Int))) hfn.symm,congrArg (fun q:Nat => some (Value.int IntKind.i64 ((q + 2 * s:Nat):Int))) hfn.symm,trivial⟩,⟨okRuns_merge hK4 hXp,?_,fun R h => hQ R (by simp [h]),?_,?_,b4.trans b5⟩,by show r.length < (R1 :: R2 :: r).length; simp only [List.length_cons]; omega⟩
    ·intro R h
     rcases List.mem_append.1 h with h | h
     ·exact hN R h
     ·rw [List.mem_singleton.1 h]; exact ⟨hXl,hXs⟩
    ·show ((Ns ++ [X]).flatten ++ (r.flatten ++ T2)).Perm M
     rw [hfl,List.append_assoc]
     refine List.Perm.trans ?_ hp4
     refine List.Perm.append_left _ ?_
     have:=hXp.append_right (r.flatten ++ T2)
     rwa [List.append_assoc] at this
    ·show RowI B w5 (.slice A n c) ((Ns ++ [X]).flatten ++ (r.flatten ++ T2))
     rw [hfl,List.append_assoc]; exact ho5
  ·have hgt:n < Ns.flatten.length + 2 * s:=by have:¬ ((Ns.flatten.length + 2 * s:Nat):Int) <= (n:Nat):=hgt; omega
   refine ⟨((Ns.flatten.length + s:Nat):Int),by (try dsimp only); exact fit ⟨by omega,by omega⟩,?_⟩
   have fin:∀ (T':List Int) (w5:World),OkRuns ok (Ns ++ [T']) -> T'.length < 2 * s -> SortedB lt T' -> (Ns.flatten ++ T').Perm M -> RowI B w5 (.slice A n c) (Ns.flatten ++ T') -> Below B w w5 →
     (∃ s':Nat × List (List Int) × List Int,s' = (2 * s,Ns,T')) ∧ (OkRuns ok (Ns ++ [T']) ∧ 0 < 2 * s ∧ 2 * s <= 2 ^ 22 ∧ (∀ R ∈ Ns,R.length = 2 * s ∧ SortedB lt R) ∧ T'.length < 2 * s ∧ SortedB lt T' ∧ (Ns.flatten ++ T').Perm M ∧ RowI B w5 (.slice A n c) (Ns.flatten ++ T') ∧ Below B w w5) :=
    fun T' w5 a0 a1 a2 a3 a4 a5 => ⟨⟨_,rfl⟩,a0,by omega,by omega,hN,a1,a2,a3,a4,a5⟩
   have mul2:IntKind.i64.wrap ((s:Nat) * 2:Int) = ((2 * s:Nat):Int):=by (try dsimp only); rw [fit ⟨by omega,by omega⟩]; omega
   refine brE_dec (fun hm => ?_) (fun hm => ?_)
   ·have hm:Ns.flatten.length + s < n:=by have:((Ns.flatten.length + s:Nat):Int) < (n:Nat):=hm; omega
    match Qs,hQ,hp4,ho4,hl4,hK4 with
    | [],_,_,_,hl4,_ => exact absurd hm (by rw [List.flatten_nil,List.length_nil] at hl4; omega)
    | R1 :: R2 :: r,hQ,_,_,hl4,_ => exact absurd hgt (by have h1:=(hQ R1 (by simp)).1; have h2:=(hQ R2 (by simp)).1; simp only [List.flatten_cons,List.length_append] at hl4; omega)
    | [R],hQ,hp4,ho4,hl4,hK4 =>
     obtain ⟨rl,rs⟩:=hQ R (by simp)
     have e4:[R].flatten ++ T2 = R ++ (T2 ++ []):=by simp
     rw [e4] at ho4 hp4
     simp only [List.flatten_cons,List.flatten_nil,List.append_nil] at hl4
     refine (symMerge_spec (by omega) hgd O _ (a:=Ns.flatten.length) (m:=Ns.flatten.length + s) (b:=n) (Nat.le_refl _) ho4 (Nat.le_trans hB b4.size) rfl (by omega) (by omega) (by omega) (by omega) rs hTs (hcmp.later b4) (okRuns_cross (Q:=[]) hK4)).mono ?_
     rintro v w5 ⟨X,hXp,hXs,ho5,b5⟩
     have hXl:X.length < 2 * s:=by rw [hXp.length_eq,List.length_append]; omega
     rw [List.append_nil] at ho5 hp4
     refine ⟨((2 * s:Nat):Int),mul2,?_⟩
     refine ⟨(2 * s,Ns,X),⟨rfl,rfl,rfl,rfl,trivial⟩,(fin X w5 (by have:=okRuns_merge (Q:=[]) hK4 hXp; rwa [List.append_nil] at this) hXl hXs ((List.Perm.append_left _ hXp).trans hp4) ho5 (b4.trans b5)).2,by show n - 2 * s < n - s; omega⟩
   ·have hm:n <= Ns.flatten.length + s:=by have:¬ ((Ns.flatten.length + s:Nat):Int) < (n:Nat):=hm; omega
    refine ⟨((2 * s:Nat):Int),mul2,?_⟩
    match Qs,hQ,hp4,ho4,hl4,hK4 with
    | [],_,hp4,ho4,hl4,hK4 =>
     exact ⟨(2 * s,Ns,T2),⟨rfl,rfl,rfl,rfl,trivial⟩,(fin T2 w4 hK4 (by omega) hTs hp4 ho4 b4).2,by show n - 2 * s < n - s; omega⟩
    | R1 :: R2 :: r,hQ,_,_,hl4,_ => exact absurd hgt (by have h1:=(hQ R1 (by simp)).1; have h2:=(hQ R2 (by simp)).1; simp only [List.flatten_cons,List.length_append] at hl4; omega)
    | [R],hQ,hp4,ho4,hl4,hK4 =>
     obtain ⟨rl,rs⟩:=hQ R (by simp)
     simp only [List.flatten_cons,List.flatten_nil,List.append_nil] at hl4
     have hT0:T2 = []:=List.length_eq_zero_iff.1 (by omega)
     have e4:[R].flatten ++ T2 = R:=by rw [hT0]; simp
     rw [e4] at ho4 hp4
     exact ⟨(2 * s,Ns,R),⟨rfl,rfl,rfl,rfl,trivial⟩,(fin R w4 (hK4.sublist (List.Sublist.append_left (by simp) Ns)) (by omega) rs hp4 ho4 b4).2,by show n - 2 * s < n - s; omega⟩
 ·have hge:n <= s:=by have:¬ ((s:Nat):Int) < (n:Nat):=hge; omega
  match Rs2,hR,hp,ho3,hl3 with
  | [],_,hp,ho3,_ => exact ⟨T2,hp,hTs,ho3,b3⟩
  | [R],hR,hp,ho3,hl3 =>
   obtain ⟨rl,rs⟩:=hR R (by simp)
   simp only [List.flatten_cons,List.flatten_nil,List.append_nil] at hl3
   have hT0:T2 = []:=List.length_eq_zero_iff.1 (by omega)
   have e4:[R].flatten ++ T2 = R:=by rw [hT0]; simp
   rw [e4] at ho3 hp
   exact ⟨R,hp,rs,ho3,b3⟩
  | R1 :: R2 :: r,hR,_,_,hl3 => exact absurd hge (by have h1:=(hR R1 (by simp)).1; have h2:=(hR R2 (by simp)).1; simp only [List.flatten_cons,List.length_append] at hl3; omega)
theorem sortStable_spec {B:Nat} {w:World} {A:Option Addr} {n c gd:Nat} {cb:Array Value} {lt:Int -> Int -> Bool} {ok:Int -> Int -> Prop} {M:List Int} (ho:RowI B w (.slice A n c) M) (hB:B <= w.heap.size) (hn:n <= 2 ^ 20) (hgd:C.can gd = true) (hcmp:CmpW B w gd cb ok lt) (hok:OkL ok M) (O:OrdB lt) :
  CallsV C.P 222 #[.slice A n c,.func (.func gd) #[] cb] w fun _ w' => ∃ M',M'.Perm M ∧ SortedB lt M' ∧ RowI B w' (.slice A n c) M' ∧ Below B w w':=by
 refine callsV_of C_ok (args:=[_,_]) (plans:=[]) Tryz.func222 rfl Tryz.ntmps222 (by kernel_rfl) (Nat.le_of_ble_eq_true rfl) ?_
 exact (stable_spec ho hB hn hgd hcmp hok O).mono fun v w' h => h
end Go.Proofs.YtigapannpbaihaaGreat.Rk
namespace Go.Proofs.YtigapannpbaihaaGreat.Rk
open Go.Eng Go.RowKit
def rkOf (l:List Rl) (x:Int):Int:=(l.getD x.toNat default).rank
def ltR (l:List Rl) (x y:Int):Bool:=decide (rkOf l x > rkOf l y ∨ (rkOf l x = rkOf l y ∧ x < y))
theorem ordR (l:List Rl):OrdB (ltR l) where
 asym x y h:=by
  have h:=of_decide_eq_true h
  exact decide_eq_false (by omega)
 ntr x y z h1 h2:=by
  have h1:=of_decide_eq_false h1
  have h2:=of_decide_eq_false h2
  exact decide_eq_false (by omega)
def okR (l:List Rl) (x y:Int):Prop:=(0 <= y ∧ y < x) ∧ x < (l.length:Nat)
theorem rkOf_nat {l:List Rl} {i:Nat} (h:i < l.length):rkOf l (i:Nat) = l[i].rank:=by
 unfold rkOf
 rw [Int.toNat_natCast,List.getD_eq_getElem?_getD,List.getElem?_eq_getElem h]; rfl
set_option maxRecDepth 100000 in
theorem cmpR {w0:World} {R:Option Addr} {l:List Rl} {c g1 B:Nat} (h:HL Rl.cells w0 R l c) (hr:∀ x ∈ l,In64 x.rank ∧ 1 <= x.rank ∧ x.rank <= 99) (hg:w0.heap[g1]? = some (.cells #[.slice R l.length c] 25 (0,0))) (hB:w0.heap.size <= B) :
  CmpW B w0 223 #[.pointer (some ⟨g1,0,none⟩)] (okR l) (ltR l):=by
 intro x y w hb hok
 obtain ⟨⟨h1,h2⟩,h3⟩:=hok
 obtain ⟨i,rfl⟩:=Int.eq_ofNat_of_zero_le (show 0 <= x by omega)
 obtain ⟨j,rfl⟩:=Int.eq_ofNat_of_zero_le h1
 have hi:i < l.length:=by omega
 have hj:j < l.length:=by omega
 have e:Ext w0 w:=hb.mono hB
 have hgw:=e.heap hg
 refine callsV_of C_ok (args:=[_,_,_]) (plans:=plans223) Tryz.func223 rfl Tryz.ntmps223 (by kernel_rfl) (Nat.le_of_ble_eq_true rfl) ?_
 obtain ⟨b1,o1,hA1,hc1⟩:=(h.ext e).at Rl.len (by omega) hj
 obtain ⟨b2,o2,hA2,hc2⟩:=(h.ext e).at Rl.len (by omega) hi
 have ri:=hr _ (List.getElem_mem hi)
 have rj:=hr _ (List.getElem_mem hj)
 have ei:=rkOf_nat hi
 have ej:=rkOf_nat hj
 refine ⟨_,cell_of_block (i:=0) hgw rfl,?_⟩
 refine ⟨j,b1,o1,rfl,hj,hA1,?_⟩
 refine ⟨_,hc1 1 _ rfl,?_⟩
 refine ⟨_,cell_of_block (i:=0) hgw rfl,?_⟩
 refine ⟨i,b2,o2,rfl,hi,hA2,?_⟩
 refine ⟨_,hc2 1 _ rfl,?_⟩
 refine ⟨l[j].rank - l[i].rank,fit ⟨by omega,by omega⟩,?_⟩
 refine ⟨⟨_,rfl,?_⟩,Ext.refl _⟩
 unfold ltR
 rw [decide_eq_true_iff]
 have e1:rkOf l (i:Nat) = l[i].rank:=ei
 have e2:rkOf l (j:Nat) = l[j].rank:=ej
 constructor
 ·intro h; left; show rkOf l (i:Nat) > rkOf l (j:Nat); omega
 ·intro h
  have h:rkOf l (i:Nat) > rkOf l (j:Nat) ∨ (rkOf l (i:Nat) = rkOf l (j:Nat) ∧ ((i:Nat):Int) < (j:Nat)):=h
  omega
def upTo (n:Nat):List Int:=(List.range n).map fun k => ((k:Nat):Int)
structure RankedL (l:List Rl) (M:List Int):Prop where
 perm:M.Perm (upTo l.length)
 sorted:SortedB (ltR l) M
set_option maxRecDepth 100000 in
set_option maxHeartbeats 2000000 in
theorem ranked_spec {w:World} {R:Option Addr} {l:List Rl} {c:Nat} (h:HL Rl.cells w R l c) (hr:∀ x ∈ l,In64 x.rank ∧ 1 <= x.rank ∧ x.rank <= 99) (hl:l.length <= 2 ^ 16) :
  CallsV C.P 181 #[.agg #[.slice R l.length c]] w fun v w' => (∃ M:List Int,RankedL l M ∧ w'.ownsRow w.heap.size 3 1 v M.length (ints M)) ∧ Ext w w':=by
 refine callsV_of C_ok (args:=[_]) (plans:=[]) Tryz.func181 rfl Tryz.ntmps181 (by kernel_rfl) (Nat.le_of_ble_eq_true rfl) ?_
 obtain ⟨n,hn⟩:∃ n,n = l.length:=⟨_,rfl⟩
 intro g1 w1 h1
 have M1:Mem w w1 [(g1,.cells #[.slice R l.length c] 25 (0,0))]:=(Mem.start w).alloc h1
 refine ⟨_,M1.cell 0 rfl rfl,?_⟩
 refine ⟨n,n,by rw [hn],by rw [hn],Nat.le_refl _,by omega,by omega,rfl,rfl,rfl,rfl,?_⟩
 intro go w2 h2
 have h2:Alloc w1 go (.cells (ints (natsN n fun _ => 0)).toArray 3 (0,0)) w2:=by rw [<-zeros_natsN]; exact h2
 have M2:=M1.alloc h2
 have hgo:go = w1.heap.size:=h2.new
 refine loopE C_ok (fun (i:Nat) => [(1,.pointer (some ⟨g1,0,none⟩)),(3,.slice (some ⟨go,0,none⟩) n n),(10,.int .i64 (n:Nat)),(11,.int .i64 (i:Nat))])
  (fun i w' => i <= n ∧ Mem w w' [(go,.cells (ints (natsN n fun k => if k < i then k else 0)).toArray 3 (0,0)),(g1,.cells #[.slice R l.length c] 25 (0,0))] ∧ Mem w1 w' [(go,.cells (ints (natsN n fun k => if k < i then k else 0)).toArray 3 (0,0))]) (fun i => n - i) 0 ⟨rfl,rfl,rfl,rfl,trivial⟩
  ⟨Nat.zero_le _,by simpa using M2,by simpa using (Mem.start w1).alloc h2⟩ ?_
 clear M1 M2 h2
 rintro i w3 ⟨hi,M,N⟩
 refine brE_dec (fun hlt => ?_) (fun hge => ?_)
 ·have hlti:i < n:=by have:(i:Int) < (n:Nat):=hlt; omega
  have next:IntKind.i64.wrap ((i:Int) + 1) = ((i + 1:Nat):Int):=fit ⟨by omega,by omega⟩
  refine ⟨i,go,0,rfl,hlti,rfl,?_⟩
  refine ⟨rfl,_,_,M.get 0 rfl,by rw [ints_length,natsN_length]; show 0 + i * 1 + 1 <= n; omega,rfl,?_⟩
  intro w4 h4
  have e4:splice (ints (natsN n fun k => if k < i then k else 0)) (0 + i * 1) [.int .i64 (i:Nat)] = ints (natsN n fun k => if k < i + 1 then k else 0):=by
   have:=natsN_set hlti (fun k => if k < i then k else 0) i
   rw [show 0 + i * 1 = i by omega,this]
   congr 1
   unfold natsN
   refine List.map_congr_left fun k _ => ?_
   congr 1
   show (if k = i then i else if k < i then k else 0) = if k < i + 1 then k else 0
   by_cases hk:k = i
   ·rw [if_pos hk,if_pos (by omega)]; exact hk.symm
   ·rw [if_neg hk]
    by_cases hk2:k < i
    ·rw [if_pos hk2,if_pos (by omega)]
    ·rw [if_neg hk2,if_neg (by omega)]
  have h4:Put w3 go (.cells (ints (natsN n fun k => if k < i + 1 then k else 0)).toArray 3 (0,0)) w4:=by rw [<-e4]; exact h4
  refine ⟨_,next,?_⟩
  exact ⟨i + 1,⟨rfl,rfl,rfl,rfl,trivial⟩,⟨hlti,M.put 0 rfl h4,N.put 0 rfl h4⟩,by show n - (i + 1) < n - i; omega⟩
 ·have hie:i = n:=by have:¬ (i:Int) < (n:Nat):=hge; omega
  have hup:natsN n (fun k => if k < i then k else 0) = upTo n:=by
   unfold natsN upTo
   refine List.map_congr_left fun k hk => ?_
   show (((if k < i then k else 0:Nat)):Int) = ((k:Nat):Int)
   rw [if_pos (by have:=List.mem_range.1 hk; omega)]
  rw [hup] at M N
  refine ⟨[],[.pointer (some ⟨g1,0,none⟩)],rfl,rfl,?_⟩
  have hul:(upTo n).length = n:=by simp [upTo]
  have hrow:RowI w1.heap.size w3 (.slice (some ⟨go,0,none⟩) n n) (upTo n):=by
   show w3.ownsRow _ _ _ _ _ _
   rw [icells_ints,hul]
   exact owns_block (N.get 0 rfl) (N.new 0 rfl) (by rw [ints_length,hul,Nat.mul_one]) (by simp only [maxLen]; omega)
  have hok:OkL (okR l) (upTo n):=by
   unfold OkL upTo
   refine List.pairwise_map.2 ?_
   refine List.Pairwise.imp_of_mem (R:=fun a b => a < b) (fun {a b} ha hb hab => ?_) List.pairwise_lt_range
   have:=List.mem_range.1 hb
   exact ⟨⟨Int.natCast_nonneg _,by omega⟩,by omega⟩
  have hcmp:=cmpR (B:=w1.heap.size) (h.ext (h1.ext)) hr h1.here (Nat.le_refl _)
  have hb13:Below w1.heap.size w1 w3:=N.ext
  refine (sortStable_spec hrow hb13.size (by omega) rfl (hcmp.later hb13) hok (ordR l)).mono ?_
  rintro v w4 ⟨M',hp,hs,ho4,b4⟩
  have hM:M'.length = n:=by rw [hp.length_eq,hul]
  have hn1:w.heap.size <= w1.heap.size:=h1.ext.size
  refine ⟨⟨M',⟨by rw [<-hn]; exact hp,hs⟩,?_⟩,Below.trans h1.ext ((hb13.trans b4).mono hn1)⟩
  have:=NewL.base ho4 hn1
  unfold NewL at this
  rw [icells_ints] at this
  exact this
end Go.Proofs.YtigapannpbaihaaGreat.Rk
namespace Go.Proofs.YtigapannpbaihaaGreat.Rk
open Go.Eng Go.RowKit
def firstI (l:List Rl) (ρ:Int) (T:Rl -> Bool):Int:=match l.findIdx? (fun x => decide (x.rank = ρ) && T x) with
 | some i => ((i:Nat):Int)
 | none => -1
structure Ver (l:List Rl) (T B:Rl -> Bool) (ρ r b:Int):Prop where
 top:(ρ = 0 ∧ ∀ x ∈ l,T x = false ∧ B x = false) ∨ ((∃ x ∈ l,x.rank = ρ ∧ (T x = true ∨ B x = true)) ∧ ∀ x ∈ l,(T x = true ∨ B x = true) -> x.rank <= ρ)
 fr:r = firstI l ρ T
 fb:b = firstI l ρ B
theorem Ver.unique {l:List Rl} {T B:Rl -> Bool} {ρ r b ρ' r' b':Int} (h:Ver l T B ρ r b) (h':Ver l T B ρ' r' b'):(r,b) = (r',b'):=by
 have e:ρ = ρ':=by
  rcases h.top with ⟨h1,h2⟩ | ⟨⟨x,hx,hxr,hxt⟩,h2⟩ <;> rcases h'.top with ⟨h3,h4⟩ | ⟨⟨y,hy,hyr,hyt⟩,h4⟩
  ·rw [h1,h3]
  ·have:=h2 y hy; rcases hyt with e | e
   ·rw [this.1] at e; cases e
   ·rw [this.2] at e; cases e
  ·have:=h4 x hx; rcases hxt with e | e
   ·rw [this.1] at e; cases e
   ·rw [this.2] at e; cases e
  ·have a1:=h2 y hy hyt
   have a2:=h4 x hx hxt
   omega
 subst e
 rw [h.fr,h.fb,h'.fr,h'.fb]
open Classical in
noncomputable def decV (l:List Rl) (T B:Rl -> Bool):Int × Int:=if h:∃ p:Int × Int × Int,Ver l T B p.1 p.2.1 p.2.2 then (h.choose.2.1,h.choose.2.2) else (-1,-1)
theorem decV_eq {l:List Rl} {T B:Rl -> Bool} {ρ r b:Int} (h:Ver l T B ρ r b):decV l T B = (r,b):=by
 have hx:∃ p:Int × Int × Int,Ver l T B p.1 p.2.1 p.2.2:=⟨(ρ,r,b),h⟩
 unfold decV
 rw [dif_pos hx]
 exact Ver.unique hx.choose_spec h
theorem firstI_none {p:List Rl} {ρ:Int} {T:Rl -> Bool} (h:∀ y ∈ p,y.rank = ρ -> T y = false):firstI p ρ T = -1:=by
 unfold firstI
 have:p.findIdx? (fun x => decide (x.rank = ρ) && T x) = none:=by
  refine List.findIdx?_eq_none_iff.2 fun x hx => ?_
  by_cases e:x.rank = ρ
  ·rw [h x hx e]; simp
  ·rw [decide_eq_false e]; rfl
 rw [this]
def atI (l:List Rl) (y:Int):Rl:=l.getD y.toNat default
def findO (M:List Int) (T:Int -> Bool):Int:=(M.find? T).getD (-1)
theorem findO_snoc {M:List Int} {T:Int -> Bool} {y:Int} (hM:∀ z ∈ M,0 <= z):findO (M ++ [y]) T = if T y = true ∧ findO M T < 0 then y else findO M T:=by
 unfold findO
 rw [List.find?_append]
 cases h:M.find? T with
 | some z =>
  have hz:=hM z (List.mem_of_find?_eq_some h)
  rw [if_neg (by simp; omega)]
  rfl
 | none =>
  cases hy:T y with
  | true => simp [hy]
  | false => simp [hy]
theorem RankedL.mem {l:List Rl} {M:List Int} (h:RankedL l M) {y:Int}:y ∈ M <-> ∃ k:Nat,k < l.length ∧ y = (k:Int):=by
 rw [h.perm.mem_iff]
 unfold upTo
 rw [List.mem_map]
 constructor
 ·rintro ⟨k,hk,rfl⟩; exact ⟨k,List.mem_range.1 hk,rfl⟩
 ·rintro ⟨k,hk,rfl⟩; exact ⟨k,List.mem_range.2 hk,rfl⟩
theorem atI_nat {l:List Rl} {k:Nat} (h:k < l.length):atI l (k:Nat) = l[k]:=by
 unfold atI
 rw [Int.toNat_natCast,List.getD_eq_getElem?_getD,List.getElem?_eq_getElem h]; rfl
theorem rk_atI (l:List Rl) (y:Int):rkOf l y = (atI l y).rank:=rfl
theorem first_found {l:List Rl} {M:List Int} {T:Rl -> Bool} {ρ:Int} {j:Nat} (hM:RankedL l M)
  (hall:∀ y ∈ M.take j,T (atI l y) = true -> (atI l y).rank = ρ) (hrest:∀ y ∈ M.drop j,(atI l y).rank = ρ -> T (atI l y) = false) :
  findO (M.take j) (fun y => T (atI l y)) = firstI l ρ T:=by
 unfold findO
 cases hf:(M.take j).find? fun y => T (atI l y) with
 | none =>
  have hno:∀ y ∈ M,(atI l y).rank = ρ -> T (atI l y) = false:=fun y hy hr => by
   rw [<-List.take_append_drop j M] at hy
   rcases List.mem_append.1 hy with hy | hy
   ·have:=List.find?_eq_none.1 hf y hy
    simpa using this
   ·exact hrest y hy hr
  rw [firstI_none]
  ·rfl
  ·intro x hx hr
   obtain ⟨k,hk,rfl⟩:=List.getElem_of_mem hx
   have:=hno (k:Nat) (hM.mem.2 ⟨k,hk,rfl⟩)
   rw [atI_nat hk] at this
   exact this hr
 | some y =>
  have hyT:T (atI l y) = true:=by simpa using List.find?_some hf
  have hym:=List.mem_of_find?_eq_some hf
  have hyM:y ∈ M:=List.mem_of_mem_take hym
  obtain ⟨k,hk,rfl⟩:=hM.mem.1 hyM
  have hyr:=hall _ hym hyT
  obtain ⟨_,us,bs,hsplit,hbefore⟩:=List.find?_eq_some_iff_append.1 hf
  have hidx:l.findIdx? (fun x => decide (x.rank = ρ) && T x) = some k:=by
   rw [List.findIdx?_eq_some_iff_getElem]
   rw [atI_nat hk] at hyT hyr
   refine ⟨hk,by simp [hyT,hyr],fun i hi => ?_⟩
   have hil:i < l.length:=by omega
   cases hh:(decide (l[i].rank = ρ) && T l[i]) with
   | false => simp [hh]
   | true =>
    exfalso
    rw [Bool.and_eq_true,decide_eq_true_iff] at hh
    have hiM:((i:Nat):Int) ∈ M:=hM.mem.2 ⟨i,hil,rfl⟩
    rw [<-List.take_append_drop j M,hsplit] at hiM
    have hs:=hM.sorted
    rw [<-List.take_append_drop j M,hsplit] at hs
    have hlt:ltR l (i:Nat) (k:Nat) = true:=by
     refine decide_eq_true (.inr ⟨?_,by omega⟩)
     rw [rk_atI,rk_atI,atI_nat hil,atI_nat hk,hh.1,hyr]
    rw [List.append_assoc] at hiM hs
    rcases List.mem_append.1 hiM with h1 | h1
    ·have:=hbefore _ h1
     rw [atI_nat hil,hh.2] at this
     cases this
    ·rw [List.cons_append] at h1 hs
     rcases List.mem_cons.1 h1 with h1 | h1
     ·omega
     ·have:=(List.pairwise_cons.1 (List.pairwise_append.1 hs).2.1).1 _ h1
      rw [hlt] at this; cases this
  unfold firstI
  rw [hidx]
  rfl
theorem ver_of_order {l:List Rl} {M:List Int} {T B:Rl -> Bool} {ρ:Int} {j:Nat} (hM:RankedL l M) (h1:∀ x ∈ l,1 <= x.rank)
  (hstop:j = M.length ∨ ∃ h:j < M.length,ρ > rkOf l M[j])
  (hinv:(ρ = 0 ∧ ∀ y ∈ M.take j,T (atI l y) = false ∧ B (atI l y) = false) ∨ ((∃ y ∈ M.take j,(atI l y).rank = ρ ∧ (T (atI l y) = true ∨ B (atI l y) = true)) ∧ ∀ y ∈ M.take j,(T (atI l y) = true ∨ B (atI l y) = true) -> (atI l y).rank = ρ)) :
  Ver l T B ρ (findO (M.take j) fun y => T (atI l y)) (findO (M.take j) fun y => B (atI l y)):=by
 have pos:∀ y ∈ M,1 <= (atI l y).rank:=fun y hy => by
  obtain ⟨k,hk,rfl⟩:=hM.mem.1 hy
  rw [atI_nat hk]; exact h1 _ (List.getElem_mem hk)
 have rest:∀ y ∈ M.drop j,(atI l y).rank < ρ:=fun y hy => by
  rcases hstop with hs | ⟨hj,hs⟩
  ·rw [hs,List.drop_length] at hy; cases hy
  ·rw [List.drop_eq_getElem_cons hj] at hy
   have hsrt:=hM.sorted
   rw [<-List.take_append_drop j M,List.drop_eq_getElem_cons hj] at hsrt
   rcases List.mem_cons.1 hy with rfl | hy
   ·exact hs
   ·have:=(List.pairwise_cons.1 (List.pairwise_append.1 hsrt).2.1).1 _ hy
    have:=of_decide_eq_false this
    have e:=rk_atI l y
    omega
 have onT:∀ y ∈ M.take j,T (atI l y) = true -> (atI l y).rank = ρ:=fun y hy ht => by
  rcases hinv with ⟨_,h2⟩ | ⟨_,h2⟩
  ·rw [(h2 y hy).1] at ht; cases ht
  ·exact h2 y hy (.inl ht)
 have onB:∀ y ∈ M.take j,B (atI l y) = true -> (atI l y).rank = ρ:=fun y hy ht => by
  rcases hinv with ⟨_,h2⟩ | ⟨_,h2⟩
  ·rw [(h2 y hy).2] at ht; cases ht
  ·exact h2 y hy (.inr ht)
 refine ⟨?_,first_found hM onT (fun y hy e => absurd (rest y hy) (by omega)),first_found hM onB (fun y hy e => absurd (rest y hy) (by omega))⟩
 have split:∀ x ∈ l,∃ y,atI l y = x ∧ (y ∈ M.take j ∨ y ∈ M.drop j):=fun x hx => by
  obtain ⟨k,hk,rfl⟩:=List.getElem_of_mem hx
  refine ⟨(k:Nat),atI_nat hk,?_⟩
  have:=hM.mem.2 ⟨k,hk,rfl⟩
  rw [<-List.take_append_drop j M] at this
  exact List.mem_append.1 this
 rcases hinv with ⟨h0,h2⟩ | ⟨⟨y,hy,hyr,hyt⟩,h2⟩
 ·refine .inl ⟨h0,fun x hx => ?_⟩
  obtain ⟨y,rfl,hy | hy⟩:=split x hx
  ·exact h2 y hy
  ·have:=rest y hy
   have:=pos y (List.mem_of_mem_drop hy)
   omega
 ·refine .inr ⟨⟨atI l y,?_,hyr,hyt⟩,fun x hx ht => ?_⟩
  ·obtain ⟨k,hk,rfl⟩:=hM.mem.1 (List.mem_of_mem_take hy)
   rw [atI_nat hk]; exact List.getElem_mem hk
  ·obtain ⟨z,rfl,hz | hz⟩:=split x hx
   ·exact Int.le_of_eq (h2 z hz ht)
   ·exact Int.le_of_lt (rest z hz)
end Go.Proofs.YtigapannpbaihaaGreat.Rk
namespace Go.Proofs.YtigapannpbaihaaGreat.Rk
open Go.Eng Go.RowKit
theorem neqNilF (x y:Operand):EqIs C.P .neq 281 x y .nilFunc .nilFunc false:=by
 intro w
 have h1:(eqGuard .neq 281 x y .nilFunc .nilFunc).run C.P w = .ok () w:=by simp [eqGuard]
 rw [Sem.run_bind,h1]
 simp only [Result.andThen_ok]
 have h2:(binOp .neq 281 .nilFunc .nilFunc).run Tryz.prog w = .ok (.bool false) w:=by kernel_rfl
 exact h2
def InvO (l:List Rl) (T B:Rl -> Bool) (ρ:Int) (D:List Int):Prop :=
 (ρ = 0 ∧ ∀ y ∈ D,T (atI l y) = false ∧ B (atI l y) = false) ∨ ((∃ y ∈ D,(atI l y).rank = ρ ∧ (T (atI l y) = true ∨ B (atI l y) = true)) ∧ ∀ y ∈ D,(T (atI l y) = true ∨ B (atI l y) = true) -> (atI l y).rank = ρ)
theorem InvO.skip {l:List Rl} {T B:Rl -> Bool} {ρ:Int} {D:List Int} {y:Int} (h:InvO l T B ρ D) (ht:T (atI l y) = false) (hb:B (atI l y) = false):InvO l T B ρ (D ++ [y]):=by
 rcases h with ⟨e,h2⟩ | ⟨⟨z,hz,h3⟩,h2⟩
 ·refine .inl ⟨e,fun u hu => ?_⟩
  rcases List.mem_append.1 hu with hu | hu
  ·exact h2 u hu
  ·rw [List.mem_singleton.1 hu]; exact ⟨ht,hb⟩
 ·refine .inr ⟨⟨z,List.mem_append_left _ hz,h3⟩,fun u hu hut => ?_⟩
  rcases List.mem_append.1 hu with hu | hu
  ·exact h2 u hu hut
  ·rw [List.mem_singleton.1 hu,ht,hb] at hut
   rcases hut with e | e <;> cases e
theorem InvO.take {l:List Rl} {T B:Rl -> Bool} {ρ:Int} {D:List Int} {y:Int} (h:InvO l T B ρ D) (hs:SortedB (ltR l) (D ++ [y])) (hge:¬ ρ > (atI l y).rank) (hor:T (atI l y) = true ∨ B (atI l y) = true):InvO l T B (atI l y).rank (D ++ [y]):=by
 refine .inr ⟨⟨y,by simp,rfl,hor⟩,fun u hu hut => ?_⟩
 rcases List.mem_append.1 hu with hu | hu
 ·rcases h with ⟨_,h2⟩ | ⟨_,h2⟩
  ·have:=h2 u hu
   rw [this.1,this.2] at hut
   rcases hut with e | e <;> cases e
  ·have e:=h2 u hu hut
   have:=of_decide_eq_false ((List.pairwise_append.1 hs).2.2 u hu y (by simp))
   have e1:=rk_atI l u
   have e2:=rk_atI l y
   omega
 ·rw [List.mem_singleton.1 hu]
def kindV (p:Int × Int):Int:=if p.1 >= 0 ∧ p.2 >= 0 then 3 else if p.1 >= 0 then 1 else if p.2 >= 0 then 2 else 0
def verC (k r b:Int):List Value:=[.int .u8 k,.int .i64 r,.int .i64 b]
def verV (p:Int × Int):Value:=.agg (verC (kindV p) p.1 p.2).toArray
set_option maxRecDepth 100000 in
set_option maxHeartbeats 8000000 in
theorem decide_spec {w:World} {R:Option Addr} {l:List Rl} {c:Nat} (h:HRs w R l c) (hz:chkRl l = 0) {Mv:List Int} (hM:RankedL l Mv) {A:Option Addr} {cm:Nat} (hA:Reads w A (ints Mv)) (a b:Prof) :
  CallsV C.P 180 #[.agg #[.slice R l.length c],.slice A Mv.length cm,a.val,b.val,.nilFunc] w fun v w' => v = verV (decV l (fun x => holdsT a b x.test) (fun x => holdsT b a x.test)) ∧ Ext w w':=by
 obtain ⟨hl24,hgood⟩:=chkRl_zero hz
 obtain ⟨T,hT⟩:∃ T:Rl -> Bool,T = fun x => holdsT a b x.test:=⟨_,rfl⟩
 obtain ⟨B,hB⟩:∃ B:Rl -> Bool,B = fun x => holdsT b a x.test:=⟨_,rfl⟩
 rw [<-hT,<-hB]
 have hMl:Mv.length = l.length:=by rw [hM.perm.length_eq]; simp [upTo]
 have h1r:∀ x ∈ l,1 <= x.rank:=fun x hx => (hgood x hx).2.1.1
 refine callsV_ofS (args:=[_,_,_,_,_]) Tryz.func180 rfl Tryz.ntmps180 C_ok (Nat.le_of_ble_eq_true rfl) ?_
 refine Snd.go C_ok plans180 (by kernel_rfl) ?_
 intro g5 w1 h1
 have M:Mem w w1 [(g5,.cells #[.slice R l.length c] 25 (0,0))]:=(Mem.start w).alloc h1
 intro g7 w2 h2
 have M:Mem w w2 [(g7,.cells a.cells.toArray 194 (0,0)),(g5,.cells #[.slice R l.length c] 25 (0,0))]:=M.alloc h2
 intro g8 w3 h3
 have M:Mem w w3 [(g8,.cells b.cells.toArray 194 (0,0)),(g7,.cells a.cells.toArray 194 (0,0)),(g5,.cells #[.slice R l.length c] 25 (0,0))]:=M.alloc h3
 intro g10 w4 h4
 have M:Mem w w4 [(g10,.cells (verC 0 0 0).toArray 258 (0,0)),(g8,.cells b.cells.toArray 194 (0,0)),(g7,.cells a.cells.toArray 194 (0,0)),(g5,.cells #[.slice R l.length c] 25 (0,0))]:=M.alloc h4
 refine ⟨Snd.go C_ok plans180 (by kernel_rfl) ?_⟩
 intro g11 w5 h5
 have M:=M.alloc h5
 refine ⟨rfl,_,_,M.get 0 rfl,Nat.le_of_ble_eq_true rfl,rfl,?_⟩
 intro w6 h6
 have M:Mem w w6 [(g11,.cells (verC 0 (-1) (-1)).toArray 258 (0,0)),(g10,.cells (verC 0 0 0).toArray 258 (0,0)),(g8,.cells b.cells.toArray 194 (0,0)),(g7,.cells a.cells.toArray 194 (0,0)),(g5,.cells #[.slice R l.length c] 25 (0,0))]:=M.put 0 rfl h6
 clear h1 h2 h3 h4 h5 h6
 refine ⟨Snd.go C_ok plans180 (by kernel_rfl) ?_⟩
 refine ⟨Snd.join C_ok plans180 (fun _:Int × Int => [(10,.pointer (some ⟨g10,0,none⟩)),(11,.pointer (some ⟨g11,0,none⟩))])
  (fun p w' => decV l T B = p ∧ Mem w w' [(g11,.cells (verC 0 p.1 p.2).toArray 258 (0,0)),(g10,.cells (verC 0 0 0).toArray 258 (0,0))]) (by kernel_rfl) ?_ ?_⟩
 ·refine loopE C_ok (fun (s:Nat × Int × Int × Int) => [(4,.nilFunc),(5,.pointer (some ⟨g5,0,none⟩)),(7,.pointer (some ⟨g7,0,none⟩)),(8,.pointer (some ⟨g8,0,none⟩)),(10,.pointer (some ⟨g10,0,none⟩)),(11,.pointer (some ⟨g11,0,none⟩)),(12,.int .i64 s.2.1),(19,.slice A Mv.length cm),(20,.int .i64 Mv.length),(21,.int .i64 (s.1:Nat))])
   (fun s w' => s.1 <= Mv.length ∧ Mem w w' [(g11,.cells (verC 0 s.2.2.1 s.2.2.2).toArray 258 (0,0)),(g10,.cells (verC 0 0 0).toArray 258 (0,0)),(g8,.cells b.cells.toArray 194 (0,0)),(g7,.cells a.cells.toArray 194 (0,0)),(g5,.cells #[.slice R l.length c] 25 (0,0))] ∧
    InvO l T B s.2.1 (Mv.take s.1) ∧ s.2.2.1 = findO (Mv.take s.1) (fun y => T (atI l y)) ∧ s.2.2.2 = findO (Mv.take s.1) (fun y => B (atI l y)))
   (fun s => Mv.length - s.1) (0,0,-1,-1) ⟨rfl,rfl,rfl,rfl,rfl,rfl,rfl,rfl,rfl,rfl,trivial⟩ ⟨Nat.zero_le _,M,.inl ⟨rfl,fun _ h => by cases h⟩,rfl,rfl⟩ ?_
  clear M
  rintro ⟨j,ρ,r,q⟩ w7 ⟨hj',M',hI',hr',hq'⟩
  have hj:j <= Mv.length:=hj'
  have M:Mem w w7 [(g11,.cells (verC 0 r q).toArray 258 (0,0)),(g10,.cells (verC 0 0 0).toArray 258 (0,0)),(g8,.cells b.cells.toArray 194 (0,0)),(g7,.cells a.cells.toArray 194 (0,0)),(g5,.cells #[.slice R l.length c] 25 (0,0))]:=M'
  have hI:InvO l T B ρ (Mv.take j):=hI'
  have hr:r = findO (Mv.take j) (fun y => T (atI l y)):=hr'
  have hq:q = findO (Mv.take j) (fun y => B (atI l y)):=hq'
  clear hj' M' hI' hr' hq'
  have stop:(j = Mv.length ∨ ∃ h:j < Mv.length,ρ > rkOf l Mv[j]) -> decV l T B = (r,q):=fun hs => by
   rw [hr,hq]
   exact decV_eq (ver_of_order hM h1r hs hI)
  refine brE_dec (fun hlt => ?_) (fun hge => ?_)
  ·have hltj:j < Mv.length:=by have:(j:Int) < (Mv.length:Nat):=hlt; omega
   have next:IntKind.i64.wrap ((j:Int) + 1) = ((j + 1:Nat):Int):=fit ⟨by omega,by omega⟩
   obtain ⟨y,hy⟩:∃ y,y = Mv[j]:=⟨_,rfl⟩
   have htake:Mv.take (j + 1) = Mv.take j ++ [y]:=by rw [List.take_succ_eq_append_getElem hltj,hy]
   obtain ⟨k,hk,hyk⟩:=hM.mem.1 (by rw [hy]; exact List.getElem_mem hltj:y ∈ Mv)
   have hnn:∀ z ∈ Mv.take j,0 <= z:=fun z hz => by
    obtain ⟨i,_,rfl⟩:=hM.mem.1 (List.mem_of_mem_take hz); exact Int.natCast_nonneg _
   obtain ⟨x,hx⟩:∃ x,x = l[k]:=⟨_,rfl⟩
   have hat:atI l y = x:=by rw [hyk,atI_nat hk,hx]
   have hxm:x ∈ l:=by rw [hx]; exact List.getElem_mem hk
   have hsrt:SortedB (ltR l) (Mv.take j ++ [y]):=by rw [<-htake]; exact hM.sorted.sublist (List.take_sublist _ _)
   obtain ⟨bb,o,hAA,hc⟩:=Reads.int (hA.ext M.ext) hltj
   rw [<-hy,hyk] at hc
   refine ⟨j,bb,o,rfl,hltj,hAA,?_⟩
   refine ⟨_,by simpa using hc,?_⟩
   obtain ⟨b2,o2,hR2,hc2⟩:=(h.ext M.ext).at hk
   rw [<-hx] at hc2
   refine ⟨_,M.cell 4 rfl rfl,?_⟩
   refine ⟨k,b2,o2,rfl,hk,hR2,?_⟩
   refine ⟨x.cells,rfl,hc2,?_⟩
   intro g15 w8 h8
   have M8:=M.alloc h8
   refine ⟨rfl,_,_,M8.get 0 rfl,Nat.le_of_ble_eq_true rfl,rfl,?_⟩
   intro w9 h9
   have M:Mem w w9 [(g15,.cells x.cells.toArray 93 (0,0)),(g11,.cells (verC 0 r q).toArray 258 (0,0)),(g10,.cells (verC 0 0 0).toArray 258 (0,0)),(g8,.cells b.cells.toArray 194 (0,0)),(g7,.cells a.cells.toArray 194 (0,0)),(g5,.cells #[.slice R l.length c] 25 (0,0))]:=M8.put 0 rfl h9
   clear M8 h8 h9 hc hc2
   refine ⟨_,M.cell 0 (i:=1) rfl rfl,?_⟩
   refine brE_dec (fun hbr => ?_) (fun hbr => ?_)
   ·have hbr:ρ > x.rank:=hbr
    refine ⟨(r,q),⟨rfl,rfl,trivial⟩,stop (.inr ⟨hltj,?_⟩),M.sub (by simp)⟩
    rw [<-hy,rk_atI,hat]; exact hbr
   have hbr:¬ ρ > x.rank:=hbr
   obtain ⟨tv,htv⟩:∃ tv,tv = holdsT a b x.test:=⟨_,rfl⟩
   obtain ⟨bv,hbv⟩:∃ bv,bv = holdsT b a x.test:=⟨_,rfl⟩
   have hTx:T (atI l y) = tv:=by rw [hat,hT,htv]
   have hBx:B (atI l y) = bv:=by rw [hat,hB,hbv]
   have hsh:=(hgood x hxm).1
   have hti:=(h.each x hxm).test
   refine ⟨x.test.cells,rfl,(M.rd 0 rfl).part x.test_part,?_⟩
   refine ⟨a.cells,rfl,M.rd 4 rfl,?_⟩
   refine ⟨b.cells,rfl,M.rd 3 rfl,?_⟩
   refine ⟨x.test.cells,rfl,(M.rd 0 rfl).part x.test_part,?_⟩
   refine ⟨b.cells,rfl,M.rd 3 rfl,?_⟩
   refine ⟨a.cells,rfl,M.rd 4 rfl,?_⟩
   have X:=holds_spec hti a b hsh M.ext
   rw [<-htv] at X
   refine X.mono ?_
   rintro v w10 ⟨rfl,e10⟩
   refine ⟨e10,?_⟩
   have M:=M.grow e10
   have Y:=holds_spec hti b a hsh M.ext
   rw [<-hbv] at Y
   refine Y.mono ?_
   clear X Y
   rintro v w11 ⟨rfl,e11⟩
   have M:=M.grow e11
   have hfT:=findO_snoc (y:=y) (T:=fun y => T (atI l y)) hnn
   have hfB:=findO_snoc (y:=y) (T:=fun y => B (atI l y)) hnn
   rw [<-htake] at hfT hfB
   have hfT:findO (Mv.take (j + 1)) (fun y => T (atI l y)) = if tv = true ∧ r < 0 then y else r:=by rw [hfT,<-hr]; simp only [hTx]
   have hfB:findO (Mv.take (j + 1)) (fun y => B (atI l y)) = if bv = true ∧ q < 0 then y else q:=by rw [hfB,<-hq]; simp only [hBx]
   refine brE_mk (fun t0 => ?P0) (fun t0 => ?P2)
   case' P0 =>
    have t0:tv = false:=by simpa using t0
    refine brE_mk (fun b0 => ?N) (fun b0 => ?P1)
    case' N =>
     have b0:bv = false:=by simpa using b0
     refine ⟨_,next,?_⟩
     refine ⟨(j + 1,ρ,r,q),⟨rfl,rfl,rfl,rfl,rfl,rfl,rfl,rfl,rfl,rfl,trivial⟩,⟨hltj,M.tail,?_,?_,?_⟩,by show Mv.length - (j + 1) < Mv.length - j; omega⟩
     ·show InvO l T B ρ (Mv.take (j + 1))
      rw [htake]; exact hI.skip (hTx.trans t0) (hBx.trans b0)
     ·show r = findO (Mv.take (j + 1)) _
      rw [hfT,t0,if_neg (by simp)]
     ·show q = findO (Mv.take (j + 1)) _
      rw [hfB,b0,if_neg (by simp)]
    case' P1 =>
     have hor:tv = true ∨ bv = true:=.inr (by simpa using b0)
   case' P2 =>
    have hor:tv = true ∨ bv = true:=.inl (by simpa using t0)
   all_goals
    have hI2:InvO l T B x.rank (Mv.take (j + 1)):=by
     rw [htake,<-hat]
     exact hI.take hsrt (by rw [hat]; exact hbr) (by rw [hTx,hBx]; exact hor)
    refine ⟨_,M.cell 0 (i:=1) rfl rfl,?_⟩
    refine ⟨_,neqNilF _ _,?_⟩
    have fin:∀ {w12:World} {r1 q1:Int},r1 = (if tv = true ∧ r < 0 then y else r) -> q1 = (if bv = true ∧ q < 0 then y else q) -> Mem w w12 [(g15,.cells x.cells.toArray 93 (0,0)),(g11,.cells (verC 0 r1 q1).toArray 258 (0,0)),(g10,.cells (verC 0 0 0).toArray 258 (0,0)),(g8,.cells b.cells.toArray 194 (0,0)),(g7,.cells a.cells.toArray 194 (0,0)),(g5,.cells #[.slice R l.length c] 25 (0,0))] →
      (j + 1 <= Mv.length ∧ Mem w w12 [(g11,.cells (verC 0 r1 q1).toArray 258 (0,0)),(g10,.cells (verC 0 0 0).toArray 258 (0,0)),(g8,.cells b.cells.toArray 194 (0,0)),(g7,.cells a.cells.toArray 194 (0,0)),(g5,.cells #[.slice R l.length c] 25 (0,0))] ∧
       InvO l T B x.rank (Mv.take (j + 1)) ∧ r1 = findO (Mv.take (j + 1)) (fun y => T (atI l y)) ∧ q1 = findO (Mv.take (j + 1)) (fun y => B (atI l y))):=fun e1 e2 MM => ⟨hltj,MM.tail,hI2,e1.trans hfT.symm,e2.trans hfB.symm⟩
    have step:Mv.length - (j + 1) < Mv.length - j:=by omega
    have dn:∀ {z:Int},¬ z < 0 -> ∀ (u:Bool),(if u = true ∧ z < 0 then y else z) = z:=fun hz u => if_neg fun e => hz e.2
    refine brE_mk (fun ta => ?_) (fun ta => ?_)
    ·have ta:tv = true:=ta
     refine ⟨_,M.cell 1 (i:=1) rfl rfl,?_⟩
     refine brE_dec (fun ra => ?_) (fun ra => ?_)
     ·have ra:r < 0:=ra
      refine ⟨rfl,_,_,M.get 1 rfl,Nat.le_of_ble_eq_true rfl,rfl,?_⟩
      intro w12 h12
      have M:Mem w w12 [(g15,.cells x.cells.toArray 93 (0,0)),(g11,.cells (verC 0 y q).toArray 258 (0,0)),(g10,.cells (verC 0 0 0).toArray 258 (0,0)),(g8,.cells b.cells.toArray 194 (0,0)),(g7,.cells a.cells.toArray 194 (0,0)),(g5,.cells #[.slice R l.length c] 25 (0,0))]:=by rw [hyk]; exact M.put 1 rfl h12
      refine brE_mk (fun ba => ?_) (fun ba => ?_)
      ·have ba:bv = true:=ba
       refine ⟨_,M.cell 1 (i:=2) rfl rfl,?_⟩
       refine brE_dec (fun qa => ?_) (fun qa => ?_)
       ·have qa:q < 0:=qa
        refine ⟨rfl,_,_,M.get 1 rfl,Nat.le_of_ble_eq_true rfl,rfl,?_⟩
        intro w13 h13
        have M:Mem w w13 [(g15,.cells x.cells.toArray 93 (0,0)),(g11,.cells (verC 0 y y).toArray 258 (0,0)),(g10,.cells (verC 0 0 0).toArray 258 (0,0)),(g8,.cells b.cells.toArray 194 (0,0)),(g7,.cells a.cells.toArray 194 (0,0)),(g5,.cells #[.slice R l.length c] 25 (0,0))]:=by
         have h13:Put w12 g11 (.cells (verC 0 y y).toArray 258 (0,0)) w13:=by rw [hyk] at h13 ⊢; exact h13
         exact M.put 1 rfl h13
        refine ⟨_,next,?_⟩
        exact ⟨(j + 1,x.rank,y,y),⟨rfl,rfl,rfl,rfl,rfl,rfl,rfl,rfl,rfl,rfl,trivial⟩,fin (if_pos ⟨ta,ra⟩).symm (if_pos ⟨ba,qa⟩).symm M,step⟩
       ·have qa:¬ q < 0:=qa
        refine ⟨_,next,?_⟩
        exact ⟨(j + 1,x.rank,y,q),⟨rfl,rfl,rfl,rfl,rfl,rfl,rfl,rfl,rfl,rfl,trivial⟩,fin (if_pos ⟨ta,ra⟩).symm (dn qa _).symm M,step⟩
      ·have ba:bv = false:=ba
       refine ⟨_,next,?_⟩
       exact ⟨(j + 1,x.rank,y,q),⟨rfl,rfl,rfl,rfl,rfl,rfl,rfl,rfl,rfl,rfl,trivial⟩,fin (if_pos ⟨ta,ra⟩).symm (by rw [ba]; rfl) M,step⟩
     ·have ra:¬ r < 0:=ra
      refine brE_mk (fun ba => ?_) (fun ba => ?_)
      ·have ba:bv = true:=ba
       refine ⟨_,M.cell 1 (i:=2) rfl rfl,?_⟩
       refine brE_dec (fun qa => ?_) (fun qa => ?_)
       ·have qa:q < 0:=qa
        refine ⟨rfl,_,_,M.get 1 rfl,Nat.le_of_ble_eq_true rfl,rfl,?_⟩
        intro w13 h13
        have M:Mem w w13 [(g15,.cells x.cells.toArray 93 (0,0)),(g11,.cells (verC 0 r y).toArray 258 (0,0)),(g10,.cells (verC 0 0 0).toArray 258 (0,0)),(g8,.cells b.cells.toArray 194 (0,0)),(g7,.cells a.cells.toArray 194 (0,0)),(g5,.cells #[.slice R l.length c] 25 (0,0))]:=by rw [hyk]; exact M.put 1 rfl h13
        refine ⟨_,next,?_⟩
        exact ⟨(j + 1,x.rank,r,y),⟨rfl,rfl,rfl,rfl,rfl,rfl,rfl,rfl,rfl,rfl,trivial⟩,fin (dn ra _).symm (if_pos ⟨ba,qa⟩).symm M,step⟩
       ·have qa:¬ q < 0:=qa
        refine ⟨_,next,?_⟩
        exact ⟨(j + 1,x.rank,r,q),⟨rfl,rfl,rfl,rfl,rfl,rfl,rfl,rfl,rfl,rfl,trivial⟩,fin (dn ra _).symm (dn qa _).symm M,step⟩
      ·have ba:bv = false:=ba
       refine ⟨_,next,?_⟩
       exact ⟨(j + 1,x.rank,r,q),⟨rfl,rfl,rfl,rfl,rfl,rfl,rfl,rfl,rfl,rfl,trivial⟩,fin (dn ra _).symm (by rw [ba]; rfl) M,step⟩
    ·have ta:tv = false:=ta
     refine brE_mk (fun ba => ?_) (fun ba => ?_)
     ·have ba:bv = true:=ba
      refine ⟨_,M.cell 1 (i:=2) rfl rfl,?_⟩
      refine brE_dec (fun qa => ?_) (fun qa => ?_)
      ·have qa:q < 0:=qa
       refine ⟨rfl,_,_,M.get 1 rfl,Nat.le_of_ble_eq_true rfl,rfl,?_⟩
       intro w13 h13
       have M:Mem w w13 [(g15,.cells x.cells.toArray 93 (0,0)),(g11,.cells (verC 0 r y).toArray 258 (0,0)),(g10,.cells (verC 0 0 0).toArray 258 (0,0)),(g8,.cells b.cells.toArray 194 (0,0)),(g7,.cells a.cells.toArray 194 (0,0)),(g5,.cells #[.slice R l.length c] 25 (0,0))]:=by rw [hyk]; exact M.put 1 rfl h13
       refine ⟨_,next,?_⟩
       exact ⟨(j + 1,x.rank,r,y),⟨rfl,rfl,rfl,rfl,rfl,rfl,rfl,rfl,rfl,rfl,trivial⟩,fin (by rw [ta]; rfl) (if_pos ⟨ba,qa⟩).symm M,step⟩
      ·have qa:¬ q < 0:=qa
       refine ⟨_,next,?_⟩
       exact ⟨(j + 1,x.rank,r,q),⟨rfl,rfl,rfl,rfl,rfl,rfl,rfl,rfl,rfl,rfl,trivial⟩,fin (by rw [ta]; rfl) (dn qa _).symm M,step⟩
     ·have ba:bv = false:=ba
      refine ⟨_,next,?_⟩
      exact ⟨(j + 1,x.rank,r,q),⟨rfl,rfl,rfl,rfl,rfl,rfl,rfl,rfl,rfl,rfl,trivial⟩,fin (by rw [ta]; rfl) (by rw [ba]; rfl) M,step⟩
  ·have hje:j = Mv.length:=by have:¬ (j:Int) < (Mv.length:Nat):=hge; omega
   exact ⟨(r,q),⟨rfl,rfl,trivial⟩,stop (.inl hje),M.sub (by simp)⟩
 rintro ⟨r,q⟩ w7 ⟨hp',M'⟩
 have hp:decV l T B = (r,q):=hp'
 have M:Mem w w7 [(g11,.cells (verC 0 r q).toArray 258 (0,0)),(g10,.cells (verC 0 0 0).toArray 258 (0,0))]:=M'
 clear hp' M'
 rw [hp]
 refine Snd.join C_ok plans180 (fun _:Unit => [(10,.pointer (some ⟨g10,0,none⟩)),(11,.pointer (some ⟨g11,0,none⟩))])
  (fun _ w' => Mem w w' [(g11,.cells (verC (kindV (r,q)) r q).toArray 258 (0,0)),(g10,.cells (verC 0 0 0).toArray 258 (0,0))]) (by kernel_rfl) ?_ ?_
 ·have k3:r >= 0 -> q >= 0 -> kindV (r,q) = 3:=fun h1 h2 => if_pos ⟨h1,h2⟩
  have k1:r >= 0 -> ¬ q >= 0 -> kindV (r,q) = 1:=fun h1 h2 => (if_neg fun e => h2 e.2).trans (if_pos h1)
  have k2:¬ r >= 0 -> q >= 0 -> kindV (r,q) = 2:=fun h1 h2 => (if_neg fun e => h1 e.1).trans ((if_neg h1).trans (if_pos h2))
  have k0:¬ r >= 0 -> ¬ q >= 0 -> kindV (r,q) = 0:=fun h1 h2 => (if_neg fun e => h1 e.1).trans ((if_neg h1).trans (if_neg h2))
  refine ⟨_,M.cell 0 (i:=1) rfl rfl,?_⟩
  refine brE_dec (fun ra => ?_) (fun ra => ?_)
  ·have ra:r >= 0:=ra
   refine ⟨_,M.cell 0 (i:=2) rfl rfl,?_⟩
   refine brE_dec (fun qa => ?_) (fun qa => ?_)
   ·have qa:q >= 0:=qa
    refine ⟨rfl,_,_,M.get 0 rfl,Nat.le_of_ble_eq_true rfl,rfl,?_⟩
    intro w8 h8
    exact ⟨(),⟨rfl,rfl,trivial⟩,by rw [k3 ra qa]; exact M.put 0 rfl h8⟩
   ·have qa:¬ q >= 0:=qa
    refine ⟨_,M.cell 0 (i:=1) rfl rfl,?_⟩
    refine brE_true (decide_eq_true ra) ?_
    refine ⟨rfl,_,_,M.get 0 rfl,Nat.le_of_ble_eq_true rfl,rfl,?_⟩
    intro w8 h8
    exact ⟨(),⟨rfl,rfl,trivial⟩,by rw [k1 ra qa]; exact M.put 0 rfl h8⟩
  ·have ra:¬ r >= 0:=ra
   refine ⟨_,M.cell 0 (i:=1) rfl rfl,?_⟩
   refine brE_false (decide_eq_false ra) ?_
   refine ⟨_,M.cell 0 (i:=2) rfl rfl,?_⟩
   refine brE_dec (fun qa => ?_) (fun qa => ?_)
   ·have qa:q >= 0:=qa
    refine ⟨rfl,_,_,M.get 0 rfl,Nat.le_of_ble_eq_true rfl,rfl,?_⟩
    intro w8 h8
    exact ⟨(),⟨rfl,rfl,trivial⟩,by rw [k2 ra qa]; exact M.put 0 rfl h8⟩
   ·have qa:¬ q >= 0:=qa
    exact ⟨(),⟨rfl,rfl,trivial⟩,by rw [k0 ra qa]; exact M⟩
 rintro _ w8 M
 refine Snd.fin C_ok (plans:=plans180) (by kernel_rfl) ?_
 refine ⟨verC (kindV (r,q)) r q,rfl,M.rd 0 rfl,?_⟩
 refine ⟨rfl,_,_,M.get 1 rfl,Nat.le_of_ble_eq_true rfl,rfl,?_⟩
 intro w9 h9
 have M:=M.put 1 rfl h9
 refine ⟨verC (kindV (r,q)) r q,rfl,M.rd 1 rfl,?_⟩
 exact ⟨rfl,M.ext⟩
end Go.Proofs.YtigapannpbaihaaGreat.Rk
namespace Go.Proofs.YtigapannpbaihaaGreat.Rk
open Go.Eng Go.RowKit
def decE (l:List Rl) (a b:Prof):Int:=if chkRl l ≠ 0 then chkRl l else if a.Ok ∧ b.Ok then 0 else 1
noncomputable def decP (l:List Rl) (a b:Prof):Int × Int:=decV l (fun x => holdsT a b x.test) (fun x => holdsT b a x.test)
theorem decE_zero {l:List Rl} {a b:Prof} (h:decE l a b = 0):chkRl l = 0 ∧ a.Ok ∧ b.Ok:=by
 unfold decE at h
 by_cases h0:chkRl l = 0
 ·rw [if_neg (fun e => e h0)] at h
  by_cases h1:a.Ok ∧ b.Ok
  ·exact ⟨h0,h1⟩
  ·rw [if_neg h1] at h; cases h
 ·rw [if_pos h0] at h; exact absurd h h0
theorem both_spec {w:World} {R:Option Addr} {l:List Rl} {c:Nat} (h:HRs w R l c) (a b:Prof) :
  CallsV C.P 179 #[.agg #[.slice R l.length c],a.val,b.val] w fun v w' => v = .int .i64 (decE l a b) ∧ Ext w w':=by
 refine callsV_of C_ok (args:=[_,_,_]) (plans:=plans179) Tryz.func179 rfl Tryz.ntmps179 (by kernel_rfl) (Nat.le_of_ble_eq_true rfl) ?_
 intro g3 w1 h1
 have M:Mem w w1 [(g3,.cells #[.slice R l.length c] 25 (0,0))]:=(Mem.start w).alloc h1
 intro g4 w2 h2
 have M:Mem w w2 [(g4,.cells a.cells.toArray 194 (0,0)),(g3,.cells #[.slice R l.length c] 25 (0,0))]:=M.alloc h2
 intro g5 w3 h3
 have M:Mem w w3 [(g5,.cells b.cells.toArray 194 (0,0)),(g4,.cells a.cells.toArray 194 (0,0)),(g3,.cells #[.slice R l.length c] 25 (0,0))]:=M.alloc h3
 refine ⟨[.slice R l.length c],rfl,M.rd 2 rfl,?_⟩
 obtain ⟨e0,he0⟩:∃ e0,e0 = chkRl l:=⟨_,rfl⟩
 have X:=rulesCheck_spec (h.ext M.ext)
 rw [<-he0] at X
 refine X.mono ?_
 rintro v w4 ⟨rfl,e4⟩
 have M:=M.grow e4
 refine brE_ndec (fun c0 => ?_) (fun c0 => ?_)
 ·have c0:e0 ≠ 0:=c0
  exact ⟨congrArg (Value.int .i64) (by rw [decE,<-he0,if_pos c0]),M.ext⟩
 have c0:e0 = 0:=c0
 refine ⟨a.cells,rfl,M.rd 1 rfl,?_⟩
 refine ⟨b.cells,rfl,M.rd 0 rfl,?_⟩
 refine (CheckProfile_spec a _).mono ?_
 rintro v w5 ⟨rfl,e5⟩
 refine ⟨e5,?_⟩
 have M:=M.grow e5
 refine (CheckProfile_spec b _).mono ?_
 rintro v w6 ⟨rfl,e6⟩
 have M:=M.grow e6
 have hmx:(if profE b > profE a then profE b else profE a) = decE l a b:=by
  have hd:decE l a b = if a.Ok ∧ b.Ok then 0 else 1:=by rw [decE,<-he0,if_neg (fun e => e c0)]
  rw [hd]
  unfold profE
  by_cases ha:a.Ok <;> by_cases hb:b.Ok <;> simp [ha,hb]
 refine ⟨_,maxQ' hmx rfl rfl rfl,?_⟩
 exact ⟨rfl,M.ext⟩
set_option maxRecDepth 100000 in
theorem Decide_spec {w:World} {R:Option Addr} {l:List Rl} {c:Nat} (h:HRs w R l c) (a b:Prof) :
  CallsV C.P 130 #[.agg #[.slice R l.length c],a.val,b.val] w fun v w' => v = .tuple #[if decE l a b = 0 then verV (decP l a b) else .agg (verC 0 0 0).toArray,.int .i64 (decE l a b)] ∧ Ext w w':=by
 refine callsV_of C_ok (args:=[_,_,_]) (plans:=plans130) Tryz.func130 rfl Tryz.ntmps130 (by kernel_rfl) (Nat.le_of_ble_eq_true rfl) ?_
 intro g3 w1 h1
 have M:Mem w w1 [(g3,.cells #[.slice R l.length c] 25 (0,0))]:=(Mem.start w).alloc h1
 intro g4 w2 h2
 have M:Mem w w2 [(g4,.cells a.cells.toArray 194 (0,0)),(g3,.cells #[.slice R l.length c] 25 (0,0))]:=M.alloc h2
 intro g5 w3 h3
 have M:Mem w w3 [(g5,.cells b.cells.toArray 194 (0,0)),(g4,.cells a.cells.toArray 194 (0,0)),(g3,.cells #[.slice R l.length c] 25 (0,0))]:=M.alloc h3
 intro g6 w4 h4
 have M:Mem w w4 [(g6,.cells (verC 0 0 0).toArray 258 (0,0)),(g5,.cells b.cells.toArray 194 (0,0)),(g4,.cells a.cells.toArray 194 (0,0)),(g3,.cells #[.slice R l.length c] 25 (0,0))]:=M.alloc h4
 refine ⟨[.slice R l.length c],rfl,M.rd 3 rfl,?_⟩
 refine ⟨a.cells,rfl,M.rd 2 rfl,?_⟩
 refine ⟨b.cells,rfl,M.rd 1 rfl,?_⟩
 obtain ⟨e0,he0⟩:∃ e0,e0 = decE l a b:=⟨_,rfl⟩
 have X:=both_spec (h.ext M.ext) a b
 rw [<-he0] at X ⊢
 refine X.mono ?_
 rintro v w5 ⟨rfl,e5⟩
 have M:=M.grow e5
 refine brE_ndec (fun c0 => ?_) (fun c0 => ?_)
 ·have c0:e0 ≠ 0:=c0
  refine ⟨rfl,_,_,M.get 0 rfl,Nat.le_of_ble_eq_true rfl,rfl,?_⟩
  intro w6 h6
  have M:=M.put 0 rfl h6
  refine ⟨verC 0 0 0,rfl,M.rd 0 rfl,?_⟩
  exact ⟨by rw [if_neg c0],M.ext⟩
 have c0:e0 = 0:=c0
 have hz:=(decE_zero (he0.symm.trans c0)).1
 obtain ⟨hl24,hgood⟩:=chkRl_zero hz
 have hrk:∀ x ∈ l,In64 x.rank ∧ 1 <= x.rank ∧ x.rank <= 99:=fun x hx => ⟨(h.each x hx).rank,(hgood x hx).2.1⟩
 refine ⟨[.slice R l.length c],rfl,M.rd 3 rfl,?_⟩
 refine ⟨[.slice R l.length c],rfl,M.rd 3 rfl,?_⟩
 refine ⟨a.cells,rfl,M.rd 2 rfl,?_⟩
 refine ⟨b.cells,rfl,M.rd 1 rfl,?_⟩
 refine (ranked_spec (h.ext M.ext).hl hrk (by omega)).mono ?_
 rintro v w6 ⟨⟨Mv,hMv,hown⟩,e6⟩
 refine ⟨e6,?_⟩
 have M:=M.grow e6
 obtain ⟨A,cm,rfl,hrd,_⟩:=reads_of_owns hown
 have Y:=decide_spec (h.ext M.ext) hz hMv (cm:=cm) hrd a b
 obtain ⟨p,hp⟩:∃ p,p = decP l a b:=⟨_,rfl⟩
 have Y:CallsV C.P 180 #[.agg #[.slice R l.length c],.slice A Mv.length cm,a.val,b.val,.nilFunc] w6 fun v w' => v = verV p ∧ Ext w6 w':=by rw [hp]; exact Y
 rw [<-hp]
 refine Y.mono ?_
 rintro v w7 ⟨rfl,e7⟩
 have M:=M.grow e7
 refine ⟨rfl,_,_,M.get 0 rfl,Nat.le_of_ble_eq_true rfl,rfl,?_⟩
 intro w8 h8
 have M:=M.put 0 rfl h8
 refine ⟨verC (kindV p) p.1 p.2,rfl,M.rd 0 rfl,?_⟩
 exact ⟨by rw [if_pos c0,c0]; rfl,M.ext⟩
noncomputable def ruledI (l:List Rl) (a b:Prof):Int:=if decE l a b = 0 then (decP l a b).1 else -1
end Go.Proofs.YtigapannpbaihaaGreat.Rk
namespace Go.Proofs.YtigapannpbaihaaGreat.Rk
open Go.Eng Go.RowKit
def firstTo (l:List Int) (n:Nat):List Int:=((List.range n).filter fun k => decide (l[k]? = some 0)).map fun (k:Nat) => (k:Int)
noncomputable def firstL (N:Int) (xs:List Arrow):List Int:=firstTo (levelsV N xs) (levelsV N xs).length
end Go.Proofs.YtigapannpbaihaaGreat.Rk
namespace Go.Proofs.YtigapannpbaihaaGreat.Rk
open Go.Eng Go.RowKit
end Go.Proofs.YtigapannpbaihaaGreat.Rk
namespace Go.Proofs.YtigapannpbaihaaGreat.Rk
open Go.Eng Go.RowKit
section
variable {n:Nat} {R:Nat -> Nat -> Bool}
end
end Go.Proofs.YtigapannpbaihaaGreat.Rk
namespace Go.Proofs.YtigapannpbaihaaGreat.Rk
open Go.Eng Go.RowKit
end Go.Proofs.YtigapannpbaihaaGreat.Rk
namespace Go.Eng
open Go.RowKit Go.Sort Go.Proofs
section
variable {α:Type} [Inhabited α]
theorem flatK_eq {enc : α → List Value} {k : Nat} (hk : ∀ x, (enc x).length = k) (d : Array α) : (flatK enc k d).toList = d.toList.flatMap enc := by
  apply List.ext_getElem?
  intro t
  by_cases ht : t < d.size * k
  · have k0 : 0 < k := by rcases Nat.eq_zero_or_pos k with h | h
                          · subst h; simp at ht
                          · exact h
    have hq : t / k < d.size := Nat.div_lt_of_lt_mul (by rwa [Nat.mul_comm] at ht)
    have hr : t % k < k := Nat.mod_lt _ k0
    have e : t / k * k + t % k = t := by rw [Nat.mul_comm]; exact Nat.div_add_mod t k
    have h1 := flat_get hk d.toList (t / k) (t % k) (by simpa using hq) hr
    rw [e] at h1
    rw [h1]
    have h2 := get_flatK enc k d t ht
    have hs : t < (flatK enc k d).size := by rw [size_flatK]; exact ht
    rw [getElem!_pos (flatK enc k d) t hs, getElem!_pos d (t / k) hq] at h2
    have hl : t % k < (enc d[t / k]).length := by rw [hk]; exact hr
    rw [getElem!_pos (enc d[t / k]) (t % k) hl] at h2
    have e1 : (flatK enc k d).toList[t]? = some ((enc d[t / k])[t % k]) := by
      rw [List.getElem?_eq_getElem (by simpa using hs), Array.getElem_toList, h2]
    have e2 : d.toList[t / k]'(by simpa using hq) = d[t / k] := Array.getElem_toList _
    rw [e1, e2, List.getElem?_eq_getElem hl]
  · rw [List.getElem?_eq_none (by simp; omega), List.getElem?_eq_none (by rw [flat_length hk]; simp; omega)]
theorem sort_row {enc:α -> List Value} {k:Nat} (hk:∀ x,(enc x).length = k) {w:World} {base e cap g:Nat} {l:List α}
  (h:w.ownsRow base e k (.slice (some ⟨g,0,none⟩) l.length cap) l.length (l.flatMap enc)) :
  HoldsK enc k w g 0 l.toArray ∧ g < w.heap.size ∧ base <= g ∧ ∀ (d':Array α) (m:Nat) (os:Array Obj),d'.size = l.length →
   (sortWorldK enc k w g 0 m d' os).ownsRow base e k (.slice (some ⟨g,0,none⟩) l.length cap) l.length (d'.toList.flatMap enc) ∧ w.grownBy (sortWorldK enc k w g 0 m d' os) (some g) ∧ Only e w (sortWorldK enc k w g 0 m d' os):=by
 have hlt:=(h.lt g rfl)
 obtain ⟨cur,hg,hgB,hcl,hcc,hnc,hxl,htake,_⟩:=ownsRow_open h
 have hm:cap <= maxLen:=by
  obtain ⟨_,⟨hv,_⟩ | ⟨g',cap',cur',hv,_,_,_,h4,_⟩⟩:=h
  ·cases hv
  ·cases hv; exact h4
 have hold:∀ (d':Array α) (m:Nat) (os:Array Obj),(sortWorldK enc k w g 0 m d' os).heap = (w.heap.modify g (onCells (putCells id 0 (flatK enc k d')))) ++ os:=fun d' m os => rfl
 have hblk:∀ (d':Array α) (m:Nat) (os:Array Obj),(sortWorldK enc k w g 0 m d' os).heap[g]? = some (.cells (putCells id 0 (flatK enc k d') cur.toArray) e (0,0)):=fun d' m os => by
  rw [hold,Array.getElem?_append_left (by simpa using hlt.2),Array.getElem?_modify,if_pos rfl,hg]
  rfl
 have hoth:∀ (d':Array α) (m:Nat) (os:Array Obj) (q:Nat),q < w.heap.size -> q ≠ g -> (sortWorldK enc k w g 0 m d' os).heap[q]? = w.heap[q]?:=fun d' m os q hq hne => by
  rw [hold,Array.getElem?_append_left (by simpa using hq),Array.getElem?_modify,if_neg (fun e => hne e.symm)]
 refine ⟨fun j hj => ?_,hlt.2,hgB,fun d' m os hs => ⟨⟨?_,.inr ⟨g,cap,_,rfl,hgB,hblk d' m os,hnc,hm,?_,?_⟩⟩,⟨rfl,rfl,rfl,?_,fun q hq hne => hoth d' m os q hq (fun e => hne (by rw [e]))⟩,fun q c t fr hq hne => ?_⟩⟩
 ·rw [size_flatK] at hj
  have hj':j < l.length * k:=by simpa using hj
  have hc:cur[j]? = some ((flatK enc k l.toArray)[j]!):=by
   have h1:(l.flatMap enc)[j]? = some ((flatK enc k l.toArray)[j]!):=by
    rw [<-show (flatK enc k l.toArray).toList = l.flatMap enc by rw [flatK_eq hk]]
    have hs:j < (flatK enc k l.toArray).size:=by rw [size_flatK]; exact hj
    rw [getElem!_pos _ j hs]
    simp
   rw [<-h1,<-htake,List.getElem?_take,if_pos (by omega)]
  rw [Nat.zero_add]
  refine ⟨?_,?_⟩
  ·rw [cell_of_block hg (v:=(flatK enc k l.toArray)[j]!) (by simpa using hc)]
   rfl
  ·simp [World.frozen?,hg]
 ·rw [flat_length hk]; simp [hs]
 ·simp [putCells,hcc]
 ·rw [<-flatK_eq hk d']
  apply List.ext_getElem?
  intro t
  rw [List.getElem?_take]
  by_cases ht:t < l.length * k
  ·rw [if_pos ht]
   have hsz:t < (flatK enc k d').size:=by rw [size_flatK,hs]; exact ht
   have htc:t < cur.length:=by omega
   simp only [putCells,Array.getElem?_toList,Array.getElem?_mapIdx,List.getElem?_toArray,List.getElem?_eq_getElem htc,Option.map_some,Nat.zero_le,true_and,Nat.zero_add,Nat.sub_zero,id]
   rw [if_pos hsz,getElem!_pos _ t hsz]
   simp
  ·rw [if_neg ht,List.getElem?_eq_none]
   rw [Array.length_toList,size_flatK,hs]; omega
 ·rw [hold]; simp
 ·by_cases e':q = g
  ·subst e'
   have:=hq.symm.trans hg
   simp at this
   exact absurd this.2.1 hne
  ·rw [hoth d' m os q (lt_of_heap hq) e']; exact hq
theorem cmpLays_of {P:Program} {g:Nat} {cb:Array Value} {enc:α -> List Value} {k:Nat} {cf:α -> α -> Int} {blk off size:Nat} {w:World}
  (h:∀ (x y:α) (W:World),CallsV P g (#[.agg (enc x).toArray,.agg (enc y).toArray] ++ cb) W fun v w' => v = .int .i64 (cf x y) ∧ Ext W w'):CmpLays P g cb enc k cf blk off size w:=by
 intro m os dk hs x y
 generalize sortWorldK enc k w blk off m dk os = W
 refine (h x y W W (Same.refl W)).mono ?_
 rintro e w' ⟨⟨v,w'',rfl,⟨rfl,he⟩,hsame⟩,hd⟩
 have he':Ext W w':=he.same_right hsame
 refine ⟨rfl,w'.drawn - W.drawn,w'.heap.extract W.heap.size w'.heap.size,?_⟩
 obtain ⟨hp,tp,dr,os',op⟩:=w'
 have h1:tp = W.tape:=he'.tape
 have h2:os' = W.os:=he'.os
 have h3:op = W.output:=he'.output
 have h4:dr = W.drawn + (dr - W.drawn):=by have:W.drawn <= dr:=hd rfl; omega
 have h5:hp = W.heap ++ hp.extract W.heap.size hp.size:=by
  apply Array.ext_getElem?
  intro q
  have hsz:W.heap.size <= hp.size:=he'.size
  by_cases hq:q < W.heap.size
  ·rw [Array.getElem?_append_left hq]
   exact he'.block q hq
  ·rw [Array.getElem?_append_right (by omega),Array.getElem?_extract]
   by_cases h2:q < hp.size
   ·rw [if_pos (by omega)]
    congr 1; omega
   ·rw [if_neg (by omega),Array.getElem?_eq_none (by omega)]
 subst h1 h2 h3
 unfold grow World.drewN
 simp only
 rw [<-h4,<-h5]
theorem sortV {P:Program} {f g:Nat} {cb:Array Value} {enc:α -> List Value} {k:Nat} (hk:∀ x,(enc x).length = k) {lt:α -> α -> Bool}
  (hsort:∀ (W:World) (blk cap:Nat) (d:Array α),d.size < 4611686018427387904 -> HoldsK enc k W blk 0 d -> blk < W.heap.size -> Calls P f #[.slice (some ⟨blk,0,none⟩) d.size cap,.func (.func g) #[] cb] W fun e w' =>
   e = .returned (.tuple #[]) ∧ ∃ d' n os,PermIn 0 d.size d d' ∧ SortedIn lt 0 d.size d' ∧ w' = sortWorldK enc k W blk 0 n d' os)
  (hnone:∀ (A:Option Addr) (cap:Nat) (W:World),Calls P f #[.slice A 0 cap,.func (.func g) #[] cb] W fun e w' => e = .returned (.tuple #[]) ∧ w' = W)
  {w:World} {base e:Nat} {v:Value} {l:List α} (h:w.ownsRow base e k v l.length (l.flatMap enc)) (hlen:l.length < 4611686018427387904) :
  CallsV P f #[v,.func (.func g) #[] cb] w fun r w' => r = .tuple #[] ∧ ∃ l':List α,l'.Perm l ∧ (l'.Pairwise fun a b => lt b a = false) ∧ w'.ownsRow base e k v l'.length (l'.flatMap enc) ∧ w.grownBy w' v.ownBlock ∧ Only e w w':=by
 refine callsV_of_calls fun w₁ hs => ?_
 have h1:=ownsRow_same hs h
 have turn:∀ {w':World} {row:Option Nat},w₁.grownBy w' row -> w.grownBy w' row:=fun hg => ⟨hg.os.trans hs.os,hg.tape.trans hs.tape,hg.output.trans hs.output,by rw [<-hs.heap]; exact hg.size,fun q hq hne => by rw [<-hs.heap] at hq ⊢; exact hg.block q hq hne⟩
 have turnO:∀ {w':World},Only e w₁ w' -> Only e w w':=fun ho q c t fr hq hne => ho q c t fr (by rw [hs.heap]; exact hq) hne
 by_cases h0:l = []
 ·subst h0
  obtain ⟨A,c,rfl,_,_⟩:=reads_of_owns h1
  refine (hnone A c w₁).mono ?_
  rintro r w' ⟨rfl,rfl⟩
  exact ⟨_,rfl,⟨rfl,[],List.Perm.refl _,List.Pairwise.nil,h1,turn (grownBy_refl _ _),turnO (only_ext _ (Ext.refl _))⟩,Nat.le_refl _⟩
 ·have hpos:0 < l.length:=List.length_pos_iff.2 h0
  have hv:∃ q cap,v = .slice (some ⟨q,0,none⟩) l.length cap:=by
   obtain ⟨_,⟨hv,hn⟩ | ⟨q,cap,cur,hv,_⟩⟩:=h1
   ·omega
   ·exact ⟨q,cap,hv⟩
  obtain ⟨q,cap,rfl⟩:=hv
  obtain ⟨hH,hlt,hB,hrow⟩:=sort_row hk h1
  have hcall:=hsort w₁ q cap l.toArray (by simpa using hlen) hH hlt
  simp only [List.size_toArray] at hcall
  refine hcall.mono ?_
  rintro r w' ⟨rfl,d',n,os,hp,hso,rfl⟩
  have hsz:d'.size = l.length:=by simpa using hp.1
  obtain ⟨ho,hg,hon⟩:=hrow d' n os hsz
  have hperm:d'.toList.Perm l:=by
   have:=hp.2.2
   have e1:d'.extract 0 l.length = d':=by rw [<-hsz]; exact Array.extract_size
   have e2:l.toArray.extract 0 l.length = l.toArray:=by simp
   rw [e1,e2] at this
   simpa using this
  refine ⟨_,rfl,⟨rfl,d'.toList,hperm,?_,?_,turn hg,turnO hon⟩,?_⟩
  ·refine List.pairwise_iff_getElem.2 fun i j hi hj hij => ?_
   have hi':i < d'.size:=by simpa using hi
   have hj':j < d'.size:=by simpa using hj
   have:=hso i j (Nat.zero_le _) hij (by omega)
   rw [getElem!_pos d' i hi',getElem!_pos d' j hj'] at this
   simpa using this
  ·have e:d'.toList.length = l.length:=by rw [Array.length_toList,hsz]
   rw [e]; simpa using ho
  ·show w₁.drawn <= w₁.drawn + n
   omega
end
end Go.Eng
