/- a part of the proof: steps, walks and plain laws that the law below stands on; no condition. -/
import Derived.Test.YtdpdjcopkehdjaaGreatRXa
import Derived.Test.YtdpdjcopkehdjaaGreatRXb
import Derived.Test.YtdpdjcopkehdjaaGreatRXc
import Derived.Test.YtdpdjcopkehdjaaGreatRXe
import Derived.Deep.LoopGhost
set_option linter.unusedVariables false
set_option linter.unusedSimpArgs false
set_option linter.unnecessarySimpa false
set_option linter.unusedSectionVars false
namespace Go.Proofs.YtdpdjcopkehdjaaGreat.Rk
open Go.Eng Go.RowKit
noncomputable def standS (N:Int) (xs:List Arrow) (a b:Int):Int:=if chk N xs = 0 then (if inR N a && inR N b then standR (reach (toM xs)) a.toNat b.toNat else 0) else 0
theorem inR_nat {N a:Int} (h:inR N a = true):∃ p:Nat,a = (p:Int) ∧ (p:Int) <= N - 1:=by
 have:=of_decide_eq_true h
 obtain ⟨p,rfl⟩:=Int.eq_ofNat_of_zero_le this.1
 exact ⟨p,rfl,this.2⟩
theorem all2 (N a b:Int):[a,b].all (inR N) = (inR N a && inR N b):=by simp
theorem Standing_spec {N:Int} {A:Option Addr} {xs:List Arrow} {c:Nat} {w:World} (h:HRel w N A xs c) (a b:Int) :
  CallsV C.P 36 #[relVal N A xs.length c,.int .i64 a,.int .i64 b] w fun v w' => v = .int .u8 (standS N xs a b) ∧ Ext w w':=by
 refine callsV_of C_ok (args:=[_,_,_]) (plans:=[]) Tryz.func36 rfl Tryz.ntmps36 (by kernel_rfl) (Nat.le_of_ble_eq_true rfl) ?_
 intro g1 w1 h1
 have M1:=(Mem.start w).alloc h1
 refine ⟨[.int .i64 N,.slice A xs.length c],rfl,M1.rd 0 rfl,?_⟩
 by_cases hv:chk N xs = 0
 ·have hok:=valid_of_chk hv
  refine (open_yes (h.ext M1.ext) hok).mono ?_
  rintro v w2 ⟨g,rfl,hg,hw,he⟩
  have M2:=M1.grow he
  intro g3 w3 h3
  have M3:=M2.alloc h3
  refine (has_spec (xs:=[a,b]) (hw.ext h3.ext) ⟨hok.lo,hok.hi⟩ (.inr ⟨g3,0,rfl,M3.rd 0 rfl⟩) (by simp)).mono ?_
  rintro v w4 ⟨rfl,he4⟩
  have M4:=M3.grow he4
  rw [all2]
  refine brE_mk (fun hb => ?_) (fun hb => ?_)
  ·rw [Bool.not_eq_true'] at hb
   exact ⟨by simp only [standS,hv,if_true,hb]; rfl,M4.ext⟩
  ·rw [Bool.not_eq_false'] at hb
   have hb':=Bool.and_eq_true_iff.1 hb
   obtain ⟨p,rfl,hp⟩:=inR_nat hb'.1
   obtain ⟨q,rfl,hq⟩:=inR_nat hb'.2
   have:=hok.hi
   refine (standing_spec ((hw.ext h3.ext).ext he4) (a:=p) (b:=q) (by omega) (by omega)).mono ?_
   rintro v w5 ⟨rfl,rfl⟩
   exact ⟨by simp only [standS,hv,if_true,hb]; rfl,M4.ext⟩
 ·refine (open_no (h.ext M1.ext) hv).mono ?_
  rintro v w2 ⟨rfl,he⟩
  exact ⟨by simp only [standS,if_neg hv],(M1.grow he).ext⟩
def linksB (T:Nat -> Nat -> Bool):List Int -> Bool
 | x :: y :: r => T x.toNat y.toNat && linksB T (y :: r)
 | _ => true
def chainOk (N:Int) (T:Nat -> Nat -> Bool) (a b:Int) (l:List Int):Bool :=
 inR N a && inR N b && l.all (inR N) && !decide (l.length < 2) && decide (l.head? = some a) && decide (l.getLast? = some b) && linksB T l
def checkS (N:Int) (xs:List Arrow) (a b:Int) (l:List Int):Bool:=decide (chk N xs = 0) && chainOk N (toM xs) a b l
theorem linksB_at {T:Nat -> Nat -> Bool}:∀ {l:List Int},linksB T l = true <-> ∀ i (h:i + 1 < l.length),T (l[i]).toNat (l[i + 1]).toNat = true
 | [] => by simp [linksB]
 | [x] => by simp [linksB]
 | x :: y :: r => by
  rw [linksB,Bool.and_eq_true,linksB_at (l:=y :: r)]
  constructor
  ·rintro ⟨h1,h2⟩ i hi
   cases i with
   | zero => exact h1
   | succ i => exact h2 i (by simpa using hi)
  ·intro h
   exact ⟨h 0 (by simp),fun i hi => h (i + 1) (by simpa using hi)⟩
theorem head_at {l:List Int} (h:0 < l.length):l.head? = some l[0]:=by
 cases l with
 | nil => simp at h
 | cons x l => rfl
theorem CheckChain_spec {N:Int} {A B:Option Addr} {xs:List Arrow} {c d:Nat} {w:World} (h:HRel w N A xs c) (a b:Int) {l:List Int} (hr:Reads w B (ints l)) (hl:l.length <= 9223372036854775807) :
  CallsV C.P 38 #[relVal N A xs.length c,.int .i64 a,.int .i64 b,.slice B l.length d] w fun v w' => v = .bool (checkS N xs a b l) ∧ Ext w w':=by
 refine callsV_of C_ok (args:=[_,_,_,_]) (plans:=plans38) Tryz.func38 rfl Tryz.ntmps38 (by kernel_rfl) (Nat.le_of_ble_eq_true rfl) ?_
 intro g1 w1 h1
 have M1:=(Mem.start w).alloc h1
 refine ⟨[.int .i64 N,.slice A xs.length c],rfl,M1.rd 0 rfl,?_⟩
 by_cases hv:chk N xs = 0
 ·have hok:=valid_of_chk hv
  have hN:=hok.hi
  refine (open_yes (h.ext M1.ext) hok).mono ?_
  rintro v w2 ⟨g,rfl,hg,hw,he⟩
  have M2:=M1.grow he
  intro g3 w3 h3
  have M3:=M2.alloc h3
  refine (has_spec (xs:=[a,b]) (hw.ext h3.ext) ⟨hok.lo,hok.hi⟩ (.inr ⟨g3,0,rfl,M3.rd 0 rfl⟩) (by simp)).mono ?_
  rintro v w4 ⟨rfl,he4⟩
  have M4:=M3.grow he4
  rw [all2]
  refine brE_mk (fun hb => ?_) (fun hb => ?_)
  ·rw [Bool.not_eq_true'] at hb
   exact ⟨by simp only [checkS,chainOk,hb,Bool.false_and,Bool.and_false],M4.ext⟩
  rw [Bool.not_eq_false'] at hb
  have hw4:=(hw.ext h3.ext).ext he4
  refine (has_spec (xs:=l) hw4 ⟨hok.lo,hok.hi⟩ (hr.ext M4.ext) hl).mono ?_
  rintro v w5 ⟨rfl,he5⟩
  have M5:=M4.grow he5
  have hw5:=hw4.ext he5
  have hr5:=hr.ext M5.ext
  refine brE_mk (fun hb2 => ?_) (fun hb2 => ?_)
  ·rw [Bool.not_eq_true'] at hb2
   exact ⟨by simp only [checkS,chainOk,hb2,Bool.and_false,Bool.false_and],M5.ext⟩
  rw [Bool.not_eq_false'] at hb2
  refine brE_dec (fun h2 => ?_) (fun h2 => ?_)
  ·have h2:l.length < 2:=by omega
   exact ⟨by simp only [checkS,chainOk,h2,decide_true,Bool.not_true,Bool.and_false,Bool.false_and],M5.ext⟩
  have h2:2 <= l.length:=by omega
  obtain ⟨bb,oo,hB,hc0⟩:=Reads.int hr5 (i:=0) (by omega)
  refine ⟨0,bb,oo,rfl,by omega,hB,?_⟩
  refine ⟨_,by simpa using hc0,?_⟩
  have hhead:=head_at (l:=l) (by omega)
  refine brE_mk (fun hb3 => ?_) (fun hb3 => ?_)
  ·have:l[0] ≠ a:=by simpa using hb3
   exact ⟨by simp [checkS,chainOk,hhead,this],M5.ext⟩
  have hb3:l[0] = a:=by simpa using hb3
  obtain ⟨bb,oo,hB,hc1⟩:=Reads.int hr5 (i:=l.length - 1) (by omega)
  refine ⟨((l.length - 1:Nat):Int),by rw [fit ⟨by omega,by omega⟩]; omega,?_⟩
  refine ⟨l.length - 1,bb,oo,rfl,by omega,hB,?_⟩
  refine ⟨_,by simpa using hc1,?_⟩
  have hlast:l.getLast? = some l[l.length - 1]:=by rw [List.getLast?_eq_getElem?]; simp
  refine brE_mk (fun hb4 => ?_) (fun hb4 => ?_)
  ·have:l[l.length - 1] ≠ b:=by simpa using hb4
   exact ⟨by simp [checkS,chainOk,hlast,this],M5.ext⟩
  have hb4:l[l.length - 1] = b:=by simpa using hb4
  have hfin:checkS N xs a b l = linksB (toM xs) l:=by
   have h2':¬ l.length < 2:=by omega
   rw [checkS,chainOk,hb,hb2,hhead,hlast,hb3,hb4,hv]
   simp [h2']
  rw [hfin]
  refine loopE C_ok (fun (i:Nat) => [(3,.slice B l.length d),(9,.pointer (some ⟨g,0,none⟩)),(11,.int .i64 i)])
   (fun i w' => Ext w w' ∧ Ext w5 w' ∧ 1 <= i ∧ i <= l.length ∧ ∀ j (hj:j + 1 < l.length),j + 1 < i -> toM xs (l[j]).toNat (l[j + 1]).toNat = true) (fun i => l.length - i) 1 ⟨rfl,rfl,rfl,trivial⟩
   ⟨M5.ext,Ext.refl _,Nat.le_refl _,by omega,fun j hj hj1 => by omega⟩ ?_
  rintro i w6 ⟨E6,E56,hi1,hi,hall⟩
  refine brE_dec (fun hlt => ?_) (fun hge => ?_)
  ·obtain ⟨i,rfl⟩:∃ k,i = k + 1:=⟨i - 1,by omega⟩
   have hlt:i + 1 < l.length:=by omega
   have hr6:=hr.ext E6
   obtain ⟨b1,o1,hB1,hc1⟩:=Reads.int hr6 (i:=i) (by omega)
   obtain ⟨b2,o2,hB2,hc2⟩:=Reads.int hr6 (i:=i + 1) hlt
   have in1:=List.all_eq_true.1 hb2 l[i] (List.getElem_mem _)
   have in2:=List.all_eq_true.1 hb2 l[i + 1] (List.getElem_mem _)
   obtain ⟨p,ep,hp⟩:=inR_nat in1
   obtain ⟨q,eq,hq⟩:=inR_nat in2
   rw [ep] at hc1
   rw [eq] at hc2
   refine ⟨(i:Int),by rw [fit ⟨by omega,by omega⟩]; omega,?_⟩
   refine ⟨i,b1,o1,rfl,by omega,hB1,?_⟩
   refine ⟨_,by simpa using hc1,?_⟩
   refine ⟨i + 1,b2,o2,rfl,hlt,hB2,?_⟩
   refine ⟨_,by simpa using hc2,?_⟩
   refine ⟨p,rfl,by omega,?_⟩
   refine ⟨q,rfl,by omega,?_⟩
   refine ⟨_,(hw5.ext E56).to (by omega) (by omega),?_⟩
   refine brE_mk (fun hb5 => ?_) (fun hb5 => ?_)
   ·refine ⟨?_,E6⟩
    have:linksB (toM xs) l = false:=by
     cases hx:linksB (toM xs) l with
     | false => rfl
     | true =>
      have:=linksB_at.1 hx i hlt
      rw [ep,eq] at this
      simp at this
      rw [this] at hb5; cases hb5
    rw [this]
   ·have hb5:toM xs p q = true:=by simpa using hb5
    refine ⟨((i + 1 + 1:Nat):Int),fit ⟨by omega,by omega⟩,?_⟩
    refine ⟨i + 1 + 1,⟨rfl,rfl,rfl,trivial⟩,⟨E6,E56,by omega,hlt,fun j hj hj1 => ?_⟩,by omega⟩
    rcases Nat.lt_or_ge (j + 1) (i + 1) with h | h
    ·exact hall j hj h
    ·obtain rfl:j = i:=by omega
     rw [ep,eq]; simpa using hb5
  ·have:i = l.length:=by omega
   subst this
   refine ⟨?_,E6⟩
   rw [linksB_at.2 fun j hj => hall j hj hj]
 ·refine (open_no (h.ext M1.ext) hv).mono ?_
  rintro v w2 ⟨rfl,he⟩
  exact ⟨by simp [checkS,hv],(M1.grow he).ext⟩
end Go.Proofs.YtdpdjcopkehdjaaGreat.Rk
namespace Go.Proofs.YtdpdjcopkehdjaaGreat.Rk
open Go.Eng Go.RowKit
def walk (T:Nat -> Nat -> Bool) (b:Nat):Nat -> Nat -> Prop
 | 0,x => x = b
 | k + 1,x => ∃ y,T x y = true ∧ walk T b k y
theorem walk_path {T:Nat -> Nat -> Bool} {b:Nat}:∀ {k x:Nat},walk T b (k + 1) x -> Path T x b
 | 0,x,⟨y,h,e⟩ => by have e:y = b:=e; subst e; exact .one h
 | k + 1,x,⟨y,h,hy⟩ => Path.head h (walk_path hy)
theorem walk_snoc {T:Nat -> Nat -> Bool} {b c:Nat} (h:T b c = true):∀ {k x:Nat},walk T b k x -> walk T c (k + 1) x
 | 0,x,e => by have e:x = b:=e; subst e; exact ⟨c,h,rfl⟩
 | _ + 1,_,⟨y,hy,hw⟩ => ⟨y,hy,walk_snoc h hw⟩
theorem path_walk {T:Nat -> Nat -> Bool} {a b:Nat} (h:Path T a b):∃ k,walk T b (k + 1) a:=by
 induction h with
 | one h => exact ⟨0,_,h,rfl⟩
 | step _ h ih => obtain ⟨k,hk⟩:=ih; exact ⟨k + 1,walk_snoc h hk⟩
def isDist (T:Nat -> Nat -> Bool) (b k x:Nat):Prop:=1 <= k ∧ walk T b k x ∧ ∀ j,1 <= j -> walk T b j x -> k <= j
theorem isDist_unique {T:Nat -> Nat -> Bool} {b k j x:Nat} (h:isDist T b k x) (g:isDist T b j x):k = j:=by
 have:=h.2.2 j g.1 g.2.1
 have:=g.2.2 k h.1 h.2.1
 omega
theorem isDist_of_walk {T:Nat -> Nat -> Bool} {b k x:Nat} (hk:1 <= k) (h:walk T b k x):∃ j,isDist T b j x ∧ j <= k:=by
 obtain ⟨n,⟨h1,h2⟩,hl⟩:=exists_least (p:=fun n => 1 <= n ∧ walk T b n x) ⟨k,hk,h⟩
 exact ⟨n,⟨h1,h2,fun j hj hw => hl j ⟨hj,hw⟩⟩,hl k ⟨hk,h⟩⟩
open Classical in
noncomputable def dist (T:Nat -> Nat -> Bool) (b x:Nat):Nat:=if h:∃ k,isDist T b k x then h.choose else 0
theorem dist_pos {T:Nat -> Nat -> Bool} {b x:Nat} (h:dist T b x ≠ 0):isDist T b (dist T b x) x:=by
 unfold dist at h ⊢
 split
 ·rename_i hx; exact hx.choose_spec
 ·rename_i hx; rw [dif_neg hx] at h; exact absurd rfl h
theorem dist_eq {T:Nat -> Nat -> Bool} {b k x:Nat} (h:isDist T b k x):dist T b x = k:=by
 have hx:∃ k,isDist T b k x:=⟨k,h⟩
 unfold dist
 rw [dif_pos hx]
 exact isDist_unique hx.choose_spec h
theorem dist_zero {T:Nat -> Nat -> Bool} {b x:Nat}:dist T b x = 0 <-> ¬ Path T x b:=by
 constructor
 ·intro h hp
  obtain ⟨k,hk⟩:=path_walk hp
  obtain ⟨j,hj,_⟩:=isDist_of_walk (by omega) hk
  have:=dist_eq hj
  have:=hj.1
  omega
 ·intro h
  by_cases h0:dist T b x = 0
  ·exact h0
  ·have:=dist_pos h0
   obtain ⟨k,hk⟩:∃ k,dist T b x = k + 1:=⟨dist T b x - 1,by omega⟩
   rw [hk] at this
   exact absurd (walk_path this.2.1) h
theorem dist_one {T:Nat -> Nat -> Bool} {b x:Nat}:dist T b x = 1 <-> T x b = true:=by
 constructor
 ·intro h
  have:=dist_pos (by omega:dist T b x ≠ 0)
  rw [h] at this
  obtain ⟨y,hy,e⟩:=this.2.1
  have e:y = b:=e
  subst e; exact hy
 ·intro h
  exact dist_eq ⟨Nat.le_refl _,⟨b,h,rfl⟩,fun j hj _ => hj⟩
theorem dist_next {T:Nat -> Nat -> Bool} {b n x:Nat} (hn:2 <= n):dist T b x = n <-> (dist T b x = 0 ∨ n <= dist T b x) ∧ ∃ y,T x y = true ∧ dist T b y = n - 1:=by
 constructor
 ·intro h
  have hd:=dist_pos (by omega:dist T b x ≠ 0)
  rw [h] at hd
  obtain ⟨k,rfl⟩:∃ k,n = k + 1:=⟨n - 1,by omega⟩
  obtain ⟨y,hy,hw⟩:=hd.2.1
  refine ⟨.inr (by omega),y,hy,?_⟩
  obtain ⟨j,hj,hjk⟩:=isDist_of_walk (by omega) hw
  have h1:=hd.2.2 (j + 1) (by omega) ⟨y,hy,hj.2.1⟩
  rw [dist_eq hj]; omega
 ·rintro ⟨hlow,y,hy,hdy⟩
  have hd:=dist_pos (by omega:dist T b y ≠ 0)
  rw [hdy] at hd
  have hw:walk T b n x:=by
   obtain ⟨k,rfl⟩:∃ k,n = k + 1:=⟨n - 1,by omega⟩
   exact ⟨y,hy,hd.2.1⟩
  obtain ⟨j,hj,hjn⟩:=isDist_of_walk (by omega) hw
  rw [dist_eq hj] at hlow ⊢
  have:=hj.1
  omega
theorem dist_down {T:Nat -> Nat -> Bool} {b:Nat}:∀ (m x:Nat),dist T b x = m + 1 -> ∀ j,1 <= j -> j <= m + 1 -> ∃ y,dist T b y = j
 | 0,x,h,j,h1,h2 => ⟨x,by omega⟩
 | m + 1,x,h,j,h1,h2 => by
  by_cases hj:j = m + 2
  ·exact ⟨x,by omega⟩
  ·obtain ⟨_,y,_,hy⟩:=(dist_next (by omega)).1 h
   exact dist_down m y (by omega) j h1 (by omega)
theorem dist_lt {n:Nat} {T:Nat -> Nat -> Bool} (hT:Inside n T) {b x:Nat} (h:dist T b x ≠ 0):x < n:=by
 have:=dist_pos h
 obtain ⟨k,hk⟩:∃ k,dist T b x = k + 1:=⟨dist T b x - 1,by omega⟩
 rw [hk] at this
 obtain ⟨y,hy,_⟩:=this.2.1
 exact (hT _ _ hy).1
noncomputable def stepsAt (T:Nat -> Nat -> Bool) (b n x:Nat):Nat:=if dist T b x < n then dist T b x else 0
noncomputable def nowAt (T:Nat -> Nat -> Bool) (b n y:Nat):Bool:=if n = 1 then decide (y = b) else decide (dist T b y = n - 1)
noncomputable def hit (T:Nat -> Nat -> Bool) (b n:Nat) (ys:List Int) (x j:Nat):Bool:=decide (stepsAt T b n x = 0) && (ys.take j).any fun y => T x y.toNat
theorem hit_zero (T:Nat -> Nat -> Bool) (b n:Nat) (ys:List Int) (x:Nat):hit T b n ys x 0 = false:=by simp [hit]
theorem hit_succ {T:Nat -> Nat -> Bool} {b n:Nat} {ys:List Int} {x j:Nat} (hj:j < ys.length):hit T b n ys x (j + 1) = (hit T b n ys x j || (decide (stepsAt T b n x = 0) && T x (ys[j]).toNat)):=by
 unfold hit
 rw [List.take_succ_eq_append_getElem hj,List.any_append,Bool.and_or_distrib_left]
 simp
theorem members_any {S:Nat -> Bool} {p:Nat -> Bool}:((members S).any fun y => p y.toNat) = true <-> ∃ y,y < 24 ∧ S y = true ∧ p y = true:=by
 rw [List.any_eq_true]
 constructor
 ·rintro ⟨y,hy,hp⟩
  obtain ⟨k,hk,rfl⟩:=List.mem_map.1 hy
  obtain ⟨h1,h2⟩:=List.mem_filter.1 hk
  exact ⟨k,List.mem_range.1 h1,h2,by simpa using hp⟩
 ·rintro ⟨y,h1,h2,h3⟩
  exact ⟨(y:Int),List.mem_map.2 ⟨y,List.mem_filter.2 ⟨List.mem_range.2 h1,h2⟩,rfl⟩,by simpa using h3⟩
theorem hit_all {T:Nat -> Nat -> Bool} (hT:Inside 24 T) {b n:Nat} (hb:b < 24) (hn:1 <= n) (x:Nat):hit T b n (members (nowAt T b n)) x (members (nowAt T b n)).length = decide (dist T b x = n):=by
 rw [Bool.eq_iff_iff]
 unfold hit
 rw [List.take_length,Bool.and_eq_true,members_any,decide_eq_true_eq,decide_eq_true_eq]
 unfold stepsAt nowAt
 by_cases h1:n = 1
 ·subst h1
  constructor
  ·rintro ⟨_,y,_,hy,ht⟩
   have:y = b:=by simpa using hy
   subst this
   exact dist_one.2 ht
  ·intro h
   refine ⟨by rw [if_neg (by omega)],b,hb,by simp,dist_one.1 h⟩
 ·simp only [if_neg h1]
  rw [dist_next (by omega:2 <= n)]
  constructor
  ·rintro ⟨h0,y,_,hy,ht⟩
   refine ⟨?_,y,ht,by simpa using hy⟩
   by_cases hlt:dist T b x < n
   ·rw [if_pos hlt] at h0; exact .inl h0
   ·exact .inr (by omega)
  ·rintro ⟨h0,y,ht,hy⟩
   refine ⟨?_,y,(hT _ _ ht).2,by simpa [h1] using hy,ht⟩
   rcases h0 with h0 | h0
   ·rw [h0]; simp
   ·rw [if_neg (by omega)]
def cnt (m x0 j:Nat):Nat -> Nat:=fun x => if x < x0 then m else if x = x0 then j else 0
noncomputable def stepsMid (T:Nat -> Nat -> Bool) (b n:Nat) (ys:List Int) (x0 j:Nat):Nat -> Nat:=fun x => if hit T b n ys x (cnt ys.length x0 j x) then n else stepsAt T b n x
noncomputable def nextMid (T:Nat -> Nat -> Bool) (b n:Nat) (ys:List Int) (x0 j:Nat):Nat -> Bool:=fun x => hit T b n ys x (cnt ys.length x0 j x)
theorem mid_start (T:Nat -> Nat -> Bool) (b n:Nat) (ys:List Int):stepsMid T b n ys 0 0 = stepsAt T b n ∧ nextMid T b n ys 0 0 = fun _ => false:=by
 constructor <;> funext x <;> simp [stepsMid,nextMid,cnt,hit_zero]
theorem mid_row (T:Nat -> Nat -> Bool) (b n:Nat) (ys:List Int) (x0:Nat):stepsMid T b n ys x0 ys.length = stepsMid T b n ys (x0 + 1) 0 ∧ nextMid T b n ys x0 ys.length = nextMid T b n ys (x0 + 1) 0:=by
 have h:∀ x,hit T b n ys x (cnt ys.length x0 ys.length x) = hit T b n ys x (cnt ys.length (x0 + 1) 0 x):=by
  intro x
  unfold cnt
  by_cases h1:x < x0
  ·rw [if_pos h1,if_pos (by omega)]
  ·rw [if_neg h1]
   by_cases h2:x = x0
   ·rw [if_pos h2,if_pos (by omega)]
   ·rw [if_neg h2,if_neg (by omega)]
    by_cases h3:x = x0 + 1
    ·rw [if_pos h3]
    ·rw [if_neg h3]
 constructor <;> funext x <;> simp only [stepsMid,nextMid,h]
theorem mid_end {N:Nat} {T:Nat -> Nat -> Bool} (hT:Inside N T) (h24:N <= 24) {b n:Nat} (hb:b < 24) (hn:1 <= n) :
  stepsMid T b n (members (nowAt T b n)) N 0 = stepsAt T b (n + 1) ∧ nextMid T b n (members (nowAt T b n)) N 0 = nowAt T b (n + 1):=by
 have hT24:Inside 24 T:=fun p q hpq => by have:=hT p q hpq; omega
 have h:∀ x,hit T b n (members (nowAt T b n)) x (cnt (members (nowAt T b n)).length N 0 x) = decide (dist T b x = n):=by
  intro x
  unfold cnt
  by_cases h1:x < N
  ·rw [if_pos h1]; exact hit_all hT24 hb hn x
  ·rw [if_neg h1]
   have:dist T b x = 0:=by
    by_cases h0:dist T b x = 0
    ·exact h0
    ·exact absurd (dist_lt hT h0) h1
   have e:(if x = N then 0 else 0) = 0:=by split <;> rfl
   rw [e,hit_zero,this]
   symm; simp; omega
 constructor <;> funext x
 ·simp only [stepsMid,h,stepsAt,decide_eq_true_eq]
  by_cases h1:dist T b x = n
  ·rw [if_pos h1,if_pos (by omega),h1]
  ·rw [if_neg h1]
   by_cases h2:dist T b x < n
   ·rw [if_pos h2,if_pos (by omega)]
   ·rw [if_neg h2,if_neg (by omega)]
 ·simp only [nextMid,h,nowAt]
  rw [if_neg (by omega)]
  simp
theorem mid_found {T:Nat -> Nat -> Bool} {b n:Nat} (hn:1 <= n) {ys:List Int} {x0 j:Nat} (hj:j < ys.length) (ht:T x0 (ys[j]).toNat = true) (h0:stepsMid T b n ys x0 j x0 = 0) :
  (fun x => if x = x0 then n else stepsMid T b n ys x0 j x) = stepsMid T b n ys x0 (j + 1) ∧ upd (nextMid T b n ys x0 j) x0 true = nextMid T b n ys x0 (j + 1):=by
 have c1:cnt ys.length x0 j x0 = j:=by simp [cnt]
 have c2:cnt ys.length x0 (j + 1) x0 = j + 1:=by simp [cnt]
 have c3:∀ x,x ≠ x0 -> cnt ys.length x0 j x = cnt ys.length x0 (j + 1) x:=by intro x hx; simp [cnt,hx]
 have hs:stepsAt T b n x0 = 0 ∧ hit T b n ys x0 j = false:=by
  simp only [stepsMid,c1] at h0
  split at h0
  ·omega
  ·rename_i hc
   exact ⟨h0,by simpa using hc⟩
 have h1:hit T b n ys x0 (j + 1) = true:=by rw [hit_succ hj,hs.1,ht]; simp
 constructor <;> funext x
 ·by_cases hx:x = x0
  ·subst hx; simp [stepsMid,c2,h1]
  ·simp [stepsMid,hx,c3 x hx]
 ·by_cases hx:x = x0
  ·subst hx; simp [nextMid,upd,c2,h1]
  ·simp [nextMid,upd,hx,c3 x hx]
theorem mid_not {T:Nat -> Nat -> Bool} {b n:Nat} {ys:List Int} {x0 j:Nat} (hj:j < ys.length) (h:T x0 (ys[j]).toNat = false ∨ stepsMid T b n ys x0 j x0 ≠ 0) :
  stepsMid T b n ys x0 j = stepsMid T b n ys x0 (j + 1) ∧ nextMid T b n ys x0 j = nextMid T b n ys x0 (j + 1):=by
 have c1:cnt ys.length x0 j x0 = j:=by simp [cnt]
 have c2:cnt ys.length x0 (j + 1) x0 = j + 1:=by simp [cnt]
 have c3:∀ x,x ≠ x0 -> cnt ys.length x0 j x = cnt ys.length x0 (j + 1) x:=by intro x hx; simp [cnt,hx]
 have hh:hit T b n ys x0 (j + 1) = hit T b n ys x0 j:=by
  rw [hit_succ hj]
  rcases h with h | h
  ·rw [h]; simp
  ·simp only [stepsMid,c1] at h
   cases hb:hit T b n ys x0 j with
   | true => rfl
   | false =>
    rw [hb] at h
    have:stepsAt T b n x0 ≠ 0:=h
    simp [this]
 constructor <;> funext x <;> by_cases hx:x = x0
 ·subst hx; simp [stepsMid,c1,c2,hh]
 ·simp [stepsMid,c3 x hx]
 ·subst hx; simp [nextMid,c1,c2,hh]
 ·simp [nextMid,c3 x hx]
theorem steps_done {T:Nat -> Nat -> Bool} (hT:Inside 24 T) {b n:Nat} (hb:b < 24) (hn:1 <= n) (he:∀ y < 24,nowAt T b n y = false):stepsAt T b n = dist T b:=by
 funext x
 unfold stepsAt
 by_cases h:dist T b x < n
 ·rw [if_pos h]
 ·exfalso
  by_cases h1:n = 1
  ·subst h1
   have:=he b hb
   simp [nowAt] at this
  ·obtain ⟨m,hm⟩:∃ m,dist T b x = m + 1:=⟨dist T b x - 1,by omega⟩
   obtain ⟨y,hy⟩:=dist_down m x hm (n - 1) (by omega) (by omega)
   have hy24:y < 24:=dist_lt hT (by omega:dist T b y ≠ 0)
   have:=he y hy24
   simp [nowAt,h1,hy] at this
noncomputable def follow (T:Nat -> Nat -> Bool) (d:Nat -> Nat):Nat -> Nat -> List Int
 | _,0 => []
 | x,k + 1 => match (members (T x)).find? fun y => decide (d y.toNat = k + 1) with
  | some y => y :: follow T d y.toNat k
  | none => []
theorem find_at {l:List Int} {p:Int -> Bool}:∀ {i:Nat} (hi:i < l.length),(∀ j (h:j < l.length),j < i -> p l[j] = false) -> p l[i] = true -> l.find? p = some l[i]:=by
 induction l with
 | nil => intro i hi; simp at hi
 | cons x l ih =>
  intro i hi h hp
  cases i with
  | zero => simp at hp; simp [hp]
  | succ i =>
   have h0:=h 0 (by simp) (by omega)
   simp at h0
   rw [List.find?_cons_of_neg (by simp [h0])]
   have:=ih (i:=i) (by simpa using hi) (fun j hj hji => by have:=h (j + 1) (by simpa using hj) (by omega); simpa using this) (by simpa using hp)
   simpa using this
end Go.Proofs.YtdpdjcopkehdjaaGreat.Rk
namespace Go.Proofs.YtdpdjcopkehdjaaGreat.Rk
open Go.Eng Go.RowKit
def nats (f:Nat -> Nat):List Value:=(List.range 24).map fun k => .int .i64 (f k:Nat)
theorem nats_length (f:Nat -> Nat):(nats f).length = 24:=by simp [nats]
theorem nats_get {i:Nat} (h:i < 24) (f:Nat -> Nat):(nats f)[i]? = some (.int .i64 (f i:Nat)):=by simp [nats,h]
theorem nats_zero:List.replicate 24 (Value.int .i64 0) = nats fun _ => 0:=by
 apply List.ext_getElem?
 intro i
 by_cases h:i < 24
 ·rw [nats_get h,List.getElem?_replicate,if_pos h]; rfl
 ·rw [List.getElem?_eq_none (by simp; omega),List.getElem?_eq_none (by rw [nats_length]; omega)]
theorem nats_set {i:Nat} (h:i < 24) (f:Nat -> Nat) (n:Nat):splice (nats f) i [.int .i64 (n:Nat)] = nats fun x => if x = i then n else f x:=by
 rw [splice_one (by rw [nats_length]; exact h)]
 apply List.ext_getElem?
 intro k
 rw [List.getElem?_set]
 by_cases hk:i = k
 ·subst hk; rw [if_pos rfl,nats_length,if_pos h,nats_get h]; simp
 ·rw [if_neg hk]
  by_cases hkn:k < 24
  ·rw [nats_get hkn,nats_get hkn]; simp [Ne.symm hk]
  ·rw [List.getElem?_eq_none (by rw [nats_length]; omega),List.getElem?_eq_none (by rw [nats_length]; omega)]
def anyS (S:Nat -> Bool):Bool:=(List.range 24).any S
theorem all_not (S:Nat -> Bool):∀ l:List Nat,(!l.all fun i => S i == false) = l.any S
 | [] => rfl
 | x :: l => by
  have:=all_not S l
  simp only [List.all_cons,List.any_cons,<-this,Bool.not_and]
  cases S x <;> simp
theorem neq_set (S:Nat -> Bool) (x y:Operand):EqIs C.P .neq 128 x y (.agg (setCells S).toArray) (.agg (List.replicate 24 (Value.bool false)).toArray) (anyS S):=by
 intro w
 have hm:C.P.eqGuardType C.P.depth 128 = false:=by kernel_rfl
 have hu:C.P.underlying 128 = some (.array 24 4):=Tryz.underlying128
 rw [Sem.run_bind,run_eqGuard_agg w .neq 128 x y _ _ hm]
 simp only [Result.andThen_ok]
 rw [run_neq_struct]
 have:=eqRun_arr (d:=9999) (xs:=(setCells S).toArray) (ys:=(List.replicate 24 (Value.bool false)).toArray) hu ty4_ok rfl rfl (f:=fun i => S i == false) (fun i hi =>
  ⟨.bool (S i),.bool false,by simpa using bools_get hi S,by rw [List.getElem?_toArray,List.getElem?_replicate,if_pos hi],fun w => run_equalIn_bool' w 9998 4 _ _ Tryz.underlying4⟩) w
 rw [this]
 simp only [Result.andThen_ok,anyS]
 rw [all_not]
theorem anyS_false {S:Nat -> Bool} (h:anyS S = false):∀ y < 24,S y = false:=by
 intro y hy
 cases hs:S y with
 | false => rfl
 | true =>
  have:anyS S = true:=List.any_eq_true.2 ⟨y,List.mem_range.2 hy,hs⟩
  rw [h] at this; cases this
def zeros (f:Nat -> Nat):Nat:=((List.range 24).filter fun k => decide (f k = 0)).length
theorem zeros_step {T:Nat -> Nat -> Bool} {b n:Nat} (hn:1 <= n):zeros (stepsAt T b (n + 1)) <= zeros (stepsAt T b n) ∧ (anyS (nowAt T b (n + 1)) = true -> zeros (stepsAt T b (n + 1)) < zeros (stepsAt T b n)):=by
 have hle:∀ k,decide (stepsAt T b (n + 1) k = 0) = true -> decide (stepsAt T b n k = 0) = true:=by
  intro k hk
  have hk:=of_decide_eq_true hk
  unfold stepsAt at hk
  apply decide_eq_true
  unfold stepsAt
  split at hk
  ·rw [hk]; simp
  ·rw [if_neg (by omega)]
 refine ⟨filter_le _ hle,fun h => ?_⟩
 obtain ⟨y,hy,hd⟩:=List.any_eq_true.1 h
 have hd:dist T b y = n:=by
  unfold nowAt at hd
  rw [if_neg (by omega)] at hd
  have:=of_decide_eq_true hd
  omega
 refine filter_lt _ hle hy ?_ ?_
 ·apply decide_eq_false
  unfold stepsAt
  rw [if_pos (by omega)]; omega
 ·apply decide_eq_true
  unfold stepsAt
  rw [if_neg (by omega)]
noncomputable def chainL (T:Nat -> Nat -> Bool) (a b:Nat):List Int:=(a:Int) :: (follow T (dist T b) a (dist T b a - 1) ++ [(b:Int)])
noncomputable def chainS (N:Int) (xs:List Arrow) (a b:Int):Option (List Int) :=
 if chk N xs = 0 ∧ (inR N a && inR N b) = true ∧ reach (toM xs) a.toNat b.toNat = true then some (chainL (toM xs) a.toNat b.toNat) else none
def ChainPost (w:World) (r:Option (List Int)) (v:Value) (w':World):Prop:=(match r with
 | none => v = .tuple #[.slice none 0 0,.bool false]
 | some l => ∃ s,v = .tuple #[s,.bool true] ∧ NewInts w w' s l) ∧ Ext w w'
theorem nowAt_one (T:Nat -> Nat -> Bool) (b:Nat):nowAt T b 1 = upd (fun _ => false) b true:=by
 funext y
 simp [nowAt,upd]
theorem stepsAt_one (T:Nat -> Nat -> Bool) (b:Nat):stepsAt T b 1 = fun _ => 0:=by
 funext y
 unfold stepsAt
 split
 ·omega
 ·rfl
theorem Chain_spec {N : Int} {A : Option Addr} {xs : List Arrow} {c : Nat} {w : World} (h : HRel w N A xs c) (a b : Int) :
    CallsV C.P 28 #[relVal N A xs.length c, .int .i64 a, .int .i64 b] w (ChainPost w (chainS N xs a b)) := by
  refine callsV_of C_ok (args := [_, _, _]) (plans := plans28) Tryz.func28 rfl Tryz.ntmps28 (by kernel_rfl) (Nat.le_of_ble_eq_true rfl) ?_
  intro g1 w1 h1
  have M1 := (Mem.start w).alloc h1
  refine scopeE C_ok ?_
  refine ⟨[.int .i64 N, .slice A xs.length c], rfl, M1.rd 0 rfl, ?_⟩
  by_cases hv : chk N xs = 0
  case neg =>
    refine (open_no (h.ext M1.ext) hv).mono ?_
    rintro v w2 ⟨rfl, he⟩
    exact ⟨by rw [chainS, if_neg (fun hh => hv hh.1)], (M1.grow he).ext⟩
  have hok := valid_of_chk hv
  have hN := hok.hi
  refine (open_yes (h.ext M1.ext) hok).mono ?_
  rintro v w2 ⟨g, rfl, hg, hw, he⟩
  have M2 := (M1.grow he).add hw (by have := h1.size; have := h1.new; omega) (by
    intro p hp
    have : p = (g1, Obj.cells (relVal N A xs.length c).cells 49) := by simpa using hp
    rw [this]
    have h1n := h1.new
    have := h1.size
    show g1 ≠ g
    omega)
  intro g3 w3 h3
  have M3 := M2.alloc h3
  refine (has_spec (xs := [a, b]) (M3.get 1 rfl) ⟨hok.lo, hok.hi⟩ (.inr ⟨g3, 0, rfl, M3.rd 0 rfl⟩) (by simp)).mono ?_
  rintro v w4 ⟨rfl, he4⟩
  have M4 := (M3.grow he4).tail
  rw [all2]
  refine brE_mk (fun hb => ?_) (fun hb => ?_)
  · rw [Bool.not_eq_true'] at hb
    exact ⟨by rw [chainS, if_neg (fun hh => by rw [hb] at hh; cases hh.2.1)], M4.ext⟩
  rw [Bool.not_eq_false'] at hb
  have hb' := Bool.and_eq_true_iff.1 hb
  obtain ⟨a, rfl, ha⟩ := inR_nat hb'.1
  obtain ⟨b, rfl, hbN⟩ := inR_nat hb'.2
  have ha24 : a < 24 := by omega
  have hb24 : b < 24 := by omega
  refine ⟨a, rfl, ha24, ?_⟩
  refine ⟨b, rfl, hb24, ?_⟩
  refine ⟨_, Web.reach (M4.get 0 rfl) ha24 hb24, ?_⟩
  refine brE_mk (fun hr => ?_) (fun hr => ?_)
  · rw [Bool.not_eq_true'] at hr
    exact ⟨by rw [chainS, if_neg (fun hh => by have := hh.2.2; simp only [Int.toNat_natCast] at this; rw [hr] at this; cases this)], M4.ext⟩
  rw [Bool.not_eq_false'] at hr
  have hS : chainS N xs a b = some (chainL (toM xs) a b) := by
    rw [chainS, if_pos ⟨hv, hb, by simpa using hr⟩]
    simp
  rw [hS]
  obtain ⟨n0, rfl⟩ := Int.eq_ofNat_of_zero_le hok.lo
  have hn0 : n0 ≤ 24 := by omega
  have hT : Inside n0 (toM xs) := by have := hok.inside; simpa using this
  have hT24 := hok.inside24
  generalize hTdef : toM xs = T at *
  intro gst w5 h5
  intro gnow w6 h6
  have M6 := (M4.alloc h5).alloc h6
  refine ⟨b, rfl, hb24, ?_⟩
  refine ⟨rfl, _, _, M6.get 0 rfl, by show 0 + b * 1 + 1 ≤ 24; omega, rfl, ?_⟩
  intro w7 h7
  have e7 : splice (List.replicate 24 (Value.bool false)) (0 + b * 1) [.bool true] = setCells (nowAt T b 1) := by
    rw [bools_false, nowAt_one]
    have := bools_set hb24 (fun _ => false) true
    simpa using this
  have h7 : Put w6 gnow (.cells (setCells (nowAt T b 1)).toArray 128 (0, 0)) w7 := by rw [← e7]; exact h7
  have M7 : Mem w w7 [(gnow, .cells (setCells (nowAt T b 1)).toArray 128 (0, 0)), (gst, .cells (nats (stepsAt T b 1)).toArray 132 (0, 0)), (g, .cells (webCells n0 T (reach T)).toArray 131 (0, 0))] := by
    have := M6.put 0 rfl h7
    rw [stepsAt_one, ← nats_zero]
    exact this.sub (List.Sublist.cons_cons _ (List.Sublist.cons_cons _ (List.Sublist.cons_cons _ (List.nil_sublist _))))
  refine loopE C_ok (fun (n : Nat) => [(1, .int .i64 a), (2, .int .i64 b), (8, .pointer (some ⟨g, 0, none⟩)), (10, .pointer (some ⟨gst, 0, none⟩)), (11, .pointer (some ⟨gnow, 0, none⟩)), (12, .int .i64 n)])
    (fun n w' => 1 ≤ n ∧ n + zeros (stepsAt T b n) ≤ 26 ∧ (anyS (nowAt T b n) = true → n + zeros (stepsAt T b n) ≤ 25) ∧
      Mem w w' [(gnow, .cells (setCells (nowAt T b n)).toArray 128 (0, 0)), (gst, .cells (nats (stepsAt T b n)).toArray 132 (0, 0)), (g, .cells (webCells n0 T (reach T)).toArray 131 (0, 0))])
    (fun n => 2 * zeros (stepsAt T b n) + (if anyS (nowAt T b n) then 1 else 0)) 1 ⟨rfl, rfl, rfl, rfl, rfl, rfl, trivial⟩
    ⟨Nat.le_refl _, by rw [stepsAt_one]; decide, fun _ => by rw [stepsAt_one]; decide, M7⟩ ?_
  rintro n w8 ⟨hn1, hn26, hn25, M8⟩
  refine ⟨setCells (nowAt T b n), bools_length _ _, M8.rd 0 rfl, ?_⟩
  refine ⟨_, neq_set (nowAt T b n) _ _, ?_⟩
  refine brE_mk (fun hany => ?_) (fun hany => ?_)
  · -- a level
    have hz := zeros_step (T := T) (b := b) hn1
    have hn25 := hn25 hany
    intro gnx w9 h9
    have M9 : Mem w w9 [(gnx, .cells (setCells (nextMid T b n (members (nowAt T b n)) 0 0)).toArray 128 (0, 0)), (gnow, .cells (setCells (nowAt T b n)).toArray 128 (0, 0)), (gst, .cells (nats (stepsMid T b n (members (nowAt T b n)) 0 0)).toArray 132 (0, 0)), (g, .cells (webCells n0 T (reach T)).toArray 131 (0, 0))] := by
      rw [(mid_start T b n (members (nowAt T b n))).1, (mid_start T b n (members (nowAt T b n))).2, setCells, ← bools_false]
      exact M8.alloc h9
    refine ⟨_, Web.n (M9.get 3 rfl), ?_⟩
    refine loopE C_ok (fun (x0 : Nat) => [(1, .int .i64 a), (2, .int .i64 b), (8, .pointer (some ⟨g, 0, none⟩)), (10, .pointer (some ⟨gst, 0, none⟩)), (11, .pointer (some ⟨gnow, 0, none⟩)), (12, .int .i64 n), (13, .pointer (some ⟨gnx, 0, none⟩)), (57, .int .i64 n0), (58, .int .i64 x0)])
      (fun x0 w' => x0 ≤ n0 ∧ Mem w w' [(gnx, .cells (setCells (nextMid T b n (members (nowAt T b n)) x0 0)).toArray 128 (0, 0)), (gnow, .cells (setCells (nowAt T b n)).toArray 128 (0, 0)), (gst, .cells (nats (stepsMid T b n (members (nowAt T b n)) x0 0)).toArray 132 (0, 0)), (g, .cells (webCells n0 T (reach T)).toArray 131 (0, 0))])
      (fun x0 => n0 - x0) 0 ⟨rfl, rfl, rfl, rfl, rfl, rfl, rfl, rfl, rfl, trivial⟩ ⟨Nat.zero_le _, M9⟩ ?_
    rintro x0 w10 ⟨hx0, M10⟩
    refine brE_dec (fun hlt => ?_) (fun hge => ?_)
    · have hlt : x0 < n0 := by omega
      have hx24 : x0 < 24 := by omega
      refine ⟨setCells (nowAt T b n), bools_length _ _, M10.rd 1 rfl, ?_⟩
      refine (list_spec (nowAt T b n) w10).mono ?_
      rintro v w11 ⟨hl, he11⟩
      obtain ⟨A2, c2, rfl, hr2, hc2⟩ := hl.slice
      have M11 := M10.grow he11
      have hnew : ∀ bb oo, A2 = some ⟨bb, oo, none⟩ → bb ≠ gst ∧ bb ≠ gnx := by
        rintro bb oo rfl
        have h1 := (hl.lt bb rfl).1
        have h2 := lt_of_heap (M10.get 2 rfl)
        have h3 := lt_of_heap (M10.get 0 rfl)
        omega
      have hml : (members (nowAt T b n)).length ≤ 24 := membersTo_length _ 24
      refine loopE C_ok (fun (j : Nat) => [(1, .int .i64 a), (2, .int .i64 b), (8, .pointer (some ⟨g, 0, none⟩)), (10, .pointer (some ⟨gst, 0, none⟩)), (11, .pointer (some ⟨gnow, 0, none⟩)), (12, .int .i64 n), (13, .pointer (some ⟨gnx, 0, none⟩)), (14, .int .i64 x0), (57, .int .i64 n0), (58, .int .i64 x0), (62, .slice A2 (members (nowAt T b n)).length c2), (63, .int .i64 (members (nowAt T b n)).length), (64, .int .i64 j)])
        (fun j w' => j ≤ (members (nowAt T b n)).length ∧ Reads w' A2 (ints (members (nowAt T b n))) ∧ Mem w w' [(gnx, .cells (setCells (nextMid T b n (members (nowAt T b n)) x0 j)).toArray 128 (0, 0)), (gnow, .cells (setCells (nowAt T b n)).toArray 128 (0, 0)), (gst, .cells (nats (stepsMid T b n (members (nowAt T b n)) x0 j)).toArray 132 (0, 0)), (g, .cells (webCells n0 T (reach T)).toArray 131 (0, 0))])
        (fun j => (members (nowAt T b n)).length - j) 0 ⟨rfl, rfl, rfl, rfl, rfl, rfl, rfl, rfl, rfl, rfl, rfl, rfl, rfl, trivial⟩ ⟨Nat.zero_le _, hr2, M11⟩ ?_
      rintro j w12 ⟨hj, hr12, M12⟩
      refine brE_dec (fun hlt2 => ?_) (fun hge2 => ?_)
      · have hlt2 : j < (members (nowAt T b n)).length := by omega
        obtain ⟨y, ey, hy24, _⟩ := members_get hlt2
        obtain ⟨b1, o1, hA1, hc1⟩ := Reads.int hr12 hlt2
        rw [ey] at hc1
        have next : IntKind.i64.wrap ((j : Int) + 1) = ((j + 1 : Nat) : Int) := fit ⟨by omega, by omega⟩
        refine ⟨j, b1, o1, rfl, hlt2, hA1, ?_⟩
        refine ⟨_, by simpa using hc1, ?_⟩
        refine ⟨x0, rfl, hx24, ?_⟩
        refine ⟨y, rfl, hy24, ?_⟩
        refine ⟨_, Web.to (M12.get 3 rfl) hx24 hy24, ?_⟩
        have stay : T x0 y = false ∨ stepsMid T b n (members (nowAt T b n)) x0 j x0 ≠ 0 → Mem w w12 [(gnx, .cells (setCells (nextMid T b n (members (nowAt T b n)) x0 (j + 1))).toArray 128 (0, 0)), (gnow, .cells (setCells (nowAt T b n)).toArray 128 (0, 0)), (gst, .cells (nats (stepsMid T b n (members (nowAt T b n)) x0 (j + 1))).toArray 132 (0, 0)), (g, .cells (webCells n0 T (reach T)).toArray 131 (0, 0))] := by
          intro hh
          have := mid_not (b := b) (n := n) (x0 := x0) hlt2 (by rw [ey]; simpa using hh)
          rw [← this.1, ← this.2]; exact M12
        refine brE_mk (fun ht => ?_) (fun ht => ?_)
        · refine ⟨x0, rfl, hx24, ?_⟩
          refine ⟨.int .i64 (stepsMid T b n (members (nowAt T b n)) x0 j x0 : Nat), by have := M12.rd 2 rfl x0 _ (nats_get hx24 _); simpa using this, ?_⟩
          refine brE_dec (fun h0 => ?_) (fun h0 => ?_)
          · have h0 : stepsMid T b n (members (nowAt T b n)) x0 j x0 = 0 := by omega
            have hf := mid_found hn1 hlt2 (by rw [ey]; simpa using ht) h0
            refine ⟨x0, rfl, hx24, ?_⟩
            refine ⟨rfl, _, _, M12.get 2 rfl, by rw [nats_length]; show 0 + x0 * 1 + 1 ≤ 24; omega, rfl, ?_⟩
            intro w13 h13
            have e13 : splice (nats (stepsMid T b n (members (nowAt T b n)) x0 j)) (0 + x0 * 1) [.int .i64 n] = nats (stepsMid T b n (members (nowAt T b n)) x0 (j + 1)) := by
              rw [← hf.1]
              have := nats_set hx24 (stepsMid T b n (members (nowAt T b n)) x0 j) n
              simpa using this
            have h13 : Put w12 gst (.cells (nats (stepsMid T b n (members (nowAt T b n)) x0 (j + 1))).toArray 132 (0, 0)) w13 := by rw [← e13]; exact h13
            have M13 := M12.put 2 rfl h13
            refine ⟨x0, rfl, hx24, ?_⟩
            refine ⟨rfl, _, _, M13.get 0 rfl, by rw [bools_length]; show 0 + x0 * 1 + 1 ≤ 24; omega, rfl, ?_⟩
            intro w14 h14
            have e14 : splice (setCells (nextMid T b n (members (nowAt T b n)) x0 j)) (0 + x0 * 1) [.bool true] = setCells (nextMid T b n (members (nowAt T b n)) x0 (j + 1)) := by
              rw [← hf.2]
              have := bools_set hx24 (nextMid T b n (members (nowAt T b n)) x0 j) true
              simpa using this
            have h14 : Put w13 gnx (.cells (setCells (nextMid T b n (members (nowAt T b n)) x0 (j + 1))).toArray 128 (0, 0)) w14 := by rw [← e14]; exact h14
            have M14 := M13.put 0 rfl h14
            have hr13 := reads_grown_by (fun bb oo hh => (hnew bb oo hh).1) hr12 h13.grownBy
            have hr14 := reads_grown_by (fun bb oo hh => (hnew bb oo hh).2) hr13 h14.grownBy
            refine ⟨_, next, ?_⟩
            exact ⟨j + 1, ⟨rfl, rfl, rfl, rfl, rfl, rfl, rfl, rfl, rfl, rfl, rfl, rfl, rfl, trivial⟩, ⟨hlt2, hr14, M14⟩, by omega⟩
          · refine ⟨_, next, ?_⟩
            exact ⟨j + 1, ⟨rfl, rfl, rfl, rfl, rfl, rfl, rfl, rfl, rfl, rfl, rfl, rfl, rfl, trivial⟩, ⟨hlt2, hr12, stay (.inr (by omega))⟩, by omega⟩
        · refine ⟨_, next, ?_⟩
          exact ⟨j + 1, ⟨rfl, rfl, rfl, rfl, rfl, rfl, rfl, rfl, rfl, rfl, rfl, rfl, rfl, trivial⟩, ⟨hlt2, hr12, stay (.inl ht)⟩, by omega⟩
      · have : j = (members (nowAt T b n)).length := by omega
        subst this
        rw [(mid_row T b n _ x0).1, (mid_row T b n _ x0).2] at M12
        refine ⟨((x0 + 1 : Nat) : Int), fit ⟨by omega, by omega⟩, ?_⟩
        exact ⟨x0 + 1, ⟨rfl, rfl, rfl, rfl, rfl, rfl, rfl, rfl, rfl, trivial⟩, ⟨hlt, M12⟩, by omega⟩
    · have : x0 = n0 := by omega
      subst this
      have hme := mid_end hT hn0 hb24 hn1
      rw [hme.1, hme.2] at M10
      refine ⟨setCells (nowAt T b (n + 1)), bools_length _ _, M10.rd 0 rfl, ?_⟩
      refine ⟨set_size _, _, _, M10.get 1 rfl, by rw [bools_length]; exact Nat.le_of_ble_eq_true rfl, bools_one 24 _, ?_⟩
      intro w11 h11
      have e11 : splice (setCells (nowAt T b n)) 0 (setCells (nowAt T b (n + 1))) = setCells (nowAt T b (n + 1)) := by
        unfold splice
        rw [bools_length]
        simp [bools_length]
      have h11 : Put w10 gnow (.cells (setCells (nowAt T b (n + 1))).toArray 128 (0, 0)) w11 := by rw [← e11]; exact h11
      have M11 := (M10.put 1 rfl h11).tail
      refine ⟨((n + 1 : Nat) : Int), fit ⟨by omega, by omega⟩, ?_⟩
      refine ⟨n + 1, ⟨rfl, rfl, rfl, rfl, rfl, rfl, trivial⟩, ⟨by omega, by omega, fun h => by have := hz.2 h; omega, M11⟩, ?_⟩
      show 2 * zeros (stepsAt T b (n + 1)) + _ < 2 * zeros (stepsAt T b n) + _
      rw [if_pos hany]
      by_cases h : anyS (nowAt T b (n + 1)) = true
      · have := hz.2 h; rw [if_pos h]; omega
      · have := hz.1; rw [if_neg h]; omega
  · -- all levels are found
    have hdone := steps_done hT24 hb24 hn1 (anyS_false hany)
    rw [hdone] at M8
    have hda : dist T b a < n ∧ dist T b a ≠ 0 := by
      have h0 : dist T b a ≠ 0 := fun h0 => by rw [dist_zero] at h0; exact h0 (reach_iff.1 hr)
      have := congrFun hdone a
      unfold stepsAt at this
      split at this
      · exact ⟨by assumption, h0⟩
      · exact absurd this.symm h0
    have hda26 : dist T b a ≤ 26 := by omega
    intro go w9 h9
    have M9 := M8.alloc h9
    refine ⟨a, rfl, ha24, ?_⟩
    refine ⟨.int .i64 (dist T b a : Nat), by have := M9.rd 2 rfl a _ (nats_get ha24 _); simpa using this, ?_⟩
    refine ⟨((dist T b a - 1 : Nat) : Int), by rw [fit ⟨by omega, by omega⟩]; omega, ?_⟩
    have hN9 : NewInts w w9 (.slice (some ⟨go, 0, none⟩) 1 1) [(a : Int)] := owns_block (M9.get 0 rfl) (M9.new 0 rfl) rfl (Nat.le_of_ble_eq_true rfl)
    refine loopE C_ok (fun (s : List Int × Nat × Nat × Value) => [(2, .int .i64 b), (8, .pointer (some ⟨g, 0, none⟩)), (10, .pointer (some ⟨gst, 0, none⟩)), (17, s.2.2.2), (18, .int .i64 s.2.2.1)])
      (fun s w' => s.2.1 < 24 ∧ dist T b s.2.1 = s.2.2.1 + 1 ∧ chainL T a b = (s.1 ++ [(s.2.1 : Int)]) ++ (follow T (dist T b) s.2.1 s.2.2.1 ++ [(b : Int)]) ∧ s.1.length + s.2.2.1 ≤ 26 ∧
        NewInts w w' s.2.2.2 (s.1 ++ [(s.2.1 : Int)]) ∧ Ext w w' ∧ w'.heap[g]? = some (.cells (webCells n0 T (reach T)).toArray 131 (0, 0)) ∧ w'.heap[gst]? = some (.cells (nats (dist T b)).toArray 132 (0, 0)) ∧ some gst ≠ s.2.2.2.ownBlock ∧ some g ≠ s.2.2.2.ownBlock)
      (fun s => s.2.2.1) ([], a, dist T b a - 1, .slice (some ⟨go, 0, none⟩) 1 1) ⟨rfl, rfl, rfl, rfl, rfl, trivial⟩
      ⟨ha24, by show dist T b a = dist T b a - 1 + 1; omega, rfl, by show 0 + (dist T b a - 1) ≤ 26; omega, hN9, M9.ext, M9.get 3 rfl, M9.get 2 rfl,
        by intro e; have e : gst = go := by simpa [Value.ownBlock] using e
           subst e; have := (M9.get 0 rfl).symm.trans (M9.get 2 rfl); simp at this,
        by intro e; have e : g = go := by simpa [Value.ownBlock] using e
           subst e; have := (M9.get 0 rfl).symm.trans (M9.get 3 rfl); simp at this⟩ ?_
    rintro ⟨pre, x, k, v⟩ w10 ⟨hx, hdx, hch, hlen, hnew, hE, hgw, hgst, hne1, hne2⟩
    have hx : x < 24 := hx
    have hdx : dist T b x = k + 1 := hdx
    have hlen : pre.length + k ≤ 26 := hlen
    obtain ⟨A2, c2, ev, hr2, hc2⟩ := hnew.slice
    have ev : v = .slice A2 (pre ++ [(x : Int)]).length c2 := ev
    subst ev
    have hr2 : Reads w10 A2 (ints (pre ++ [(x : Int)])) := hr2
    have hnew : NewInts w w10 (.slice A2 (pre ++ [(x : Int)]).length c2) (pre ++ [(x : Int)]) := hnew
    refine brE_dec (fun hk => ?_) (fun hk => ?_)
    · obtain ⟨k, rfl⟩ : ∃ m, k = m + 1 := ⟨k - 1, by have : (k : Int) > 0 := hk; omega⟩
      have hpl : (pre ++ [(x : Int)]).length = pre.length + 1 := by simp
      obtain ⟨b1, o1, hA1, hc1⟩ := Reads.int hr2 (i := pre.length) (by rw [hpl]; omega)
      have ex : (pre ++ [(x : Int)])[pre.length]'(by omega) = (x : Int) := by simp
      rw [ex] at hc1
      refine ⟨(pre.length : Int), by
        show IntKind.i64.wrap ((((pre ++ [(x : Int)]).length : Nat) : Int) - 1) = _
        rw [hpl, fit ⟨by omega, by omega⟩]; omega, ?_⟩
      refine ⟨pre.length, b1, o1, rfl, (by rw [hpl]; omega : pre.length < (pre ++ [(x : Int)]).length), hA1, ?_⟩
      refine ⟨_, by simpa using hc1, ?_⟩
      refine ⟨x, rfl, hx, ?_⟩
      refine ⟨setCells (T x), bools_length _ _, Web.toRow hgw hx, ?_⟩
      refine (list_spec (T x) w10).mono ?_
      rintro v w11 ⟨hl, he11⟩
      refine ⟨he11, ?_⟩
      obtain ⟨A3, c3, rfl, hr3, hc3⟩ := hl.slice
      have hml : (members (T x)).length ≤ 24 := membersTo_length _ 24
      obtain ⟨_, y0, hty0, hy0⟩ := (dist_next (by omega : 2 ≤ k + 1 + 1)).1 hdx
      refine loopE C_ok (fun (i : Nat) => [(2, .int .i64 b), (8, .pointer (some ⟨g, 0, none⟩)), (10, .pointer (some ⟨gst, 0, none⟩)), (17, .slice A2 (pre ++ [(x : Int)]).length c2), (18, .int .i64 ((k + 1 : Nat) : Int)), (109, .slice A3 (members (T x)).length c3), (110, .int .i64 (members (T x)).length), (111, .int .i64 i)])
        (fun i w' => i ≤ (members (T x)).length ∧ w' = w11 ∧ ∀ j (h : j < (members (T x)).length), j < i → decide (dist T b ((members (T x))[j]).toNat = k + 1) = false)
        (fun i => (members (T x)).length - i) 0 ⟨rfl, rfl, rfl, rfl, rfl, rfl, rfl, rfl, trivial⟩ ⟨Nat.zero_le _, rfl, fun _ _ h => absurd h (Nat.not_lt_zero _)⟩ ?_
      rintro i w12 ⟨hi, rfl, hno⟩
      refine brE_dec (fun hlt => ?_) (fun hge => ?_)
      · have hlt : i < (members (T x)).length := by omega
        obtain ⟨y, ey, hy24, hty⟩ := members_get hlt
        obtain ⟨b2, o2, hA2, hc4⟩ := Reads.int hr3 hlt
        rw [ey] at hc4
        refine ⟨i, b2, o2, rfl, hlt, hA2, ?_⟩
        refine ⟨_, by simpa using hc4, ?_⟩
        refine ⟨y, rfl, hy24, ?_⟩
        refine ⟨.int .i64 (dist T b y : Nat), by have := Rd.of_block (he11.heap hgst) y _ (nats_get hy24 _); simpa using this, ?_⟩
        refine brE_dec (fun hd => ?_) (fun hd => ?_)
        · have hd : dist T b y = k + 1 := by omega
          intro g5 w13 h13
          have hnew13 : w13.ownsRow w.heap.size 3 1 (.slice A2 (pre ++ [(x : Int)]).length c2) (pre ++ [(x : Int)]).length (ints (pre ++ [(x : Int)])) := ownsRow_ext (ownsRow_ext hnew he11) h13.ext
          have hE13 := (hE.trans he11).trans h13.ext
          refine ⟨rfl, rfl, rfl, w.heap.size, (pre ++ [(x : Int)]).length, ints (pre ++ [(x : Int)]), [.int .i64 y], hnew13, hE13.size, Nat.lt_add_one 0, rfl, rfl, .inr ⟨g5, 0, rfl, Rd.of_block h13.here⟩, rfl, rfl, by omega, by simp only [maxLen]; omega, ?_⟩
          intro v6 w14 ho6 hg6 _
          have hfol : follow T (dist T b) x (k + 1) = (y : Int) :: follow T (dist T b) y k := by
            have hfind := find_at (p := fun y => decide (dist T b y.toNat = k + 1)) hlt hno (by rw [ey]; simpa using hd)
            rw [follow, hfind, ey]
            simp
          have keep : ∀ {q : Nat} {o : Obj}, w10.heap[q]? = some o → some q ≠ (Value.slice A2 (pre ++ [(x : Int)]).length c2).ownBlock → w14.heap[q]? = some o := by
            intro q o hq hne
            have hq13 := h13.ext.heap (he11.heap hq)
            rw [hg6.block q (lt_of_heap hq13) hne]; exact hq13
          have hg14 := keep hgw hne2
          have hs14 := keep hgst hne1
          refine ⟨((k : Nat) : Int), by rw [fit ⟨by omega, by omega⟩]; omega, ?_⟩
          have hown14 : NewInts w w14 v6 ((pre ++ [(x : Int)]) ++ [(y : Int)]) := by
            show w14.ownsRow _ _ _ _ _ _
            rw [List.length_append, ints_append]
            exact ho6
          refine ⟨(pre ++ [(x : Int)], y, k, v6), ⟨rfl, rfl, rfl, rfl, rfl, trivial⟩, ⟨hy24, hd, ?_, ?_, hown14, app_ext hE13 hnew13 hg6, hg14, hs14, ?_, ?_⟩, ?_⟩
          · show chainL T a b = _
            rw [hch]
            show (pre ++ [(x : Int)]) ++ (follow T (dist T b) x (k + 1) ++ [(b : Int)]) = _
            rw [hfol]; simp
          · show (pre ++ [(x : Int)]).length + k ≤ 26
            omega
          · intro e
            have e : v6.ownBlock = some gst := e.symm
            have hlt6 := hown14.lt gst e
            obtain ⟨_, hv | ⟨g', cap, cur, hv, _, hg', _⟩⟩ := hown14
            · rw [hv.1] at e; cases e
            · rw [hv] at e
              have e : g' = gst := by simpa [Value.ownBlock] using e
              subst e
              have := hg'.symm.trans hs14
              simp at this
          · intro e
            have e : v6.ownBlock = some g := e.symm
            obtain ⟨_, hv | ⟨g', cap, cur, hv, _, hg', _⟩⟩ := hown14
            · rw [hv.1] at e; cases e
            · rw [hv] at e
              have e : g' = g := by simpa [Value.ownBlock] using e
              subst e
              have := hg'.symm.trans hg14
              simp at this
          · show k < k + 1
            omega
        · refine ⟨((i + 1 : Nat) : Int), fit ⟨by omega, by omega⟩, ?_⟩
          refine ⟨i + 1, ⟨rfl, rfl, rfl, rfl, rfl, rfl, rfl, rfl, trivial⟩, ⟨hlt, rfl, fun j hj hji => ?_⟩, by omega⟩
          rcases Nat.lt_or_ge j i with h | h
          · exact hno j hj h
          · obtain rfl : j = i := by omega
            rw [ey]
            apply decide_eq_false
            simp only [Int.toNat_natCast]
            intro e
            apply hd
            rw [e]
      · exfalso
        have : i = (members (T x)).length := by omega
        subst this
        obtain ⟨j, hj, ej⟩ := members_mem (hT24 _ _ hty0).2 hty0
        have := hno j hj hj
        rw [ej] at this
        have := of_decide_eq_false this
        simp at this
        omega
    · have hk0 : k = 0 := by have : ¬ (k : Int) > 0 := hk; omega
      subst hk0
      intro g5 w11 h11
      have hnew11 : w11.ownsRow w.heap.size 3 1 (.slice A2 (pre ++ [(x : Int)]).length c2) (pre ++ [(x : Int)]).length (ints (pre ++ [(x : Int)])) := ownsRow_ext hnew h11.ext
      have hE11 := hE.trans h11.ext
      have hpl : (pre ++ [(x : Int)]).length = pre.length + 1 := by simp
      refine ⟨rfl, rfl, rfl, w.heap.size, (pre ++ [(x : Int)]).length, ints (pre ++ [(x : Int)]), [.int .i64 b], hnew11, hE11.size, Nat.lt_add_one 0, rfl, rfl, .inr ⟨g5, 0, rfl, Rd.of_block h11.here⟩, rfl, rfl, by omega, by simp only [maxLen]; omega, ?_⟩
      intro v6 w12 ho6 hg6 _
      refine ⟨⟨v6, rfl, ?_⟩, app_ext hE11 hnew11 hg6⟩
      show w12.ownsRow _ _ _ _ _ _
      have hch : chainL T a b = (pre ++ [(x : Int)]) ++ (follow T (dist T b) x 0 ++ [(b : Int)]) := hch
      rw [hch, follow, List.nil_append, List.length_append, ints_append]
      exact ho6
end Go.Proofs.YtdpdjcopkehdjaaGreat.Rk
namespace Go.Proofs.YtdpdjcopkehdjaaGreat.Rk
open Go.Eng Go.RowKit
def compS (n:Nat) (R:Nat -> Nat -> Bool) (a b:Nat):Bool:=decide (b < n) && (decide (a = b) || decide (standR R a b = 3))
theorem component_spec {w:World} {g n:Nat} {T R:Nat -> Nat -> Bool} (hw:Web w g n T R) (hn:n <= 24) {a:Nat} (ha:a < 24) :
  CallsV C.P 126 #[.pointer (some ⟨g,0,none⟩),.int .i64 a] w fun v w' => v = .agg (setCells (compS n R a)).toArray ∧ Ext w w':=by
 refine callsV_of C_ok (args:=[_,_]) (plans:=[]) Tryz.func126 rfl Tryz.ntmps126 (by kernel_rfl) (Nat.le_of_ble_eq_true rfl) ?_
 intro gr w1 h1
 intro gs w2 h2
 have M2:Mem w w2 [(gs,.cells (setCells fun b => decide (b < 0) && compS n R a b).toArray 128 (0,0)),(gr,.cells (List.replicate 24 (.bool false)).toArray 128 (0,0))]:=by
  have e:(setCells fun b => decide (b < 0) && compS n R a b) = List.replicate 24 (.bool false):=by rw [bools_false]; apply bools_congr; intro k _; simp
  rw [e]; exact ((Mem.start w).alloc h1).alloc h2
 refine ⟨_,(hw.ext M2.ext).n,?_⟩
 refine loopE C_ok (fun (b:Nat) => [(0,.pointer (some ⟨g,0,none⟩)),(1,.int .i64 a),(4,.pointer (some ⟨gr,0,none⟩)),(5,.pointer (some ⟨gs,0,none⟩)),(10,.int .i64 n),(11,.int .i64 b)])
  (fun b w' => b <= n ∧ Mem w w' [(gs,.cells (setCells fun k => decide (k < b) && compS n R a k).toArray 128 (0,0)),(gr,.cells (List.replicate 24 (.bool false)).toArray 128 (0,0))]) (fun b => n - b) 0
  ⟨rfl,rfl,rfl,rfl,rfl,rfl,trivial⟩ ⟨Nat.zero_le _,M2⟩ ?_
 rintro b w3 ⟨hb,M3⟩
 refine brE_dec (fun hlt => ?_) (fun hge => ?_)
 ·have hlt:b < n:=by omega
  have hb24:b < 24:=by omega
  have fin:∀ r:Bool,r = (decide (a = b) || decide (standR R a b = 3)) -> ∀ w4,Put w3 gs (.cells (splice (setCells fun k => decide (k < b) && compS n R a k) (0 + b * 1) [.bool r]).toArray 128 (0,0)) w4 →
    Mem w w4 [(gs,.cells (setCells fun k => decide (k < b + 1) && compS n R a k).toArray 128 (0,0)),(gr,.cells (List.replicate 24 (.bool false)).toArray 128 (0,0))]:=by
   intro r hr w4 h4
   have e:splice (setCells fun k => decide (k < b) && compS n R a k) (0 + b * 1) [.bool r] = setCells fun k => decide (k < b + 1) && compS n R a k:=by
    have:=bools_set hb24 (fun k => decide (k < b) && compS n R a k) r
    rw [Nat.zero_add,Nat.mul_one,this]
    apply bools_congr
    intro k _
    unfold upd
    by_cases hk:k = b
    ·subst hk; rw [if_pos rfl,hr]; simp [compS,hlt]
    ·rw [if_neg hk]
     by_cases h1:k < b
     ·simp [h1,show k < b + 1 by omega]
     ·simp [h1,show ¬ k < b + 1 by omega]
   rw [<-e]; exact M3.put 0 rfl h4
  have next:IntKind.i64.wrap ((b:Int) + 1) = ((b + 1:Nat):Int):=fit ⟨by omega,by omega⟩
  refine brE_dec (fun hab => ?_) (fun hab => ?_)
  ·have hab:a = b:=by omega
   refine ⟨b,rfl,hb24,?_⟩
   refine ⟨rfl,_,_,M3.get 0 rfl,by rw [bools_length]; show 0 + b * 1 + 1 <= 24; omega,rfl,?_⟩
   intro w4 h4
   refine ⟨_,next,?_⟩
   exact ⟨b + 1,⟨rfl,rfl,rfl,rfl,rfl,rfl,trivial⟩,⟨hlt,fin true (by simp [hab]) w4 h4⟩,by omega⟩
  ·have hab:¬ a = b:=by omega
   refine (standing_spec (hw.ext M3.ext) ha hb24).mono ?_
   rintro v w4 ⟨rfl,rfl⟩
   refine ⟨b,rfl,hb24,?_⟩
   refine ⟨rfl,_,_,M3.get 0 rfl,by rw [bools_length]; show 0 + b * 1 + 1 <= 24; omega,rfl,?_⟩
   intro w4 h4
   refine ⟨_,next,?_⟩
   exact ⟨b + 1,⟨rfl,rfl,rfl,rfl,rfl,rfl,trivial⟩,⟨hlt,fin _ (by simp [hab]) w4 h4⟩,by omega⟩
 ·have:b = n:=by omega
  subst this
  have e:(setCells fun k => decide (k < b) && compS b R a k) = setCells (compS b R a):=by
   apply bools_congr
   intro k _
   simp only [compS]
   by_cases h:k < b <;> simp [h]
  rw [e] at M3
  refine ⟨_,bools_length _ _,M3.rd 0 rfl,?_⟩
  refine ⟨set_size _,_,_,M3.get 1 rfl,Nat.le_of_ble_eq_true rfl,bools_one 24 _,?_⟩
  intro w4 h4
  have e7:splice (List.replicate 24 (Value.bool false)) 0 (setCells (compS b R a)) = setCells (compS b R a):=by
   unfold splice
   rw [bools_length]
   simp
  have h4:Put w3 gr (.cells (setCells (compS b R a)).toArray 128 (0,0)) w4:=by rw [<-e7]; exact h4
  refine ⟨_,bools_length _ _,Rd.of_block h4.here,?_⟩
  exact ⟨rfl,(M3.put 1 rfl h4).ext⟩
def precS (n:Nat) (R:Nat -> Nat -> Bool) (a:Nat) (own done:Nat -> Bool):Bool:=(List.range n).any fun b => !own b && !done b && R b a
theorem preceded_spec {w:World} {g n:Nat} {T R:Nat -> Nat -> Bool} (hw:Web w g n T R) (hn:n <= 24) {a:Nat} (ha:a < 24) (own done:Nat -> Bool) :
  CallsV C.P 127 #[.pointer (some ⟨g,0,none⟩),.int .i64 a,.agg (setCells own).toArray,.agg (setCells done).toArray] w fun v w' => v = .bool (precS n R a own done) ∧ Ext w w':=by
 refine callsV_of C_ok (args:=[_,_,_,_]) (plans:=[]) Tryz.func127 rfl Tryz.ntmps127 (by kernel_rfl) (Nat.le_of_ble_eq_true rfl) ?_
 intro g1 w1 h1
 intro g2 w2 h2
 have M2:=((Mem.start w).alloc h1).alloc h2
 refine ⟨_,(hw.ext M2.ext).n,?_⟩
 refine loopE C_ok (fun (b:Nat) => [(0,.pointer (some ⟨g,0,none⟩)),(1,.int .i64 a),(6,.pointer (some ⟨g1,0,none⟩)),(7,.pointer (some ⟨g2,0,none⟩)),(13,.int .i64 n),(14,.int .i64 b)])
  (fun b w' => b <= n ∧ w' = w2 ∧ ∀ k < b,(!own k && !done k && R k a) = false) (fun b => n - b) 0
  ⟨rfl,rfl,rfl,rfl,rfl,rfl,trivial⟩ ⟨Nat.zero_le _,rfl,fun _ h => absurd h (Nat.not_lt_zero _)⟩ ?_
 rintro b w3 ⟨hb,rfl,hno⟩
 refine brE_dec (fun hlt => ?_) (fun hge => ?_)
 ·have hlt:b < n:=by omega
  have hb24:b < 24:=by omega
  have next:IntKind.i64.wrap ((b:Int) + 1) = ((b + 1:Nat):Int):=fit ⟨by omega,by omega⟩
  have go:(!own b && !done b && R b a) = false -> ∀ k < b + 1,(!own k && !done k && R k a) = false:=by
   intro h k hk
   rcases Nat.lt_or_ge k b with h1 | h1
   ·exact hno k h1
   ·obtain rfl:k = b:=by omega
    exact h
  refine ⟨b,rfl,hb24,?_⟩
  refine ⟨.bool (own b),by have:=M2.rd 1 rfl b _ (bools_get hb24 own); simpa using this,?_⟩
  refine brE_mk (fun ho => ?_) (fun ho => ?_)
  ·refine ⟨b,rfl,hb24,?_⟩
   refine ⟨.bool (done b),by have:=M2.rd 0 rfl b _ (bools_get hb24 done); simpa using this,?_⟩
   refine brE_mk (fun hd => ?_) (fun hd => ?_)
   ·refine ⟨b,rfl,hb24,?_⟩
    refine ⟨a,rfl,ha,?_⟩
    refine ⟨_,(hw.ext M2.ext).reach hb24 ha,?_⟩
    refine brE_mk (fun hr => ?_) (fun hr => ?_)
    ·refine ⟨?_,M2.ext⟩
     have:precS n R a own done = true:=List.any_eq_true.2 ⟨b,List.mem_range.2 hlt,by rw [ho,hd,hr]; rfl⟩
     rw [this]
    ·refine ⟨_,next,?_⟩
     exact ⟨b + 1,⟨rfl,rfl,rfl,rfl,rfl,rfl,trivial⟩,⟨hlt,rfl,go (by rw [hr,Bool.and_false])⟩,by omega⟩
   ·refine ⟨_,next,?_⟩
    exact ⟨b + 1,⟨rfl,rfl,rfl,rfl,rfl,rfl,trivial⟩,⟨hlt,rfl,go (by rw [hd,Bool.and_false,Bool.false_and])⟩,by omega⟩
  ·refine ⟨_,next,?_⟩
   exact ⟨b + 1,⟨rfl,rfl,rfl,rfl,rfl,rfl,trivial⟩,⟨hlt,rfl,go (by rw [ho,Bool.false_and,Bool.false_and])⟩,by omega⟩
 ·have:b = n:=by omega
  subst this
  refine ⟨?_,M2.ext⟩
  have:precS b R a own done = false:=by
   unfold precS
   rw [List.any_eq_false]
   intro k hk
   rw [hno k (List.mem_range.1 hk)]; decide
  rw [this]
end Go.Proofs.YtdpdjcopkehdjaaGreat.Rk
namespace Go.Proofs.YtdpdjcopkehdjaaGreat.Rk
open Go.Eng Go.RowKit
def orS (D S:Nat -> Bool):Nat -> Bool:=fun k => D k || S k
def compsF (n:Nat) (R:Nat -> Nat -> Bool):Nat -> (Nat -> Bool) -> List (List Int)
 | 0,_ => []
 | m + 1,D => match (List.range n).find? fun a => !(D a || precS n R a (compS n R a) D) with
  | some a => members (compS n R a) :: compsF n R m (orS D (compS n R a))
  | none => []
theorem find_range {n:Nat} {p:Nat -> Bool} {a:Nat} (ha:a < n) (h:∀ k < a,p k = false) (hp:p a = true):(List.range n).find? p = some a:=by
 have e:List.range n = List.range a ++ a :: List.range' (a + 1) (n - (a + 1)):=by
  rw [List.range_eq_range',List.range_eq_range']
  have:=List.range'_append_1 (s:=0) (m:=a) (n:=n - a)
  rw [show a + (n - a) = n by omega] at this
  rw [<-this,Nat.zero_add]
  congr 1
  rw [show n - a = (n - (a + 1)) + 1 by omega,List.range'_succ]
 rw [e,List.find?_append]
 have h1:(List.range a).find? p = none:=by
  rw [List.find?_eq_none]
  intro k hk
  rw [h k (List.mem_range.1 hk)]; decide
 rw [h1,List.find?_cons_of_pos hp]
 rfl
theorem find_range_none {n:Nat} {p:Nat -> Bool} (h:∀ k < n,p k = false):(List.range n).find? p = none:=by
 rw [List.find?_eq_none]
 intro k hk
 rw [h k (List.mem_range.1 hk)]; decide
inductive AllRows (w:World) (B:Nat):List Value -> List (List Int) -> Prop
 | nil:AllRows w B [] []
 | cons {u:Value} {us:List Value} {l:List Int} {ls:List (List Int)} (h:w.ownsRow B 3 1 u l.length (ints l)) (t:AllRows w B us ls):AllRows w B (u :: us) (l :: ls)
theorem AllRows.length {w:World} {B:Nat} {us:List Value} {ls:List (List Int)} (h:AllRows w B us ls):us.length = ls.length:=by
 induction h with
 | nil => rfl
 | cons _ _ ih => simp [ih]
theorem AllRows.only {w w':World} {B t0:Nat} {us:List Value} {ls:List (List Int)} (h:AllRows w B us ls) (k:Only t0 w w') (hne:3 ≠ t0):AllRows w' B us ls:=by
 induction h with
 | nil => exact .nil
 | cons h _ ih => exact .cons (ownsRow_only h k hne) ih
theorem AllRows.snoc {w:World} {B:Nat} {us:List Value} {ls:List (List Int)} (h:AllRows w B us ls) {u:Value} {l:List Int} (hu:w.ownsRow B 3 1 u l.length (ints l)):AllRows w B (us ++ [u]) (ls ++ [l]):=by
 induction h with
 | nil => exact .cons hu .nil
 | cons h _ ih => exact .cons h ih
theorem AllRows.at {w:World} {B:Nat} {us:List Value} {ls:List (List Int)} (h:AllRows w B us ls):∀ {i:Nat} (hi:i < ls.length),∃ u,us[i]? = some u ∧ w.ownsRow B 3 1 u ls[i].length (ints ls[i]):=by
 induction h with
 | nil => intro i hi; simp at hi
 | cons h _ ih =>
  intro i hi
  cases i with
  | zero => exact ⟨_,rfl,h⟩
  | succ i =>
   obtain ⟨u,hu,ho⟩:=ih (i:=i) (by simpa using hi)
   exact ⟨u,by simpa using hu,by simpa using ho⟩
theorem AllRows.base {w:World} {B B':Nat} {us:List Value} {ls:List (List Int)} (h:AllRows w B' us ls) (hb:B <= B'):AllRows w B us ls:=by
 induction h with
 | nil => exact .nil
 | cons h _ ih => exact .cons (ownsRow_base h hb) ih
def Lists (B:Nat) (w:World) (v:Value) (L:List (List Int)):Prop:=∃ us,w.ownsRow B 35 1 v L.length us ∧ AllRows w B us L
theorem Lists.only {B t0:Nat} {w w':World} {v:Value} {L:List (List Int)} (h:Lists B w v L) (k:Only t0 w w') (h3:3 ≠ t0) (h30:35 ≠ t0):Lists B w' v L :=
 let ⟨us,h1,h2⟩:=h
 ⟨us,ownsRow_only h1 k h30,h2.only k h3⟩
structure CompMem (B:Nat) (w:World) (g gb gd go gv n:Nat) (T R:Nat -> Nat -> Bool) (D:Nat -> Bool) (v:Value) (L:List (List Int)):Prop where
 size:B <= w.heap.size
 ge:B <= gb ∧ B <= gd ∧ B <= go ∧ B <= gv
 web:Web w g n T R
 box:w.heap[gb]? = some (.cells #[.pointer (some ⟨g,0,none⟩)] 123 (0,0))
 done:w.heap[gd]? = some (.cells (setCells D).toArray 128 (0,0))
 out:w.heap[go]? = some (.cells #[v] 86 (0,0))
 fn:w.heap[gv]? = some (.cells #[.func (.func 125) #[] #[.pointer (some ⟨gb,0,none⟩),.pointer (some ⟨gd,0,none⟩),.pointer (some ⟨go,0,none⟩),.pointer (some ⟨gv,0,none⟩)]] 1 (0,0))
 lists:Lists B w v L
theorem CompMem.ext {B:Nat} {w w':World} {g gb gd go gv n:Nat} {T R:Nat -> Nat -> Bool} {D:Nat -> Bool} {v:Value} {L:List (List Int)} (h:CompMem B w g gb gd go gv n T R D v L) (e:Ext w w'):CompMem B w' g gb gd go gv n T R D v L :=
 ⟨Nat.le_trans h.size e.size,h.ge,h.web.ext e,e.heap h.box,e.heap h.done,e.heap h.out,e.heap h.fn,h.lists.only (only_ext 0 e) (by decide) (by decide)⟩
theorem comp_refl {n:Nat} {R:Nat -> Nat -> Bool} {a:Nat} (ha:a < n):compS n R a a = true:=by simp [compS,ha]
theorem unseen_or {D S:Nat -> Bool} {a:Nat} (ha:a < 24) (hD:D a = false) (hS:S a = true):unseen (orS D S) < unseen D:=by
 have h1:=unseen_upd ha hD
 have h2:unseen (orS D S) <= unseen (upd D a true):=unseen_mono fun k hk => by
  simp only [upd] at hk
  simp only [orS]
  by_cases e:k = a
  ·subst e; rw [hS,Bool.or_true]
  ·rw [if_neg e] at hk; rw [hk,Bool.true_or]
 omega
def markTo (D:Nat -> Bool) (ys:List Int) (i:Nat):Nat -> Bool:=fun k => D k || (ys.take i).any fun y => decide (y.toNat = k)
theorem markTo_zero (D:Nat -> Bool) (ys:List Int):markTo D ys 0 = D:=by funext k; simp [markTo]
theorem markTo_succ (D:Nat -> Bool) {ys:List Int} {i y:Nat} (hi:i < ys.length) (hy:ys[i] = (y:Int)):upd (markTo D ys i) y true = markTo D ys (i + 1):=by
 funext k
 simp only [upd,markTo]
 rw [List.take_succ_eq_append_getElem hi,List.any_append,hy]
 by_cases e:k = y
 ·subst e; simp
 ·rw [if_neg e]; simp [show ¬ y = k from fun h => e h.symm]
theorem markTo_all (D S:Nat -> Bool) {k:Nat} (hk:k < 24):markTo D (members S) (members S).length k = orS D S k:=by
 simp only [markTo,orS,List.take_length]
 congr 1
 rw [Bool.eq_iff_iff,members_any (p:=fun y => decide (y = k))]
 constructor
 ·rintro ⟨y,_,h,e⟩
  have e:y = k:=of_decide_eq_true e
  subst e; exact h
 ·intro h; exact ⟨k,hk,h,by simp⟩
theorem compsF_stop {n:Nat} {R:Nat -> Nat -> Bool} {D:Nat -> Bool} (h:∀ k < n,(D k || precS n R k (compS n R k) D) = true):∀ m,compsF n R m D = []
 | 0 => rfl
 | m + 1 => by
  rw [compsF,find_range_none (fun k hk => by rw [h k hk]; rfl)]
theorem compsF_next {n:Nat} {R:Nat -> Nat -> Bool} {D:Nat -> Bool} {a:Nat} (ha:a < n) (h:∀ k < a,(D k || precS n R k (compS n R k) D) = true) (h1:D a = false) (h2:precS n R a (compS n R a) D = false) (m:Nat) :
  compsF n R (m + 1) D = members (compS n R a) :: compsF n R m (orS D (compS n R a)):=by
 rw [compsF,find_range (p:=fun a => !(D a || precS n R a (compS n R a) D)) ha (fun k hk => by rw [h k hk]; rfl) (by rw [h1,h2]; rfl)]
theorem next_spec (m:Nat):∀ (B:Nat) (D:Nat -> Bool) (w:World) (g gb gd go gv n:Nat) (T R:Nat -> Nat -> Bool) (v:Value) (L:List (List Int)),unseen D <= m -> n <= 24 -> L.length + unseen D <= 24 -> CompMem B w g gb gd go gv n T R D v L →
  CallsV C.P 125 #[.pointer (some ⟨gb,0,none⟩),.pointer (some ⟨gd,0,none⟩),.pointer (some ⟨go,0,none⟩),.pointer (some ⟨gv,0,none⟩)] w fun _ w' =>
   ∃ v',Below B w w' ∧ w'.heap[go]? = some (.cells #[v'] 86 (0,0)) ∧ Lists B w' v' (L ++ compsF n R m D):=by
 induction m using Nat.strongRecOn with
 | _ m ih =>
 intro B D w g gb gd go gv n T R v L hm hn hL hmem
 refine callsV_of C_ok (args:=[_,_,_,_]) (plans:=plans125) Tryz.func125 rfl Tryz.ntmps125 (by kernel_rfl) (Nat.le_of_ble_eq_true rfl) ?_
 refine ⟨_,cell_of_block hmem.box rfl,?_⟩
 refine ⟨_,hmem.web.n,?_⟩
 refine loopE C_ok (fun (a:Nat) => [(0,.pointer (some ⟨gb,0,none⟩)),(1,.pointer (some ⟨gd,0,none⟩)),(2,.pointer (some ⟨go,0,none⟩)),(3,.pointer (some ⟨gv,0,none⟩)),(11,.int .i64 n),(12,.int .i64 a)])
  (fun a w' => a <= n ∧ Ext w w' ∧ ∀ k < a,(D k || precS n R k (compS n R k) D) = true) (fun a => n - a) 0
  ⟨rfl,rfl,rfl,rfl,rfl,rfl,trivial⟩ ⟨Nat.zero_le _,Ext.refl _,fun _ h => absurd h (Nat.not_lt_zero _)⟩ ?_
 rintro a w1 ⟨ha,e1,hno⟩
 refine brE_dec (fun hlt => ?_) (fun hge => ?_)
 ·have hlt:a < n:=by omega
  have ha24:a < 24:=by omega
  have m1:=hmem.ext e1
  refine ⟨_,cell_of_block m1.box rfl,?_⟩
  refine (component_spec m1.web hn ha24).mono ?_
  rintro v2 w2 ⟨rfl,e2⟩
  intro g5 w3 h3
  refine ⟨set_size _,_,_,h3.here,Nat.le_of_ble_eq_true rfl,bools_one 24 _,?_⟩
  intro w4 h4
  have e7:splice (List.replicate 24 (Value.bool false)) 0 (setCells (compS n R a)) = setCells (compS n R a):=by
   unfold splice
   rw [bools_length]
   simp
  have h4:Put w3 g5 (.cells (setCells (compS n R a)).toArray 128 (0,0)) w4:=by rw [<-e7]; exact h4
  have hg5:w2.heap.size <= g5:=by rw [h3.new]; exact Nat.le_refl _
  have e4':Ext w2 w4:=h4.ext_of h3.ext hg5
  have m4:=(m1.ext e2).ext e4'
  refine ⟨a,rfl,ha24,?_⟩
  refine ⟨.bool (D a),cell_of_block m4.done (by simpa using bools_get ha24 D),?_⟩
  have go1:(D a || precS n R a (compS n R a) D) = true -> ∀ k < a + 1,(D k || precS n R k (compS n R k) D) = true:=by
   intro h k hk
   rcases Nat.lt_or_ge k a with h1 | h1
   ·exact hno k h1
   ·obtain rfl:k = a:=by omega
    exact h
  have next:IntKind.i64.wrap ((a:Int) + 1) = ((a + 1:Nat):Int):=fit ⟨by omega,by omega⟩
  have e14:Ext w w4:=(e1.trans e2).trans e4'
  refine brE_mk (fun hD => ?_) (fun hD => ?_)
  ·refine ⟨_,next,?_⟩
   exact ⟨a + 1,⟨rfl,rfl,rfl,rfl,rfl,rfl,trivial⟩,⟨hlt,e14,go1 (by rw [hD,Bool.true_or])⟩,by omega⟩
  ·refine ⟨_,cell_of_block m4.box rfl,?_⟩
   refine ⟨setCells (compS n R a),bools_length _ _,Rd.of_block h4.here,?_⟩
   refine ⟨setCells D,bools_length _ _,Rd.of_block m4.done,?_⟩
   refine (preceded_spec m4.web hn ha24 (compS n R a) D).mono ?_
   rintro v5 w5 ⟨rfl,e5⟩
   have m5:=m4.ext e5
   refine brE_mk (fun hP => ?_) (fun hP => ?_)
   ·refine ⟨_,next,?_⟩
    exact ⟨a + 1,⟨rfl,rfl,rfl,rfl,rfl,rfl,trivial⟩,⟨hlt,e14.trans e5,go1 (by rw [hP,Bool.or_true])⟩,by omega⟩
   ·have hsz5:B <= w5.heap.size:=Nat.le_trans hmem.size (e14.trans e5).size
    obtain ⟨us,hous,hrows⟩:=m5.lists
    have own5:=e5.heap h4.here
    refine ⟨_,cell_of_block m5.out rfl,?_⟩
    refine ⟨setCells (compS n R a),bools_length _ _,Rd.of_block own5,?_⟩
    refine (list_spec (compS n R a) w5).mono ?_
    rintro v6 w6 ⟨hl,e6⟩
    refine ⟨e6,?_⟩
    obtain ⟨A6,c6,rfl,hr6,hc6⟩:=hl.slice
    intro g7 w7 h7
    refine ⟨h7.ext,?_⟩
    have e57:=e6.trans h7.ext
    have m7:=m5.ext e57
    have ho7:w7.ownsRow B 35 1 v L.length us:=ownsRow_ext hous e57
    have un1:=unseen_or ha24 hD (comp_refl (R:=R) hlt)
    refine ⟨rfl,rfl,rfl,B,L.length,us,[_],ho7,Nat.le_trans hsz5 e57.size,Nat.lt_add_one 0,rfl,rfl,.inr ⟨g7,0,rfl,Rd.of_block h7.here⟩,rfl,rfl,by omega,by simp only [maxLen]; omega,?_⟩
    intro v8 w8 ho8 hg8 _
    obtain ⟨A8,c8,rfl,_,_⟩:=reads_of_owns ho8
    have o8:Only 35 w7 w8:=only_app ho7 hg8
    refine ⟨rfl,_,_,o8 _ _ _ _ m7.out (by decide),Nat.le_of_ble_eq_true rfl,rfl,?_⟩
    intro w9 h9
    have h9:Put w8 go (.cells #[.slice A8 (L.length + 1) c8] 86 (0,0)) w9:=h9
    have o9:Only 86 w8 w9:=only_put h9 (o8 _ _ _ _ m7.out (by decide))
    have web9:Web w9 g n T R:=o9 _ _ _ _ (o8 _ _ _ _ m7.web (by decide)) (by decide)
    have box9:=o9 _ _ _ _ (o8 _ _ _ _ m7.box (by decide)) (by decide)
    have done9:=o9 _ _ _ _ (o8 _ _ _ _ m7.done (by decide)) (by decide)
    have fn9:=o9 _ _ _ _ (o8 _ _ _ _ m7.fn (by decide)) (by decide)
    have own9:=o9 _ _ _ _ (o8 _ _ _ _ (e57.heap own5) (by decide)) (by decide)
    have bl5:Below B w w5:=below_ext (Below.refl _ _) (e14.trans e5) hmem.size
    have bl9:Below B w w9:=below_put (below_app (below_ext bl5 e57 hsz5) ho7 hg8 (Nat.le_trans hsz5 e57.size)) h9 hmem.ge.2.2.1
    have hsz9:B <= w9.heap.size:=Nat.le_trans hmem.size bl9.size
    have lists9:Lists B w9 (.slice A8 (L.length + 1) c8) (L ++ [members (compS n R a)]):=by
     refine ⟨us ++ [.slice A6 (members (compS n R a)).length c6],?_,?_⟩
     ·rw [List.length_append]
      exact ownsRow_only ho8 o9 (by decide)
     ·refine AllRows.snoc ((hrows.only (only_ext 0 e57) (by decide)).only o8 (by decide) |>.only o9 (by decide)) ?_
      exact ownsRow_only (ownsRow_only (ownsRow_ext (ownsRow_base hl hsz5) h7.ext) o8 (by decide)) o9 (by decide)
    refine ⟨setCells (compS n R a),bools_length _ _,Rd.of_block own9,?_⟩
    refine (list_spec (compS n R a) w9).mono ?_
    rintro v10 w10 ⟨hl2,e10⟩
    obtain ⟨A10,c10,rfl,_,_⟩:=hl2.slice
    have hl2:w10.ownsRow w9.heap.size 3 1 (.slice A10 (members (compS n R a)).length c10) (members (compS n R a)).length (ints (members (compS n R a))):=hl2
    have hml:(members (compS n R a)).length <= 24:=membersTo_length _ 24
    refine loopE C_ok (fun (i:Nat) => [(0,.pointer (some ⟨gb,0,none⟩)),(1,.pointer (some ⟨gd,0,none⟩)),(2,.pointer (some ⟨go,0,none⟩)),(3,.pointer (some ⟨gv,0,none⟩)),(34,.slice A10 (members (compS n R a)).length c10),(35,.int .i64 (members (compS n R a)).length),(36,.int .i64 i)])
     (fun i w' => i <= (members (compS n R a)).length ∧ Below B w w' ∧ Only 128 w10 w' ∧ w'.heap[gd]? = some (.cells (setCells (markTo D (members (compS n R a)) i)).toArray 128 (0,0)))
     (fun i => (members (compS n R a)).length - i) 0 ⟨rfl,rfl,rfl,rfl,rfl,rfl,rfl,trivial⟩
     ⟨Nat.zero_le _,below_ext bl9 e10 hsz9,only_ext _ (Ext.refl _),by rw [markTo_zero]; exact e10.heap done9⟩ ?_
    rintro i w11 ⟨hi,bl11,o11,done11⟩
    refine brE_dec (fun hlt2 => ?_) (fun hge2 => ?_)
    ·have hlt2:i < (members (compS n R a)).length:=by omega
     obtain ⟨A',c',eA,hr11,_⟩:=reads_of_owns (ownsRow_only hl2 o11 (by decide))
     cases eA
     obtain ⟨y,ey,hy24,_⟩:=members_get hlt2
     obtain ⟨b1,o1,hA1,hc1⟩:=Reads.int hr11 hlt2
     rw [ey] at hc1
     refine ⟨i,b1,o1,rfl,hlt2,hA1,?_⟩
     refine ⟨_,by simpa using hc1,?_⟩
     refine ⟨y,rfl,hy24,?_⟩
     refine ⟨rfl,_,_,done11,by rw [bools_length]; show 0 + y * 1 + 1 <= 24; omega,rfl,?_⟩
     intro w12 h12
     have e12:splice (setCells (markTo D (members (compS n R a)) i)) (0 + y * 1) [.bool true] = setCells (markTo D (members (compS n R a)) (i + 1)):=by
      rw [<-markTo_succ D hlt2 ey]
      have:=bools_set hy24 (markTo D (members (compS n R a)) i) true
      simpa using this
     have h12:Put w11 gd (.cells (setCells (markTo D (members (compS n R a)) (i + 1))).toArray 128 (0,0)) w12:=by rw [<-e12]; exact h12
     have o12:Only 128 w11 w12:=only_put h12 done11
     refine ⟨((i + 1:Nat):Int),fit ⟨by omega,by omega⟩,?_⟩
     exact ⟨i + 1,⟨rfl,rfl,rfl,rfl,rfl,rfl,rfl,trivial⟩,⟨hlt2,below_put bl11 h12 hmem.ge.2.1,fun q c t fr hq hne => o12 q c t fr (o11 q c t fr hq hne) hne,h12.here⟩,by omega⟩
    ·have:i = (members (compS n R a)).length:=by omega
     subst this
     have fn11:=o11 _ _ _ _ (e10.heap fn9) (by decide)
     have out11:=o11 _ _ _ _ (e10.heap h9.here) (by decide)
     have e11:setCells (markTo D (members (compS n R a)) (members (compS n R a)).length) = setCells (orS D (compS n R a)):=bools_congr fun k hk => markTo_all D _ hk
     rw [e11] at done11
     have mem11:CompMem B w11 g gb gd go gv n T R (orS D (compS n R a)) (.slice A8 (L.length + 1) c8) (L ++ [members (compS n R a)]) :=
      ⟨Nat.le_trans hmem.size bl11.size,hmem.ge,o11 _ _ _ _ (e10.heap web9) (by decide),o11 _ _ _ _ (e10.heap box9) (by decide),done11,out11,fn11,(lists9.only (only_ext 0 e10) (by decide) (by decide)).only o11 (by decide) (by decide)⟩
     refine ⟨_,cell_of_block fn11 rfl,?_⟩
     obtain ⟨m',rfl⟩:∃ k,m = k + 1:=⟨m - 1,by omega⟩
     refine (ih m' (Nat.lt_succ_self _) B _ w11 g gb gd go gv n T R _ _ (by omega) hn (by rw [List.length_append]; show L.length + 1 + _ <= 24; omega) mem11).mono ?_
     rintro _ w13 ⟨v13,bl13,out13,lists13⟩
     refine ⟨v13,bl11.trans bl13,out13,?_⟩
     rw [compsF_next hlt hno hD hP]
     rw [List.append_assoc] at lists13
     exact lists13
 ·have:a = n:=by omega
  subst this
  refine ⟨v,below_ext (Below.refl _ _) e1 hmem.size,(hmem.ext e1).out,?_⟩
  rw [compsF_stop hno,List.append_nil]
  exact (hmem.ext e1).lists
end Go.Proofs.YtdpdjcopkehdjaaGreat.Rk
