/- a part of the proof: steps, walks and plain laws that the law below stands on; no condition. -/
import Derived.Test.YtdpdjcopkehdjaaGreatRXa
import Derived.Test.YtdpdjcopkehdjaaGreatRXb
import Derived.Test.YtdpdjcopkehdjaaGreatRXc
import Derived.Test.YtdpdjcopkehdjaaGreatRXd
import Derived.Test.YtdpdjcopkehdjaaGreatRXe
import Derived.Test.YtdpdjcopkehdjaaGreatRXf
import Derived.Test.YtdpdjcopkehdjaaGreatRXg
import Derived.Test.YtdpdjcopkehdjaaGreatRXh
import Derived.Test.YtdpdjcopkehdjaaGreatRXi
import Derived.Test.YtdpdjcopkehdjaaGreatRXj
import Derived.Test.YtdpdjcopkehdjaaGreatRXk
import Derived.Shelf.SlSortCmp.NoneTotal
import Derived.Ground.SlsfProg
import Derived.Maps.RangeRun
set_option linter.unusedVariables false
set_option linter.unusedSimpArgs false
set_option linter.unnecessarySimpa false
set_option linter.unusedSectionVars false
namespace Go.Proofs.YtdpdjcopkehdjaaGreat.Rk
open Go.Eng Go.RowKit
theorem follow_next {T:Nat -> Nat -> Bool} {d:Nat -> Nat} {x y k:Nat} (hy:y < 24) (ht:T x y = true) (hd:d y = k + 1) (hno:∀ z < y,¬ (T x z = true ∧ d z = k + 1)):follow T d x (k + 1) = (y:Int) :: follow T d y k:=by
 have hf:(members (T x)).find? (fun y => decide (d y.toNat = k + 1)) = some (y:Int):=by
  unfold members
  rw [List.find?_map,List.find?_filter]
  rw [find_range (a:=y) hy]
  ·rfl
  ·intro z hz
   have:=hno z hz
   simp only [Function.comp,Int.toNat_natCast]
   simpa using this
  ·simp [Function.comp,ht,hd]
 rw [follow,hf]
 simp
def FirstTo (T:Nat -> Nat -> Bool) (d:Nat -> Nat) (x k c:Nat) (r:Int):Prop :=
 (r = -1 ∧ ∀ z < c,¬ (T x z = true ∧ d z = k)) ∨ ∃ y:Nat,r = (y:Int) ∧ y < c ∧ T x y = true ∧ d y = k ∧ ∀ z < y,¬ (T x z = true ∧ d z = k)
theorem FirstTo.stay {T:Nat -> Nat -> Bool} {d:Nat -> Nat} {x k c:Nat} {r:Int} (h:FirstTo T d x k c r) (hc:¬ r < 0 ∨ ¬ (T x c = true ∧ d c = k)):FirstTo T d x k (c + 1) r:=by
 rcases h with ⟨rfl,h⟩ | ⟨y,rfl,hy,h⟩
 ·rcases hc with hc | hc
  ·exact absurd (by decide) hc
  ·refine .inl ⟨rfl,fun z hz => ?_⟩
   rcases Nat.lt_or_ge z c with h1 | h1
   ·exact h z h1
   ·obtain rfl:z = c:=by omega
    exact hc
 ·exact .inr ⟨y,rfl,by omega,h⟩
theorem FirstTo.found {T:Nat -> Nat -> Bool} {d:Nat -> Nat} {x k c:Nat} {r:Int} (h:FirstTo T d x k c r) (h0:r < 0) (ht:T x c = true) (hd:d c = k):FirstTo T d x k (c + 1) (c:Int):=by
 rcases h with ⟨rfl,h⟩ | ⟨y,rfl,_⟩
 ·exact .inr ⟨c,rfl,by omega,ht,hd,h⟩
 ·omega
set_option maxRecDepth 100000 in
theorem refChain_spec {N:Int} {A:Option Addr} {xs:List Arrow} {c:Nat} {w:World} (h:HRel w N A xs c) (a b:Int) :
  CallsV C.P 62 #[relVal N A xs.length c,.int .i64 a,.int .i64 b] w (ChainPost w (chainS N xs a b)):=by
 refine callsV_of C_ok (args:=[_,_,_]) (plans:=[]) Tryz.func62 rfl Tryz.ntmps62 (by kernel_rfl) (Nat.le_of_ble_eq_true rfl) ?_
 intro g3 w1 h1
 have M1:=(Mem.start w).alloc h1
 refine ⟨[.int .i64 N,.slice A xs.length c],rfl,M1.rd 0 rfl,?_⟩
 refine (refCheck_spec (h.ext M1.ext)).mono ?_
 rintro v w2 ⟨rfl,e2⟩
 have M2:=M1.grow e2
 refine brE_mk (fun hb0 => ?_) (fun hb0 => ?_)
 ·have hv:chk N xs ≠ 0:=by simpa using hb0
  exact ⟨by rw [chainS,if_neg (fun hh => hv hh.1)],M2.ext⟩
 have hv:chk N xs = 0:=by simpa using hb0
 have hok:=valid_of_chk hv
 refine ⟨[.int .i64 N,.slice A xs.length c],rfl,M2.rd 0 rfl,?_⟩
 refine (refIn_spec N A xs.length c a w2).mono ?_
 rintro v w3 ⟨rfl,e3⟩
 have M3:=M2.grow e3
 refine brE_mk (fun ha => ?_) (fun ha => ?_)
 ·rw [Bool.not_eq_true'] at ha
  exact ⟨by rw [chainS,if_neg (fun hh => by have:=hh.2.1; rw [ha] at this; cases this)],M3.ext⟩
 rw [Bool.not_eq_false'] at ha
 refine ⟨[.int .i64 N,.slice A xs.length c],rfl,M3.rd 0 rfl,?_⟩
 refine (refIn_spec N A xs.length c b w3).mono ?_
 rintro v w4 ⟨rfl,e4⟩
 have M4:=M3.grow e4
 refine brE_mk (fun hb => ?_) (fun hb => ?_)
 ·rw [Bool.not_eq_true'] at hb
  exact ⟨by rw [chainS,if_neg (fun hh => by have:=hh.2.1; rw [ha,hb] at this; cases this)],M4.ext⟩
 rw [Bool.not_eq_false'] at hb
 obtain ⟨p,rfl,hp⟩:=inR_nat ha
 obtain ⟨q,rfl,hq⟩:=inR_nat hb
 have hlo:=hok.lo
 have hhi:=hok.hi
 obtain ⟨n,rfl⟩:=Int.eq_ofNat_of_zero_le hlo
 have hn:n <= 24:=by omega
 have hp24:p < 24:=by omega
 have hq24:q < 24:=by omega
 have hT:Inside n (toM xs):=hok.inside
 refine ⟨[.int .i64 n,.slice A xs.length c],rfl,M4.rd 0 rfl,?_⟩
 refine (steps_spec (h.ext M4.ext) hok).mono ?_
 rintro v w5 ⟨rfl,e5⟩
 have M5:=M4.grow e5
 intro g8 w6 h6
 have M6:=M5.alloc h6
 refine ⟨mat_size _,_,_,M6.get 0 rfl,Nat.le_of_ble_eq_true rfl,bools_one 576 _,?_⟩
 intro w7 h7
 have h7:Put w6 g8 (.cells (mat (toM xs)).toArray 171 (0,0)) w7:=by
  have:=mat_copy (toM xs) fun _ _ => false
  rw [<-mat_zero] at this
  rw [<-this]; exact h7
 have M7:=M6.put 0 rfl h7
 refine ⟨[.int .i64 n,.slice A xs.length c],rfl,M7.rd 1 rfl,?_⟩
 refine (far_spec (h.ext M7.ext) hok (b:=q) (by omega)).mono ?_
 rintro v w8 ⟨rfl,e8⟩
 have M8:=M7.grow e8
 intro g9 w9 h9
 have M9:=M8.alloc h9
 refine ⟨nats_size _,_,_,M9.get 0 rfl,Nat.le_of_ble_eq_true rfl,nats_one _,?_⟩
 intro w10 h10
 have h10:Put w9 g9 (.cells (nats (dist (toM xs) q)).toArray 132 (0,0)) w10:=by
  have:=nats_copy (dist (toM xs) q) fun _ => 0
  rw [<-nats_zero] at this
  rw [<-this]; exact h10
 have M10:=M9.put 0 rfl h10
 refine ⟨p,rfl,hp24,?_⟩
 refine ⟨_,nats_cell (M10.get 0 rfl) hp24,?_⟩
 refine brE_dec (fun h0 => ?_) (fun h0 => ?_)
 ·have h0:dist (toM xs) q p = 0:=by have:((dist (toM xs) q p:Nat):Int) = 0:=h0; omega
  refine ⟨?_,M10.ext⟩
  rw [chainS,if_neg]
  rintro ⟨_,_,hr⟩
  exact dist_zero.1 h0 (reach_iff.1 hr)
 have h0:dist (toM xs) q p ≠ 0:=by have:¬ ((dist (toM xs) q p:Nat):Int) = 0:=h0; omega
 have hch:chainS n xs p q = some (chainL (toM xs) p q):=by
  rw [chainS,if_pos]
  ·rfl
  ·refine ⟨hv,by rw [ha,hb]; rfl,?_⟩
   show reach (toM xs) p q = true
   cases hr:reach (toM xs) p q with
   | true => rfl
   | false => exact absurd (dist_zero.2 (reach_false.1 hr)) h0
 rw [hch]
 clear hch
 generalize toM xs = T at *
 have hle:=dist_le hT q
 obtain ⟨k0,hk0⟩:∃ k,dist T q p = k + 1:=⟨dist T q p - 1,by omega⟩
 intro go w11 h11
 have M11:=M10.alloc h11
 refine ⟨p,rfl,hp24,?_⟩
 refine ⟨_,nats_cell (M11.get 1 rfl) hp24,?_⟩
 rw [hk0]
 have hN11:NewInts w w11 (.slice (some ⟨go,0,none⟩) 1 1) [(p:Int)]:=owns_block (M11.get 0 rfl) (M11.new 0 rfl) rfl (Nat.le_of_ble_eq_true rfl)
 refine loopE C_ok (fun (s:List Int × Nat × Nat × Value) => [(2,.int .i64 q),(3,.pointer (some ⟨g3,0,none⟩)),(8,.pointer (some ⟨g8,0,none⟩)),(9,.pointer (some ⟨g9,0,none⟩)),(10,s.2.2.2),(11,.int .i64 s.2.1),(12,.int .i64 (s.2.2.1 + 1:Nat))])
  (fun s w' => s.2.1 < 24 ∧ dist T q s.2.1 = s.2.2.1 + 1 ∧ chainL T p q = (s.1 ++ [(s.2.1:Int)]) ++ (follow T (dist T q) s.2.1 s.2.2.1 ++ [(q:Int)]) ∧ s.1.length + s.2.2.1 <= 26 ∧
   NewInts w w' s.2.2.2 (s.1 ++ [(s.2.1:Int)]) ∧ Ext w w' ∧ w'.heap[g8]? = some (.cells (mat T).toArray 171 (0,0)) ∧ w'.heap[g9]? = some (.cells (nats (dist T q)).toArray 132 (0,0)) ∧ w'.heap[g3]? = some (.cells #[.int .i64 n,.slice A xs.length c] 49 (0,0)))
  (fun s => s.2.2.1) ([],p,k0,.slice (some ⟨go,0,none⟩) 1 1) ⟨rfl,rfl,rfl,rfl,rfl,rfl,rfl,trivial⟩
  ⟨hp24,hk0,by rw [chainL,hk0]; rfl,by have:=hle p; show 0 + k0 <= 26; omega,hN11,M11.ext,M11.get 2 rfl,M11.get 1 rfl,M11.get 3 rfl⟩ ?_
 rintro ⟨pre,x,k,v⟩ w12 ⟨hx,hdx,hcl,hlen,hnew,hE,hm,hd9,hr3⟩
 have hx:x < 24:=hx
 have hdx:dist T q x = k + 1:=hdx
 have hlen:pre.length + k <= 26:=hlen
 have hnew:NewInts w w12 v (pre ++ [(x:Int)]):=hnew
 have hpl:(pre ++ [(x:Int)]).length = pre.length + 1:=by simp
 have hcl:chainL T p q = (pre ++ [(x:Int)]) ++ (follow T (dist T q) x k ++ [(q:Int)]):=hcl
 refine brE_dec (fun hk => ?_) (fun hk => ?_)
 ·obtain ⟨k,rfl⟩:∃ m,k = m + 1:=⟨k - 1,by have:((k + 1:Nat):Int) > 1:=hk; omega⟩
  have hxn:x < n:=dist_lt hT (b:=q) (by omega)
  obtain ⟨_,y0,hty0,hy0⟩:=(dist_next (by omega:2 <= k + 1 + 1)).1 hdx
  refine loopE C_ok (fun (s:Nat × Int) => [(2,.int .i64 q),(3,.pointer (some ⟨g3,0,none⟩)),(8,.pointer (some ⟨g8,0,none⟩)),(9,.pointer (some ⟨g9,0,none⟩)),(10,v),(11,.int .i64 x),(12,.int .i64 (k + 1 + 1:Nat)),(13,.int .i64 s.2),(14,.int .i64 s.1)])
   (fun s w' => w' = w12 ∧ s.1 <= n ∧ FirstTo T (dist T q) x (k + 1) s.1 s.2) (fun s => n - s.1) (0,-1) ⟨rfl,rfl,rfl,rfl,rfl,rfl,rfl,rfl,rfl,trivial⟩
   ⟨rfl,Nat.zero_le _,.inl ⟨rfl,fun z hz => absurd hz (Nat.not_lt_zero _)⟩⟩ ?_
  rintro ⟨i,r⟩ w13 ⟨rfl,hi,hfst⟩
  have hi:i <= n:=hi
  have hfst:FirstTo T (dist T q) x (k + 1) i r:=hfst
  refine ⟨_,cell_of_block hr3 rfl,?_⟩
  refine brE_dec (fun hlt => ?_) (fun hge => ?_)
  ·have hlt:i < n:=by have:(i:Int) < n:=hlt; omega
   have hi24:i < 24:=by omega
   have next:IntKind.i64.wrap ((i:Int) + 1) = ((i + 1:Nat):Int):=fit ⟨by omega,by omega⟩
   have stay:(¬ r < 0 ∨ ¬ (T x i = true ∧ dist T q i = k + 1)) -> w13 = w13 ∧ i + 1 <= n ∧ FirstTo T (dist T q) x (k + 1) (i + 1) r:=fun hh => ⟨rfl,hlt,hfst.stay hh⟩
   refine brE_dec (fun hr0 => ?_) (fun hr0 => ?_)
   ·have hr0:r < 0:=hr0
    refine ⟨x,rfl,hx,?_⟩
    refine ⟨i,rfl,hi24,?_⟩
    refine ⟨_,mat_cell hm hx hi24,?_⟩
    refine brE_mk (fun ht => ?_) (fun ht => ?_)
    ·refine ⟨i,rfl,hi24,?_⟩
     refine ⟨_,nats_cell hd9 hi24,?_⟩
     refine ⟨((k + 1:Nat):Int),by rw [fit ⟨by omega,by omega⟩]; omega,?_⟩
     refine brE_dec (fun hd => ?_) (fun hd => ?_)
     ·have hd:dist T q i = k + 1:=by have:((dist T q i:Nat):Int) = ((k + 1:Nat):Int):=hd; omega
      refine ⟨_,next,?_⟩
      exact ⟨(i + 1,(i:Int)),⟨rfl,rfl,rfl,rfl,rfl,rfl,rfl,rfl,rfl,trivial⟩,⟨rfl,hlt,hfst.found hr0 ht hd⟩,by show n - (i + 1) < n - i; omega⟩
     ·have hd:¬ dist T q i = k + 1:=by have:¬ ((dist T q i:Nat):Int) = ((k + 1:Nat):Int):=hd; omega
      refine ⟨_,next,?_⟩
      exact ⟨(i + 1,r),⟨rfl,rfl,rfl,rfl,rfl,rfl,rfl,rfl,rfl,trivial⟩,stay (.inr fun hh => hd hh.2),by show n - (i + 1) < n - i; omega⟩
    ·refine ⟨_,next,?_⟩
     exact ⟨(i + 1,r),⟨rfl,rfl,rfl,rfl,rfl,rfl,rfl,rfl,rfl,trivial⟩,stay (.inr fun hh => by rw [hh.1] at ht; cases ht),by show n - (i + 1) < n - i; omega⟩
   ·refine ⟨_,next,?_⟩
    exact ⟨(i + 1,r),⟨rfl,rfl,rfl,rfl,rfl,rfl,rfl,rfl,rfl,trivial⟩,stay (.inl hr0),by show n - (i + 1) < n - i; omega⟩
  ·have:i = n:=by have:¬ (i:Int) < n:=hge; omega
   subst this
   have hy:∃ y:Nat,r = (y:Int) ∧ y < i ∧ T x y = true ∧ dist T q y = k + 1 ∧ ∀ z < y,¬ (T x z = true ∧ dist T q z = k + 1):=by
    rcases hfst with ⟨_,hh⟩ | hh
    ·exact absurd ⟨hty0,hy0⟩ (hh y0 (hT _ _ hty0).2)
    ·exact hh
   obtain ⟨y,rfl,hyn,hty,hdy,hmin⟩:=hy
   have hfol:follow T (dist T q) x (k + 1) = (y:Int) :: follow T (dist T q) y k:=follow_next (by omega) hty hdy hmin
   intro g14 w14 h14
   have ho14:w14.ownsRow w.heap.size 3 1 v (pre ++ [(x:Int)]).length (ints (pre ++ [(x:Int)])):=ownsRow_ext hnew h14.ext
   obtain ⟨A2,c2,rfl,_,_⟩:=reads_of_owns ho14
   have hE14:=hE.trans h14.ext
   refine ⟨rfl,rfl,rfl,w.heap.size,(pre ++ [(x:Int)]).length,ints (pre ++ [(x:Int)]),[.int .i64 y],ho14,hE14.size,Nat.lt_add_one 0,rfl,rfl,.inr ⟨g14,0,rfl,Rd.of_block h14.here⟩,rfl,rfl,by omega,by simp only [maxLen]; omega,?_⟩
   intro v15 w15 ho15 hg15 _
   have o15:=only_app ho14 hg15
   refine ⟨((k + 1:Nat):Int),by rw [fit ⟨by omega,by omega⟩]; omega,?_⟩
   refine ⟨(pre ++ [(x:Int)],y,k,v15),⟨rfl,rfl,rfl,rfl,rfl,rfl,rfl,trivial⟩,⟨by show y < 24; omega,hdy,?_,?_,?_,app_ext hE14 ho14 hg15,o15 _ _ _ _ (h14.ext.heap hm) (by decide),o15 _ _ _ _ (h14.ext.heap hd9) (by decide),o15 _ _ _ _ (h14.ext.heap hr3) (by decide)⟩,?_⟩
   ·show chainL T p q = _
    rw [hcl]
    show (pre ++ [(x:Int)]) ++ (follow T (dist T q) x (k + 1) ++ [(q:Int)]) = _
    rw [hfol]; simp
   ·show (pre ++ [(x:Int)]).length + k <= 26
    omega
   ·show w15.ownsRow _ _ _ _ _ _
    rw [List.length_append,ints_append]
    exact ho15
   ·show k < k + 1
    omega
 ·have hk0:k = 0:=by have:¬ ((k + 1:Nat):Int) > 1:=hk; omega
  subst hk0
  intro g13 w13 h13
  have ho13:w13.ownsRow w.heap.size 3 1 v (pre ++ [(x:Int)]).length (ints (pre ++ [(x:Int)])):=ownsRow_ext hnew h13.ext
  obtain ⟨A2,c2,rfl,_,_⟩:=reads_of_owns ho13
  have hE13:=hE.trans h13.ext
  refine ⟨rfl,rfl,rfl,w.heap.size,(pre ++ [(x:Int)]).length,ints (pre ++ [(x:Int)]),[.int .i64 q],ho13,hE13.size,Nat.lt_add_one 0,rfl,rfl,.inr ⟨g13,0,rfl,Rd.of_block h13.here⟩,rfl,rfl,by omega,by simp only [maxLen]; omega,?_⟩
  intro v14 w14 ho14 hg14 _
  refine ⟨⟨v14,rfl,?_⟩,app_ext hE13 ho13 hg14⟩
  show w14.ownsRow _ _ _ _ _ _
  rw [hcl,follow,List.nil_append,List.length_append,ints_append]
  exact ho14
end Go.Proofs.YtdpdjcopkehdjaaGreat.Rk
namespace Go.Proofs.YtdpdjcopkehdjaaGreat.Rk
open Go.Eng Go.RowKit
theorem ltA_iff {a b:Arrow}:ltA a b = true <-> (a.fr < b.fr ∨ a.fr = b.fr ∧ a.to < b.to):=by simp [ltA]
theorem ltA_trans {a b c:Arrow} (h:ltA a b = true) (k:ltA b c = true):ltA a c = true:=by rw [ltA_iff] at *; omega
theorem Valid.next_lt {N:Int} {xs:List Arrow} (h:Valid N xs) {i:Nat} (hi:i + 1 < xs.length):ltA xs[i] xs[i + 1] = true:=by
 have:=h.at_ hi
 unfold okAt at this
 have h2:i < xs.length:=by omega
 simp [hi,h2] at this
 exact this.2
theorem Valid.lt {N:Int} {xs:List Arrow} (h:Valid N xs) {i:Nat}:∀ {j:Nat} (hij:i < j) (hj:j < xs.length),ltA xs[i] xs[j] = true
 | 0,hij,_ => absurd hij (Nat.not_lt_zero _)
 | j + 1,hij,hj => by
  have hn:=h.next_lt hj
  by_cases e:i = j
  ·subst e; exact hn
  ·exact ltA_trans (h.lt (by omega) (by omega)) hn
theorem cmpA_lt (a b:Arrow):cmpA a b < 0 <-> ltA a b = true:=by
 have:=cmpA_neg a b
 cases h:ltA a b with
 | true => simp [h] at this; simp; omega
 | false => simp [h] at this; simp; omega
theorem cmpA_eq (a b:Arrow):cmpA a b = 0 <-> a.fr = b.fr ∧ a.to = b.to:=by
 simp only [cmpA,orI,cmpI]
 rcases Int.lt_trichotomy a.fr b.fr with h | h | h <;> rcases Int.lt_trichotomy a.to b.to with k | k | k <;> simp [h,k] <;> omega
def findA (xs:List Arrow) (a b:Int):Option Arrow:=xs.find? fun x => decide (x.fr = a ∧ x.to = b)
structure Hit (xs:List Arrow) (t:Arrow) (i:Nat) (f:Bool):Prop where
 le:i <= xs.length
 yes:f = true -> ∃ h:i < xs.length,xs[i].fr = t.fr ∧ xs[i].to = t.to
 no:f = false -> ∀ j (h:j < xs.length),¬ (xs[j].fr = t.fr ∧ xs[j].to = t.to)
theorem Search_spec {N:Int} {A:Option Addr} {xs:List Arrow} {c:Nat} {w:World} (hr:Reads w A (arrows xs)) (hok:Valid N xs) (hl:xs.length <= 4611686018427387904) (t:Arrow) :
  CallsV C.P 54 #[.slice A xs.length c,t.val,.func (.func 55) #[] #[]] w fun v w' => (∃ (i:Nat) (f:Bool),v = .tuple #[.int .i64 i,.bool f] ∧ Hit xs t i f) ∧ Ext w w':=by
 refine callsV_of C_ok (args:=[_,_,_]) (plans:=plans54) Tryz.func54 rfl Tryz.ntmps54 (by kernel_rfl) (Nat.le_of_ble_eq_true rfl) ?_
 intro g4 w1 h1
 have M1:=(Mem.start w).alloc h1
 have neg_le:∀ {j k:Nat} (hj:j < xs.length) (hk:k < xs.length),j <= k -> cmpA xs[k] t < 0 -> cmpA xs[j] t < 0:=fun {j k} hj hk hjk hn => by
  rw [cmpA_lt] at *
  by_cases e:j = k
  ·subst e; exact hn
  ·exact ltA_trans (hok.lt (by omega) hk) hn
 refine loopE C_ok (fun (s:Nat × Nat) => [(0,.slice A xs.length c),(2,.func (.func 55) #[] #[]),(4,.pointer (some ⟨g4,0,none⟩)),(8,.int .i64 xs.length),(9,.int .i64 s.1),(10,.int .i64 s.2)])
  (fun s w' => Mem w w' [(g4,.cells t.cells.toArray 60 (0,0))] ∧ s.1 <= s.2 ∧ s.2 <= xs.length ∧ (∀ j (h:j < xs.length),j < s.1 -> cmpA xs[j] t < 0) ∧ ∀ j (h:j < xs.length),s.2 <= j -> ¬ cmpA xs[j] t < 0) (fun s => s.2 - s.1) (0,xs.length)
  ⟨rfl,rfl,rfl,rfl,rfl,rfl,trivial⟩ ⟨M1,Nat.zero_le _,Nat.le_refl _,fun j _ hj => absurd hj (Nat.not_lt_zero _),fun j h1 h2 => absurd h1 (Nat.not_lt.2 h2)⟩ ?_
 rintro ⟨i,j⟩ w2 ⟨M2,hij,hj,hlo,hhi⟩
 have hij:i <= j:=hij
 have hj:j <= xs.length:=hj
 refine brE_dec (fun hlt => ?_) (fun hge => ?_)
 ·have hlt:i < j:=by have:(i:Int) < j:=hlt; omega
  have hm:(i + j) / 2 < xs.length:=by omega
  have hm1:i <= (i + j) / 2:=by omega
  have hm2:(i + j) / 2 < j:=by omega
  refine ⟨((i + j:Nat):Int),by rw [fit ⟨by omega,by omega⟩]; omega,?_⟩
  refine ⟨((i + j:Nat):Int),IntWalk.u64_in _ ⟨by omega,by omega⟩,?_⟩
  refine ⟨.int .u64 (((i + j) / 2:Nat):Int),fun w => ?_,⟨by decide,by decide⟩,?_⟩
  ·rw [binOp_shr,shift_shr_u64 _ _ _ (by decide) (by decide)]
   simp
  refine ⟨(((i + j) / 2:Nat):Int),fit ⟨by omega,by omega⟩,?_⟩
  generalize (i + j) / 2 = m at *
  obtain ⟨b,o,hA,hc⟩:=Reads.arrow hr hm
  refine ⟨m,b,o,rfl,hm,hA,?_⟩
  refine ⟨xs[m].cells,rfl,M2.oldRd hc,?_⟩
  refine ⟨t.cells,rfl,M2.rd 0 rfl,?_⟩
  refine (compareArrows_spec xs[m] t _).mono ?_
  rintro v w3 ⟨rfl,e3⟩
  have M3:=M2.grow e3
  refine brE_dec (fun hn => ?_) (fun hn => ?_)
  ·have hn:cmpA xs[m] t < 0:=hn
   refine ⟨((m + 1:Nat):Int),fit ⟨by omega,by omega⟩,?_⟩
   exact ⟨(m + 1,j),⟨rfl,rfl,rfl,rfl,rfl,rfl,trivial⟩,⟨M3,hm2,hj,fun k hk hkm => neg_le hk hm (by have:k < m + 1:=hkm; omega) hn,hhi⟩,by show j - (m + 1) < j - i; omega⟩
  ·have hn:¬ cmpA xs[m] t < 0:=hn
   exact ⟨(i,m),⟨rfl,rfl,rfl,rfl,rfl,rfl,trivial⟩,⟨M3,hm1,by show m <= xs.length; omega,hlo,fun k hk hkm hk0 => hn (neg_le hm hk hkm hk0)⟩,by show m - i < j - i; omega⟩
 ·have:i = j:=by have:¬ (i:Int) < j:=hge; omega
  subst this
  have miss:(∀ h:i < xs.length,¬ cmpA xs[i] t = 0) -> Hit xs t i false:=fun h0 => ⟨hj,(fun e => by cases e),fun _ k hk he => by
   have hc:=(cmpA_eq xs[k] t).2 he
   rcases Nat.lt_trichotomy k i with h1 | h1 | h1
   ·have:=hlo k hk h1; omega
   ·subst h1; exact h0 hk hc
   ·have hik:i < xs.length:=by omega
    have h2:=hhi i hik (Nat.le_refl _)
    have h3:=h0 hik
    have h4:cmpA xs[i] t > 0:=by omega
    have h5:=hok.lt h1 hk
    rw [ltA_iff] at h5
    have h6:¬ ltA xs[i] t = true:=fun hh => h2 ((cmpA_lt _ _).2 hh)
    rw [ltA_iff] at h6
    have h7:¬ (xs[i].fr = t.fr ∧ xs[i].to = t.to):=fun hh => h3 ((cmpA_eq _ _).2 hh)
    omega⟩
  refine brE_dec (fun hlt => ?_) (fun hge => ?_)
  ·have hlt:i < xs.length:=by have:(i:Int) < (xs.length:Nat):=hlt; omega
   obtain ⟨b,o,hA,hc⟩:=Reads.arrow hr hlt
   refine ⟨i,b,o,rfl,hlt,hA,?_⟩
   refine ⟨xs[i].cells,rfl,M2.oldRd hc,?_⟩
   refine ⟨t.cells,rfl,M2.rd 0 rfl,?_⟩
   refine (compareArrows_spec xs[i] t _).mono ?_
   rintro v w3 ⟨rfl,e3⟩
   refine ⟨e3,?_⟩
   refine ⟨⟨i,_,rfl,?_⟩,(M2.grow e3).ext⟩
   by_cases h0:cmpA xs[i] t = 0
   ·rw [h0]
    exact ⟨hj,fun _ => ⟨hlt,(cmpA_eq _ _).1 h0⟩,(fun e => by cases e)⟩
   ·rw [decide_eq_false h0]
    exact miss fun _ => h0
  ·refine ⟨⟨i,_,rfl,?_⟩,M2.ext⟩
   exact miss fun h => absurd h (by have:¬ (i:Int) < (xs.length:Nat):=hge; omega)
def arrowS (N:Int) (xs:List Arrow) (a b:Int):Option Arrow:=if chk N xs = 0 then findA xs a b else none
def arrowZ:Arrow:=⟨0,0,0,0⟩
theorem findA_of {N:Int} {xs:List Arrow} (hok:Valid N xs) {a b:Int} {i:Nat} (hi:i < xs.length) (h:xs[i].fr = a ∧ xs[i].to = b):findA xs a b = some xs[i]:=by
 unfold findA
 rw [List.find?_eq_some_iff_getElem]
 refine ⟨decide_eq_true h,i,hi,rfl,fun j hj => ?_⟩
 have:=hok.lt hj hi
 rw [ltA_iff] at this
 simp only [Bool.not_eq_true',decide_eq_false_iff_not]
 omega
theorem findA_none {xs:List Arrow} {a b:Int} (h:∀ j (h:j < xs.length),¬ (xs[j].fr = a ∧ xs[j].to = b)):findA xs a b = none:=by
 unfold findA
 rw [List.find?_eq_none]
 intro x hx
 obtain ⟨j,hj,rfl⟩:=List.getElem_of_mem hx
 simpa using h j hj
def arrowVal (r:Option Arrow):Value:=.tuple #[(r.getD arrowZ).val,.bool r.isSome]
theorem Arrow_spec {N:Int} {A:Option Addr} {xs:List Arrow} {c:Nat} {w:World} (h:HRel w N A xs c) (hl:xs.length <= 4611686018427387904) (a b:Int) :
  CallsV C.P 22 #[relVal N A xs.length c,.int .i64 a,.int .i64 b] w fun v w' => v = arrowVal (arrowS N xs a b) ∧ Ext w w':=by
 refine callsV_of C_ok (args:=[_,_,_]) (plans:=[]) Tryz.func22 rfl Tryz.ntmps22 (by kernel_rfl) (Nat.le_of_ble_eq_true rfl) ?_
 intro g3 w1 h1
 intro g6 w2 h2
 have M2:=((Mem.start w).alloc h1).alloc h2
 refine ⟨[.int .i64 N,.slice A xs.length c],rfl,M2.rd 1 rfl,?_⟩
 refine (Check_spec (h.ext M2.ext)).mono ?_
 rintro v w3 ⟨rfl,e3⟩
 have M3:=M2.grow e3
 refine brE_mk (fun hb => ?_) (fun hb => ?_)
 ·have hv:chk N xs ≠ 0:=by simpa using hb
  refine ⟨rfl,_,_,M3.get 0 rfl,Nat.le_of_ble_eq_true rfl,rfl,?_⟩
  intro w4 h4
  have M4:=M3.put 0 rfl h4
  refine ⟨_,rfl,M4.rd 0 rfl,?_⟩
  exact ⟨by rw [arrowS,if_neg hv]; rfl,M4.ext⟩
 have hv:chk N xs = 0:=by simpa using hb
 have hok:=valid_of_chk hv
 refine ⟨_,M3.cell 1 rfl rfl,?_⟩
 refine (Search_spec (h.reads.ext M3.ext) hok hl ⟨a,b,0,0⟩).mono ?_
 rintro v w4 ⟨⟨i,f,rfl,hit⟩,e4⟩
 have M4:=M3.grow e4
 refine brE_mk (fun hf => ?_) (fun hf => ?_)
 ·rw [Bool.not_eq_true'] at hf
  refine ⟨rfl,_,_,M4.get 0 rfl,Nat.le_of_ble_eq_true rfl,rfl,?_⟩
  intro w5 h5
  have M5:=M4.put 0 rfl h5
  refine ⟨_,rfl,M5.rd 0 rfl,?_⟩
  exact ⟨by rw [arrowS,if_pos hv,findA_none (hit.no hf)]; rfl,M5.ext⟩
 ·rw [Bool.not_eq_false'] at hf
  obtain ⟨hi,hh⟩:=hit.yes hf
  obtain ⟨bb,o,hA,hc⟩:=Reads.arrow h.reads hi
  refine ⟨_,M4.cell 1 rfl rfl,?_⟩
  refine ⟨i,bb,o,rfl,hi,hA,?_⟩
  refine ⟨xs[i].cells,rfl,M4.oldRd hc,?_⟩
  refine ⟨rfl,_,_,M4.get 0 rfl,Nat.le_of_ble_eq_true rfl,rfl,?_⟩
  intro w5 h5
  have M5:=M4.put 0 rfl h5
  refine ⟨xs[i].cells,rfl,M5.rd 0 rfl,?_⟩
  exact ⟨by rw [arrowS,if_pos hv,findA_of hok hi hh]; rfl,M5.ext⟩
end Go.Proofs.YtdpdjcopkehdjaaGreat.Rk
namespace Go.Proofs.YtdpdjcopkehdjaaGreat.Rk
open Go.Eng Go.RowKit
end Go.Proofs.YtdpdjcopkehdjaaGreat.Rk
namespace Go.Proofs.YtdpdjcopkehdjaaGreat.Rk
open Go.Eng Go.RowKit
theorem splice_take_at {cs vs:List Value} {i:Nat} (h:i <= cs.length):(splice cs i vs).take i = cs.take i:=by
 unfold splice
 rw [List.append_assoc,List.take_append_of_le_length (by simp; omega),List.take_take,Nat.min_self]
end Go.Proofs.YtdpdjcopkehdjaaGreat.Rk
namespace Go.Proofs.YtdpdjcopkehdjaaGreat.Rk
open Go.Eng Go.RowKit
theorem valid_of {N:Int} {xs:List Arrow} (hlo:0 <= N) (hhi:N <= 24) (hg:∀ x ∈ xs,goodA N x = true) (hs:xs.Pairwise fun a b => ltA a b = true):Valid N xs:=by
 refine ⟨hlo,hhi,List.all_eq_true.2 fun i hi => ?_⟩
 have hi:i < xs.length:=List.mem_range.1 hi
 have hp:=List.pairwise_iff_getElem.1 hs
 unfold okAt
 rw [List.getElem?_eq_getElem hi]
 simp only [hg _ (List.getElem_mem hi),Bool.true_and]
 cases i with
 | zero => rfl
 | succ j =>
  have hj:j < xs.length:=by omega
  show (match xs[j]? with | some y => ltA y xs[j + 1] | none => false) = true
  rw [List.getElem?_eq_getElem hj]
  exact hp j (j + 1) hj hi (Nat.lt_succ_self _)
theorem Valid.goodAll {N:Int} {xs:List Arrow} (h:Valid N xs):∀ x ∈ xs,goodA N x = true:=fun x hx => by
 obtain ⟨i,hi,rfl⟩:=List.getElem_of_mem hx
 exact h.good hi
theorem Valid.sorted {N:Int} {xs:List Arrow} (h:Valid N xs):xs.Pairwise fun a b => ltA a b = true:=List.pairwise_iff_getElem.2 fun _ _ _ hj hij => h.lt hij hj
theorem Valid.filter {N:Int} {xs:List Arrow} (h:Valid N xs) (p:Arrow -> Bool):Valid N (xs.filter p) :=
 valid_of h.lo h.hi (fun x hx => h.goodAll x ((List.mem_filter.1 hx).1)) (h.sorted.filter p)
theorem waive_mem {xs:List Arrow} {ps:List (Int × Int)} {x:Arrow}:x ∈ waiveL xs ps <-> x ∈ xs ∧ (x.fr,x.to) ∉ ps:=by
 unfold waiveL
 rw [List.mem_filter]
 simp
def backL (xs:List Arrow):List (Int × Int):=(xs.filter fun x => decide (x.fr > x.to)).map fun x => (x.fr,x.to)
theorem backL_length (xs:List Arrow):(backL xs).length <= xs.length:=by
 unfold backL; rw [List.length_map]; exact List.length_filter_le _ _
theorem Reads.pr {w:World} {A:Option Addr} {ps:List (Int × Int)} (h:Reads w A (prCells ps)) {i:Nat} (hi:i < ps.length):∃ b o,A = some ⟨b,o,none⟩ ∧ w.cell? ⟨b,o + i * 2,none⟩ = some (.int .i64 ps[i].1) ∧ w.cell? ⟨b,o + i * 2 + 1,none⟩ = some (.int .i64 ps[i].2):=by
 rcases h with h | ⟨b,o,hA,hr⟩
 ·have:=congrArg List.length h
  rw [prCells_length] at this
  have:ps.length * 2 = 0:=this
  omega
 ·have key:∀ (l:List (Int × Int)) (i:Nat) (hi:i < l.length),(prCells l)[i * 2]? = some (.int .i64 l[i].1) ∧ (prCells l)[i * 2 + 1]? = some (.int .i64 l[i].2):=by
   intro l
   induction l with
   | nil => intro i hi; simp at hi
   | cons p l ih =>
    intro i hi
    cases i with
    | zero => exact ⟨rfl,rfl⟩
    | succ i =>
     have:=ih i (by simpa using hi)
     have e1:(i + 1) * 2 = i * 2 + 1 + 1:=by omega
     rw [e1]
     exact this
  obtain ⟨k1,k2⟩:=key ps i hi
  exact ⟨b,o,hA,hr _ _ k1,hr _ _ k2⟩
theorem Has_spec {w:World} {A:Option Addr} {c:Nat} {ps:List (Int × Int)} (hr:Reads w A (prCells ps)) (hl:ps.length <= 9223372036854775807) (a b:Int) :
  CallsV C.P 24 #[.slice A ps.length c,.int .i64 a,.int .i64 b] w fun v w' => v = .bool (decide ((a,b) ∈ ps)) ∧ w' = w:=by
 refine callsV_of C_ok (args:=[_,_,_]) (plans:=[]) Tryz.func24 rfl Tryz.ntmps24 (by kernel_rfl) (Nat.le_of_ble_eq_true rfl) ?_
 refine loopE C_ok (fun (i:Nat) => [(0,.slice A ps.length c),(1,.int .i64 a),(2,.int .i64 b),(7,.int .i64 i)])
  (fun i w' => w' = w ∧ i <= ps.length ∧ ∀ j (h:j < ps.length),j < i -> ps[j] ≠ (a,b)) (fun i => ps.length - i) 0 ⟨rfl,rfl,rfl,rfl,trivial⟩
  ⟨rfl,Nat.zero_le _,fun j _ hj => absurd hj (Nat.not_lt_zero _)⟩ ?_
 rintro i w1 ⟨rfl,hi,hall⟩
 refine brE_dec (fun hlt => ?_) (fun hge => ?_)
 ·have hlt:i < ps.length:=by have:(i:Int) < (ps.length:Nat):=hlt; omega
  obtain ⟨bb,o,hA,c1,c2⟩:=Reads.pr hr hlt
  have next:IntKind.i64.wrap ((i:Int) + 1) = ((i + 1:Nat):Int):=fit ⟨by omega,by omega⟩
  have go:ps[i] ≠ (a,b) -> ∀ j (h:j < ps.length),j < i + 1 -> ps[j] ≠ (a,b):=fun hn j hj hji => by
   rcases Nat.lt_or_ge j i with h | h
   ·exact hall j hj h
   ·obtain rfl:j = i:=by omega
    exact hn
  refine ⟨i,bb,o,rfl,hlt,hA,?_⟩
  refine ⟨_,c1,?_⟩
  refine brE_dec (fun h1 => ?_) (fun h1 => ?_)
  ·have h1:ps[i].1 = a:=h1
   refine ⟨i,bb,o,rfl,hlt,hA,?_⟩
   refine ⟨_,c2,?_⟩
   refine brE_dec (fun h2 => ?_) (fun h2 => ?_)
   ·have h2:ps[i].2 = b:=h2
    refine ⟨?_,rfl⟩
    have:(a,b) ∈ ps:=by
     have:=List.getElem_mem hlt
     rw [show ps[i] = (a,b) from Prod.ext h1 h2] at this
     exact this
    rw [decide_eq_true this]
   ·refine ⟨_,next,?_⟩
    exact ⟨i + 1,⟨rfl,rfl,rfl,rfl,trivial⟩,⟨rfl,hlt,go fun e => h2 (by show ps[i].2 = b; rw [e])⟩,by omega⟩
  ·refine ⟨_,next,?_⟩
   exact ⟨i + 1,⟨rfl,rfl,rfl,rfl,trivial⟩,⟨rfl,hlt,go fun e => h1 (by show ps[i].1 = a; rw [e])⟩,by omega⟩
 ·have:i = ps.length:=by have:¬ (i:Int) < (ps.length:Nat):=hge; omega
  subst this
  refine ⟨?_,rfl⟩
  have:(a,b) ∉ ps:=fun hm => by
   obtain ⟨j,hj,e⟩:=List.getElem_of_mem hm
   exact hall j hj hj e
  rw [decide_eq_false this]
end Go.Proofs.YtdpdjcopkehdjaaGreat.Rk
namespace Go.Proofs.YtdpdjcopkehdjaaGreat.Rk
open Go.Eng Go.RowKit
end Go.Proofs.YtdpdjcopkehdjaaGreat.Rk
namespace Go.Eng
open Go.RowKit Go.Sort Go.Proofs
section
variable {α:Type} [Inhabited α]
theorem flatK_eq {enc : α → List Value} {k : Nat} (hk : ∀ x, (enc x).length = k) (d : Array α) : (flatK enc k d).toList = d.toList.flatMap enc := by
  apply List.ext_getElem?
  intro t
  by_cases ht : t < d.size * k
  · have k0 : 0 < k := by rcases Nat.eq_zero_or_pos k with h | h
                          · subst h; simp at ht
                          · exact h
    have hq : t / k < d.size := Nat.div_lt_of_lt_mul (by rwa [Nat.mul_comm] at ht)
    have hr : t % k < k := Nat.mod_lt _ k0
    have e : t / k * k + t % k = t := by rw [Nat.mul_comm]; exact Nat.div_add_mod t k
    have h1 := flat_get hk d.toList (t / k) (t % k) (by simpa using hq) hr
    rw [e] at h1
    rw [h1]
    have h2 := get_flatK enc k d t ht
    have hs : t < (flatK enc k d).size := by rw [size_flatK]; exact ht
    rw [getElem!_pos (flatK enc k d) t hs, getElem!_pos d (t / k) hq] at h2
    have hl : t % k < (enc d[t / k]).length := by rw [hk]; exact hr
    rw [getElem!_pos (enc d[t / k]) (t % k) hl] at h2
    have e1 : (flatK enc k d).toList[t]? = some ((enc d[t / k])[t % k]) := by
      rw [List.getElem?_eq_getElem (by simpa using hs), Array.getElem_toList, h2]
    have e2 : d.toList[t / k]'(by simpa using hq) = d[t / k] := Array.getElem_toList _
    rw [e1, e2, List.getElem?_eq_getElem hl]
  · rw [List.getElem?_eq_none (by simp; omega), List.getElem?_eq_none (by rw [flat_length hk]; simp; omega)]
theorem sort_row {enc:α -> List Value} {k:Nat} (hk:∀ x,(enc x).length = k) {w:World} {base e cap g:Nat} {l:List α}
  (h:w.ownsRow base e k (.slice (some ⟨g,0,none⟩) l.length cap) l.length (l.flatMap enc)) :
  HoldsK enc k w g 0 l.toArray ∧ g < w.heap.size ∧ base <= g ∧ ∀ (d':Array α) (m:Nat) (os:Array Obj),d'.size = l.length →
   (sortWorldK enc k w g 0 m d' os).ownsRow base e k (.slice (some ⟨g,0,none⟩) l.length cap) l.length (d'.toList.flatMap enc) ∧ w.grownBy (sortWorldK enc k w g 0 m d' os) (some g) ∧ Only e w (sortWorldK enc k w g 0 m d' os):=by
 have hlt:=(h.lt g rfl)
 obtain ⟨cur,hg,hgB,hcl,hcc,hnc,hxl,htake,_⟩:=ownsRow_open h
 have hm:cap <= maxLen:=by
  obtain ⟨_,⟨hv,_⟩ | ⟨g',cap',cur',hv,_,_,_,h4,_⟩⟩:=h
  ·cases hv
  ·cases hv; exact h4
 have hold:∀ (d':Array α) (m:Nat) (os:Array Obj),(sortWorldK enc k w g 0 m d' os).heap = (w.heap.modify g (onCells (putCells id 0 (flatK enc k d')))) ++ os:=fun d' m os => rfl
 have hblk:∀ (d':Array α) (m:Nat) (os:Array Obj),(sortWorldK enc k w g 0 m d' os).heap[g]? = some (.cells (putCells id 0 (flatK enc k d') cur.toArray) e (0,0)):=fun d' m os => by
  rw [hold,Array.getElem?_append_left (by simpa using hlt.2),Array.getElem?_modify,if_pos rfl,hg]
  rfl
 have hoth:∀ (d':Array α) (m:Nat) (os:Array Obj) (q:Nat),q < w.heap.size -> q ≠ g -> (sortWorldK enc k w g 0 m d' os).heap[q]? = w.heap[q]?:=fun d' m os q hq hne => by
  rw [hold,Array.getElem?_append_left (by simpa using hq),Array.getElem?_modify,if_neg (fun e => hne e.symm)]
 refine ⟨fun j hj => ?_,hlt.2,hgB,fun d' m os hs => ⟨⟨?_,.inr ⟨g,cap,_,rfl,hgB,hblk d' m os,hnc,hm,?_,?_⟩⟩,⟨rfl,rfl,rfl,?_,fun q hq hne => hoth d' m os q hq (fun e => hne (by rw [e]))⟩,fun q c t fr hq hne => ?_⟩⟩
 ·rw [size_flatK] at hj
  have hj':j < l.length * k:=by simpa using hj
  have hc:cur[j]? = some ((flatK enc k l.toArray)[j]!):=by
   have h1:(l.flatMap enc)[j]? = some ((flatK enc k l.toArray)[j]!):=by
    rw [<-show (flatK enc k l.toArray).toList = l.flatMap enc by rw [flatK_eq hk]]
    have hs:j < (flatK enc k l.toArray).size:=by rw [size_flatK]; exact hj
    rw [getElem!_pos _ j hs]
    simp
   rw [<-h1,<-htake,List.getElem?_take,if_pos (by omega)]
  rw [Nat.zero_add]
  refine ⟨?_,?_⟩
  ·rw [cell_of_block hg (v:=(flatK enc k l.toArray)[j]!) (by simpa using hc)]
   rfl
  ·simp [World.frozen?,hg]
 ·rw [flat_length hk]; simp [hs]
 ·simp [putCells,hcc]
 ·rw [<-flatK_eq hk d']
  apply List.ext_getElem?
  intro t
  rw [List.getElem?_take]
  by_cases ht:t < l.length * k
  ·rw [if_pos ht]
   have hsz:t < (flatK enc k d').size:=by rw [size_flatK,hs]; exact ht
   have htc:t < cur.length:=by omega
   simp only [putCells,Array.getElem?_toList,Array.getElem?_mapIdx,List.getElem?_toArray,List.getElem?_eq_getElem htc,Option.map_some,Nat.zero_le,true_and,Nat.zero_add,Nat.sub_zero,id]
   rw [if_pos hsz,getElem!_pos _ t hsz]
   simp
  ·rw [if_neg ht,List.getElem?_eq_none]
   rw [Array.length_toList,size_flatK,hs]; omega
 ·rw [hold]; simp
 ·by_cases e':q = g
  ·subst e'
   have:=hq.symm.trans hg
   simp at this
   exact absurd this.2.1 hne
  ·rw [hoth d' m os q (lt_of_heap hq) e']; exact hq
theorem cmpLays_of {P:Program} {g:Nat} {cb:Array Value} {enc:α -> List Value} {k:Nat} {cf:α -> α -> Int} {blk off size:Nat} {w:World}
  (h:∀ (x y:α) (W:World),CallsV P g (#[.agg (enc x).toArray,.agg (enc y).toArray] ++ cb) W fun v w' => v = .int .i64 (cf x y) ∧ Ext W w'):CmpLays P g cb enc k cf blk off size w:=by
 intro m os dk hs x y
 generalize sortWorldK enc k w blk off m dk os = W
 refine (h x y W W (Same.refl W)).mono ?_
 rintro e w' ⟨⟨v,w'',rfl,⟨rfl,he⟩,hsame⟩,hd⟩
 have he':Ext W w':=he.same_right hsame
 refine ⟨rfl,w'.drawn - W.drawn,w'.heap.extract W.heap.size w'.heap.size,?_⟩
 obtain ⟨hp,tp,dr,os',op⟩:=w'
 have h1:tp = W.tape:=he'.tape
 have h2:os' = W.os:=he'.os
 have h3:op = W.output:=he'.output
 have h4:dr = W.drawn + (dr - W.drawn):=by have:W.drawn <= dr:=hd rfl; omega
 have h5:hp = W.heap ++ hp.extract W.heap.size hp.size:=by
  apply Array.ext_getElem?
  intro q
  have hsz:W.heap.size <= hp.size:=he'.size
  by_cases hq:q < W.heap.size
  ·rw [Array.getElem?_append_left hq]
   exact he'.block q hq
  ·rw [Array.getElem?_append_right (by omega),Array.getElem?_extract]
   by_cases h2:q < hp.size
   ·rw [if_pos (by omega)]
    congr 1; omega
   ·rw [if_neg (by omega),Array.getElem?_eq_none (by omega)]
 subst h1 h2 h3
 unfold grow World.drewN
 simp only
 rw [<-h4,<-h5]
theorem sortV {P:Program} {f g:Nat} {cb:Array Value} {enc:α -> List Value} {k:Nat} (hk:∀ x,(enc x).length = k) {lt:α -> α -> Bool}
  (hsort:∀ (W:World) (blk cap:Nat) (d:Array α),d.size < 4611686018427387904 -> HoldsK enc k W blk 0 d -> blk < W.heap.size -> Calls P f #[.slice (some ⟨blk,0,none⟩) d.size cap,.func (.func g) #[] cb] W fun e w' =>
   e = .returned (.tuple #[]) ∧ ∃ d' n os,PermIn 0 d.size d d' ∧ SortedIn lt 0 d.size d' ∧ w' = sortWorldK enc k W blk 0 n d' os)
  (hnone:∀ (A:Option Addr) (cap:Nat) (W:World),Calls P f #[.slice A 0 cap,.func (.func g) #[] cb] W fun e w' => e = .returned (.tuple #[]) ∧ w' = W)
  {w:World} {base e:Nat} {v:Value} {l:List α} (h:w.ownsRow base e k v l.length (l.flatMap enc)) (hlen:l.length < 4611686018427387904) :
  CallsV P f #[v,.func (.func g) #[] cb] w fun r w' => r = .tuple #[] ∧ ∃ l':List α,l'.Perm l ∧ (l'.Pairwise fun a b => lt b a = false) ∧ w'.ownsRow base e k v l'.length (l'.flatMap enc) ∧ w.grownBy w' v.ownBlock ∧ Only e w w':=by
 refine callsV_of_calls fun w₁ hs => ?_
 have h1:=ownsRow_same hs h
 have turn:∀ {w':World} {row:Option Nat},w₁.grownBy w' row -> w.grownBy w' row:=fun hg => ⟨hg.os.trans hs.os,hg.tape.trans hs.tape,hg.output.trans hs.output,by rw [<-hs.heap]; exact hg.size,fun q hq hne => by rw [<-hs.heap] at hq ⊢; exact hg.block q hq hne⟩
 have turnO:∀ {w':World},Only e w₁ w' -> Only e w w':=fun ho q c t fr hq hne => ho q c t fr (by rw [hs.heap]; exact hq) hne
 by_cases h0:l = []
 ·subst h0
  obtain ⟨A,c,rfl,_,_⟩:=reads_of_owns h1
  refine (hnone A c w₁).mono ?_
  rintro r w' ⟨rfl,rfl⟩
  exact ⟨_,rfl,⟨rfl,[],List.Perm.refl _,List.Pairwise.nil,h1,turn (grownBy_refl _ _),turnO (only_ext _ (Ext.refl _))⟩,Nat.le_refl _⟩
 ·have hpos:0 < l.length:=List.length_pos_iff.2 h0
  have hv:∃ q cap,v = .slice (some ⟨q,0,none⟩) l.length cap:=by
   obtain ⟨_,⟨hv,hn⟩ | ⟨q,cap,cur,hv,_⟩⟩:=h1
   ·omega
   ·exact ⟨q,cap,hv⟩
  obtain ⟨q,cap,rfl⟩:=hv
  obtain ⟨hH,hlt,hB,hrow⟩:=sort_row hk h1
  have hcall:=hsort w₁ q cap l.toArray (by simpa using hlen) hH hlt
  simp only [List.size_toArray] at hcall
  refine hcall.mono ?_
  rintro r w' ⟨rfl,d',n,os,hp,hso,rfl⟩
  have hsz:d'.size = l.length:=by simpa using hp.1
  obtain ⟨ho,hg,hon⟩:=hrow d' n os hsz
  have hperm:d'.toList.Perm l:=by
   have:=hp.2.2
   have e1:d'.extract 0 l.length = d':=by rw [<-hsz]; exact Array.extract_size
   have e2:l.toArray.extract 0 l.length = l.toArray:=by simp
   rw [e1,e2] at this
   simpa using this
  refine ⟨_,rfl,⟨rfl,d'.toList,hperm,?_,?_,turn hg,turnO hon⟩,?_⟩
  ·refine List.pairwise_iff_getElem.2 fun i j hi hj hij => ?_
   have hi':i < d'.size:=by simpa using hi
   have hj':j < d'.size:=by simpa using hj
   have:=hso i j (Nat.zero_le _) hij (by omega)
   rw [getElem!_pos d' i hi',getElem!_pos d' j hj'] at this
   simpa using this
  ·have e:d'.toList.length = l.length:=by rw [Array.length_toList,hsz]
   rw [e]; simpa using ho
  ·show w₁.drawn <= w₁.drawn + n
   omega
end
end Go.Eng
namespace Go.Proofs.YtdpdjcopkehdjaaGreat.Rk
open Go.Eng Go.RowKit Go.Sort
def sortA_ren:Go.Shelf.Ren:=⟨fun | 6 => 103 | 15 => 141 | 14 => 168 | 28 => 218 | 29 => 219 | 20 => 232 | 21 => 233 | 22 => 234 | 23 => 235 | 24 => 236 | 25 => 237 | 26 => 238 | 27 => 239 | 46 => 271 | 47 => 257 | 48 => 258 | 49 => 272 | 50 => 273 | 57 => 299 | n => n,fun | 22 => 47 | 24 => 60 | 25 => 115 | 3 => 3 | 39 => 163 | 0 => 0 | 53 => 249 | 55 => 251 | 4 => 4 | 46 => 243 | 45 => 242 | 50 => 113 | 5 => 5 | 9 => 9 | 66 => 274 | 70 => 265 | 76 => 289 | 77 => 210 | n => n,fun | n => n⟩
theorem sortA:Go.Proofs.SlLaysF0.n6 Tryz.prog sortA_ren:={
 mixed:=by kernel_rfl,
 f6:=⟨Tryz.f103.name,by decide,Tryz.func103.trans (congrArg some (by kernel_rfl))⟩,
 f14:=⟨Tryz.f168.name,by decide,Tryz.func168.trans (congrArg some (by kernel_rfl))⟩,
 f15:=Tryz.func141.trans (congrArg some (by kernel_rfl)),
 f20:=⟨Tryz.f232.name,by decide,Tryz.func232.trans (congrArg some (by kernel_rfl))⟩,
 f21:=⟨Tryz.f233.name,by decide,Tryz.func233.trans (congrArg some (by kernel_rfl))⟩,
 f22:=⟨Tryz.f234.name,by decide,Tryz.func234.trans (congrArg some (by kernel_rfl))⟩,
 f23:=⟨Tryz.f235.name,by decide,Tryz.func235.trans (congrArg some (by kernel_rfl))⟩,
 f24:=⟨Tryz.f236.name,by decide,Tryz.func236.trans (congrArg some (by kernel_rfl))⟩,
 f25:=⟨Tryz.f237.name,by decide,Tryz.func237.trans (congrArg some (by kernel_rfl))⟩,
 f26:=⟨Tryz.f238.name,by decide,Tryz.func238.trans (congrArg some (by kernel_rfl))⟩,
 f27:=⟨Tryz.f239.name,by decide,Tryz.func239.trans (congrArg some (by kernel_rfl))⟩,
 f28:=Tryz.func218.trans (congrArg some (by kernel_rfl)),
 f29:=Tryz.func219.trans (congrArg some (by kernel_rfl)),
 f46:=⟨Tryz.f271.name,by decide,Tryz.func271.trans (congrArg some (by kernel_rfl))⟩,
 f47:=Tryz.func257.trans (congrArg some (by kernel_rfl)),
 f48:=Tryz.func258.trans (congrArg some (by kernel_rfl)),
 f49:=⟨Tryz.f272.name,by decide,Tryz.func272.trans (congrArg some (by kernel_rfl))⟩,
 f50:=⟨Tryz.f273.name,by decide,Tryz.func273.trans (congrArg some (by kernel_rfl))⟩,
 f57:=⟨Tryz.f299.name,by decide,Tryz.func299.trans (congrArg some (by kernel_rfl))⟩,
 t0:=Tryz.underlying0,
 a0:=Tryz.isAgg0,
 z0:=Tryz.sizeOf0,
 v0:=Tryz.zeroValue0,
 t3:=Tryz.underlying3,
 a3:=Tryz.isAgg3,
 z3:=Tryz.sizeOf3,
 v3:=Tryz.zeroValue3,
 t4:=Tryz.underlying4,
 a4:=Tryz.isAgg4,
 z4:=Tryz.sizeOf4,
 v4:=Tryz.zeroValue4,
 t5:=Tryz.underlying5,
 a5:=Tryz.isAgg5,
 z5:=Tryz.sizeOf5,
 v5:=Tryz.zeroValue5,
 t9:=Tryz.underlying9,
 a9:=Tryz.isAgg9,
 z9:=Tryz.sizeOf9,
 v9:=Tryz.zeroValue9,
 t22:=Tryz.underlying47,
 a22:=Tryz.isAgg47,
 z22:=Tryz.sizeOf47,
 v22:=Tryz.zeroValue47,
 t25:=Tryz.underlying115,
 a25:=Tryz.isAgg115,
 z25:=Tryz.sizeOf115,
 v25:=Tryz.zeroValue115,
 t39:=Tryz.underlying163,
 a39:=Tryz.isAgg163,
 z39:=Tryz.sizeOf163,
 v39:=Tryz.zeroValue163,
 t45:=Tryz.underlying242,
 a45:=Tryz.isAgg242,
 z45:=Tryz.sizeOf242,
 v45:=Tryz.zeroValue242,
 t46:=Tryz.underlying243,
 a46:=Tryz.isAgg243,
 z46:=Tryz.sizeOf243,
 v46:=Tryz.zeroValue243,
 t50:=Tryz.underlying113,
 a50:=Tryz.isAgg113,
 z50:=Tryz.sizeOf113,
 v50:=Tryz.zeroValue113,
 t53:=Tryz.underlying249,
 a53:=Tryz.isAgg249,
 z53:=Tryz.sizeOf249,
 v53:=Tryz.zeroValue249,
 t55:=Tryz.underlying251,
 a55:=Tryz.isAgg251,
 z55:=Tryz.sizeOf251,
 v55:=Tryz.zeroValue251,
 t66:=Tryz.underlying274,
 a66:=Tryz.isAgg274,
 z66:=Tryz.sizeOf274,
 v66:=Tryz.zeroValue274,
 t70:=Tryz.underlying265,
 a70:=Tryz.isAgg265,
 z70:=Tryz.sizeOf265,
 v70:=Tryz.zeroValue265,
 t76:=Tryz.underlying289,
 a76:=Tryz.isAgg289,
 z76:=Tryz.sizeOf289,
 v76:=Tryz.zeroValue289,
 t77:=Tryz.underlying210,
 a77:=Tryz.isAgg210,
 z77:=Tryz.sizeOf210,
 v77:=Tryz.zeroValue210 }
instance inhArrowS:Inhabited Arrow:=⟨arrowZ⟩
theorem ltOf_cmpA (x y:Arrow):ltOf cmpA x y = ltA x y:=by
 unfold ltOf
 rw [Bool.eq_iff_iff,decide_eq_true_eq,cmpA_lt]
theorem swo_arrow:SWO (ltOf cmpA) where
 irrefl x:=by rw [ltOf_cmpA]; simp [ltA]
 trans x y z h1 h2:=by rw [ltOf_cmpA] at *; exact ltA_trans h1 h2
 ntrans x y z h1 h2:=by rw [ltOf_cmpA] at *; simp [ltA] at *; omega
theorem cmp_arrow (x y:Arrow) (W:World):CallsV C.P 55 (#[.agg x.cells.toArray,.agg y.cells.toArray] ++ #[]) W fun v w' => v = .int .i64 (cmpA x y) ∧ Ext W w':=compareArrows_spec x y W
theorem SortArrows_spec {w:World} {base:Nat} {v:Value} {l:List Arrow} (h:w.ownsRow base 60 4 v l.length (arrows l)) (hlen:l.length < 4611686018427387904) :
  CallsV C.P 103 #[v,.func (.func 55) #[] #[]] w fun r w' => r = .tuple #[] ∧ ∃ l':List Arrow,l'.Perm l ∧ (l'.Pairwise fun a b => ltA b a = false) ∧ w'.ownsRow base 60 4 v l'.length (arrows l') ∧ w.grownBy w' v.ownBlock ∧ Only 60 w w':=by
 have eg:∀ args w,(callFunc 55 args).run Tryz.prog w = .ok (.enter 55 args) w:=enters_of Tryz.func55 (by kernel_rfl) rfl
 have hlt:ltOf cmpA = ltA:=by funext x y; exact ltOf_cmpA x y
 refine (sortV (P:=C.P) (f:=103) (g:=55) (cb:=#[]) (enc:=Arrow.cells) (k:=4) (fun _ => rfl) (lt:=ltA) (fun W blk cap d hd hH hb => ?_) (fun A cap W => ?_) h hlen).mono ?_
 ·have hcon:=AnyQ.slices_SortFunc sortA 4 Tryz.isAgg60 Tryz.sizeOf60 Arrow.cells (fun _ => rfl) (fun x v hv => by simp [Arrow.cells] at hv; rcases hv with rfl | rfl | rfl | rfl <;> rfl) cmpA swo_arrow 55 #[] blk 0 cap d W eg (cmpLays_of cmp_arrow) hH hb hd
  rw [hlt] at hcon
  exact hcon
 ·exact AnyF.slices_SortFunc_none sortA A cap _ W
 ·exact fun _ _ h => h
end Go.Proofs.YtdpdjcopkehdjaaGreat.Rk
namespace Go.Proofs.YtdpdjcopkehdjaaGreat.Rk
open Go.Eng Go.RowKit
theorem Ver.swap {l:List Rl} {T B:Rl -> Bool} {ρ r q:Int} (h:Ver l T B ρ r q):Ver l B T ρ q r:=by
 refine ⟨?_,h.fb,h.fr⟩
 rcases h.top with ⟨e,h2⟩ | ⟨⟨x,hx,hxr,hxt⟩,h2⟩
 ·exact .inl ⟨e,fun x hx => (h2 x hx).symm⟩
 ·exact .inr ⟨⟨x,hx,hxr,hxt.symm⟩,fun x hx ht => h2 x hx ht.symm⟩
theorem decV_swap (l:List Rl) (T B:Rl -> Bool):decV l B T = ((decV l T B).2,(decV l T B).1):=by
 by_cases hx:∃ p:Int × Int × Int,Ver l T B p.1 p.2.1 p.2.2
 ·obtain ⟨p,hp⟩:=hx
  rw [decV_eq hp,decV_eq hp.swap]
 ·have hy:¬ ∃ p:Int × Int × Int,Ver l B T p.1 p.2.1 p.2.2:=fun ⟨p,hp⟩ => hx ⟨(p.1,p.2.2,p.2.1),hp.swap⟩
  unfold decV
  rw [dif_neg hx,dif_neg hy]
theorem decE_swap (l:List Rl) (a b:Prof):decE l a b = decE l b a:=by
 have e:(if a.Ok ∧ b.Ok then (0:Int) else 1) = if b.Ok ∧ a.Ok then 0 else 1:=by
  by_cases h:a.Ok ∧ b.Ok
  ·rw [if_pos h,if_pos h.symm]
  ·rw [if_neg h,if_neg (fun e => h e.symm)]
 unfold decE
 rw [e]
theorem ruled_back (l:List Rl) (a b:Prof):ruledI l b a = if decE l a b = 0 then (decP l a b).2 else -1:=by
 unfold ruledI
 rw [decE_swap l b a]
 have:decP l b a = ((decP l a b).2,(decP l a b).1):=decV_swap l _ _
 rw [this]
def wtOf (l:List Rl) (n:Int):Int:=(l.getD n.toNat default).weight
noncomputable def arrF (l:List Rl) (p:List Prof) (a b:Nat):List Arrow:=if ruledI l (p.getD a default) (p.getD b default) >= 0 then [⟨(a:Nat),(b:Nat),ruledI l (p.getD a default) (p.getD b default),wtOf l (ruledI l (p.getD a default) (p.getD b default))⟩] else []
theorem arrF_mem {l:List Rl} {p:List Prof} {a b:Nat} {x:Arrow} (h:x ∈ arrF l p a b):x.fr = (a:Nat) ∧ x.to = (b:Nat):=by
 unfold arrF at h
 split at h
 ·rw [List.mem_singleton.1 h]; exact ⟨rfl,rfl⟩
 ·cases h
theorem arrF_nodup (l:List Rl) (p:List Prof) (a b:Nat) (R:Arrow -> Arrow -> Prop):(arrF l p a b).Pairwise R:=by
 unfold arrF
 split
 ·exact List.pairwise_singleton _ _
 ·exact List.Pairwise.nil
noncomputable def rwR (l:List Rl) (p:List Prof) (a k:Nat):List Arrow:=(List.range k).flatMap fun b => if a = b then [] else arrF l p a b
noncomputable def relL (l:List Rl) (p:List Prof):List Arrow:=(List.range p.length).flatMap fun a => rwR l p a p.length
noncomputable def rwP (l:List Rl) (p:List Prof) (a k:Nat):List Arrow:=(List.range k).flatMap fun b => if a < b then arrF l p a b ++ arrF l p b a else []
noncomputable def progTo (l:List Rl) (p:List Prof) (a:Nat):List Arrow:=(List.range a).flatMap fun a => rwP l p a p.length
theorem rwR_succ (l:List Rl) (p:List Prof) (a k:Nat):rwR l p a (k + 1) = rwR l p a k ++ if a = k then [] else arrF l p a k:=by
 unfold rwR; rw [List.range_succ,List.flatMap_append]; simp
theorem rwP_succ (l:List Rl) (p:List Prof) (a k:Nat):rwP l p a (k + 1) = rwP l p a k ++ if a < k then arrF l p a k ++ arrF l p k a else []:=by
 unfold rwP; rw [List.range_succ,List.flatMap_append]; simp
theorem rwP_none (l:List Rl) (p:List Prof) (a k:Nat) (h:k <= a + 1):rwP l p a k = []:=by
 unfold rwP
 rw [List.flatMap_eq_nil_iff]
 intro b hb
 rw [if_neg (by have:=List.mem_range.1 hb; omega)]
theorem progTo_succ (l:List Rl) (p:List Prof) (a:Nat):progTo l p (a + 1) = progTo l p a ++ rwP l p a p.length:=by
 unfold progTo; rw [List.range_succ,List.flatMap_append]; simp
theorem mem_rwR {l:List Rl} {p:List Prof} {a k:Nat} {x:Arrow}:x ∈ rwR l p a k <-> ∃ b,b < k ∧ a ≠ b ∧ x ∈ arrF l p a b:=by
 unfold rwR
 rw [List.mem_flatMap]
 constructor
 ·rintro ⟨b,hb,hx⟩
  by_cases e:a = b
  ·rw [if_pos e] at hx; cases hx
  ·rw [if_neg e] at hx; exact ⟨b,List.mem_range.1 hb,e,hx⟩
 ·rintro ⟨b,hb,e,hx⟩
  exact ⟨b,List.mem_range.2 hb,by rw [if_neg e]; exact hx⟩
theorem mem_rwP {l:List Rl} {p:List Prof} {a k:Nat} {x:Arrow}:x ∈ rwP l p a k <-> ∃ b,b < k ∧ a < b ∧ (x ∈ arrF l p a b ∨ x ∈ arrF l p b a):=by
 unfold rwP
 rw [List.mem_flatMap]
 constructor
 ·rintro ⟨b,hb,hx⟩
  by_cases e:a < b
  ·rw [if_pos e] at hx; exact ⟨b,List.mem_range.1 hb,e,List.mem_append.1 hx⟩
  ·rw [if_neg e] at hx; cases hx
 ·rintro ⟨b,hb,e,hx⟩
  exact ⟨b,List.mem_range.2 hb,by rw [if_pos e]; exact List.mem_append.2 hx⟩
theorem relL_sorted (l:List Rl) (p:List Prof):(relL l p).Pairwise fun x y => ltA x y = true:=by
 unfold relL
 refine List.pairwise_flatMap.2 ⟨fun a _ => ?_,?_⟩
 ·unfold rwR
  refine List.pairwise_flatMap.2 ⟨fun b _ => ?_,?_⟩
  ·split
   ·exact List.Pairwise.nil
   ·exact arrF_nodup _ _ _ _ _
  ·refine List.Pairwise.imp (R:=fun a b => a < b) (fun {b1 b2} hlt x hx y hy => ?_) List.pairwise_lt_range
   have hx:x ∈ arrF l p a b1:=by split at hx; (· cases hx); exact hx
   have hy:y ∈ arrF l p a b2:=by split at hy; (· cases hy); exact hy
   obtain ⟨x1,x2⟩:=arrF_mem hx
   obtain ⟨y1,y2⟩:=arrF_mem hy
   exact decide_eq_true (by omega)
 ·refine List.Pairwise.imp (R:=fun a b => a < b) (fun {a1 a2} hlt x hx y hy => ?_) List.pairwise_lt_range
  obtain ⟨b1,_,_,hx⟩:=mem_rwR.1 hx
  obtain ⟨b2,_,_,hy⟩:=mem_rwR.1 hy
  obtain ⟨x1,x2⟩:=arrF_mem hx
  obtain ⟨y1,y2⟩:=arrF_mem hy
  exact decide_eq_true (by omega)
theorem progTo_nodup (l:List Rl) (p:List Prof) (k:Nat):(progTo l p k).Nodup:=by
 unfold progTo
 refine List.pairwise_flatMap.2 ⟨fun a _ => ?_,?_⟩
 ·unfold rwP
  refine List.pairwise_flatMap.2 ⟨fun b _ => ?_,?_⟩
  ·split
   ·next hab =>
    refine List.pairwise_append.2 ⟨arrF_nodup _ _ _ _ _,arrF_nodup _ _ _ _ _,fun x hx y hy e => ?_⟩
    obtain ⟨x1,x2⟩:=arrF_mem hx
    obtain ⟨y1,y2⟩:=arrF_mem hy
    rw [e] at x1
    omega
   ·exact List.Pairwise.nil
  ·refine List.Pairwise.imp (R:=fun a b => a < b) (fun {b1 b2} hlt x hx y hy e => ?_) List.pairwise_lt_range
   by_cases c1:a < b1
   ·by_cases c2:a < b2
    ·rw [if_pos c1] at hx
     rw [if_pos c2] at hy
     rw [e] at hx
     rcases List.mem_append.1 hx with hx | hx <;> rcases List.mem_append.1 hy with hy | hy <;>
     ·obtain ⟨x1,x2⟩:=arrF_mem hx
      obtain ⟨y1,y2⟩:=arrF_mem hy
      omega
    ·rw [if_neg c2] at hy; cases hy
   ·rw [if_neg c1] at hx; cases hx
 ·refine List.Pairwise.imp (R:=fun a b => a < b) (fun {a1 a2} hlt x hx y hy e => ?_) List.pairwise_lt_range
  obtain ⟨b1,_,_,hx⟩:=mem_rwP.1 hx
  obtain ⟨b2,_,_,hy⟩:=mem_rwP.1 hy
  rw [e] at hx
  rcases hx with hx | hx <;> rcases hy with hy | hy <;>
  ·obtain ⟨x1,x2⟩:=arrF_mem hx
   obtain ⟨y1,y2⟩:=arrF_mem hy
   omega
theorem prog_perm (l:List Rl) (p:List Prof):(progTo l p p.length).Perm (relL l p):=by
 have nd:(relL l p).Nodup:=(relL_sorted l p).imp fun h e => by rw [e,ltA_iff] at h; omega
 refine (List.perm_ext_iff_of_nodup (progTo_nodup l p _) nd).2 fun x => ?_
 unfold progTo relL
 simp only [List.mem_flatMap,List.mem_range,mem_rwP,mem_rwR]
 constructor
 ·rintro ⟨a,ha,b,hb,hab,hx | hx⟩
  ·exact ⟨a,ha,b,hb,by omega,hx⟩
  ·exact ⟨b,hb,a,ha,by omega,hx⟩
 ·rintro ⟨a,ha,b,hb,hab,hx⟩
  rcases Nat.lt_or_gt_of_ne hab with h | h
  ·exact ⟨a,ha,b,hb,h,.inl hx⟩
  ·exact ⟨b,hb,a,ha,h,.inr hx⟩
theorem sorted_rel {l:List Rl} {p:List Prof} {L:List Arrow} (hp:L.Perm (progTo l p p.length)) (hs:L.Pairwise fun a b => ltA b a = false):L = relL l p:=by
 refine List.Perm.eq_of_pairwise (le:=fun a b => ltA b a = false) (fun a b ha hb h1 h2 => ?_) hs ((relL_sorted l p).imp fun {a b} h => ?_) (hp.trans (prog_perm l p))
 ·-- two arrows neither of which is before the other one: the same ends
  have ha':=(hp.trans (prog_perm l p)).mem_iff.1 ha
  have hfr:a.fr = b.fr ∧ a.to = b.to:=by
   have h1:¬ (b.fr < a.fr ∨ b.fr = a.fr ∧ b.to < a.to):=of_decide_eq_false h1
   have h2:¬ (a.fr < b.fr ∨ a.fr = b.fr ∧ a.to < b.to):=of_decide_eq_false h2
   omega
  unfold relL at ha' hb
  simp only [List.mem_flatMap,List.mem_range,mem_rwR] at ha' hb
  obtain ⟨a1,_,b1,_,_,hx⟩:=ha'
  obtain ⟨a2,_,b2,_,_,hy⟩:=hb
  obtain ⟨x1,x2⟩:=arrF_mem hx
  obtain ⟨y1,y2⟩:=arrF_mem hy
  have e1:a1 = a2:=by omega
  have e2:b1 = b2:=by omega
  subst e1 e2
  unfold arrF at hx hy
  split at hx
  ·rename_i hc
   rw [if_pos hc] at hy
   rw [List.mem_singleton.1 hx,List.mem_singleton.1 hy]
  ·cases hx
 ·have h:a.fr < b.fr ∨ a.fr = b.fr ∧ a.to < b.to:=ltA_iff.1 h
  exact decide_eq_false (by omega)
end Go.Proofs.YtdpdjcopkehdjaaGreat.Rk
namespace Go.Proofs.YtdpdjcopkehdjaaGreat.Rk
open Go.Eng Go.RowKit
theorem firstI_lt (l:List Rl) (ρ:Int) (T:Rl -> Bool):firstI l ρ T < (l.length:Nat):=by
 unfold firstI
 split
 ·rename_i i hi
  have:=(List.findIdx?_eq_some_iff_getElem.1 hi).1
  omega
 ·omega
theorem ruledI_lt (l:List Rl) (a b:Prof):ruledI l a b < (l.length:Nat):=by
 unfold ruledI
 split
 ·unfold decP decV
  split
  ·rename_i hx
   rw [show ((hx.choose.2.1,hx.choose.2.2):Int × Int).1 = hx.choose.2.1 from rfl,hx.choose_spec.fr]
   exact firstI_lt _ _ _
  ·show (-1:Int) < _; omega
 ·omega
theorem ver_parts (l:List Rl) (a b:Prof):∃ k r q:Int,(if decE l a b = 0 then verV (decP l a b) else .agg (verC 0 0 0).toArray) = .agg (verC k r q).toArray ∧ ((k = 1 ∨ k = 3) <-> ruledI l a b >= 0) ∧ (ruledI l a b >= 0 -> r = ruledI l a b) ∧ ((k = 2 ∨ k = 3) <-> ruledI l b a >= 0) ∧ (ruledI l b a >= 0 -> q = ruledI l b a):=by
 by_cases hd:decE l a b = 0
 ·have e1:ruledI l a b = (decP l a b).1:=if_pos hd
  have e2:ruledI l b a = (decP l a b).2:=(ruled_back l a b).trans (if_pos hd)
  rw [if_pos hd,e1,e2]
  refine ⟨kindV (decP l a b),(decP l a b).1,(decP l a b).2,rfl,?_,fun _ => rfl,?_,fun _ => rfl⟩
  ·unfold kindV
   by_cases h1:(decP l a b).1 >= 0 <;> by_cases h2:(decP l a b).2 >= 0 <;> simp [h1,h2]
  ·unfold kindV
   by_cases h1:(decP l a b).1 >= 0 <;> by_cases h2:(decP l a b).2 >= 0 <;> simp [h1,h2]
 ·have e1:ruledI l a b = -1:=if_neg hd
  have e2:ruledI l b a = -1:=(ruled_back l a b).trans (if_neg hd)
  rw [if_neg hd,e1,e2]
  exact ⟨0,0,0,rfl,by decide,fun h => absurd h (by decide),by decide,fun h => absurd h (by decide)⟩
theorem wtOf_nat {l:List Rl} {n:Nat} (h:n < l.length):wtOf l (n:Nat) = l[n].weight:=by
 unfold wtOf
 rw [Int.toNat_natCast,List.getD_eq_getElem?_getD,List.getElem?_eq_getElem h]; rfl
set_option maxRecDepth 100000 in
set_option maxHeartbeats 8000000 in
theorem decided_spec {w:World} {R P:Option Addr} {l:List Rl} {c:Nat} (h:HRs w R l c) {p:List Prof} {cp:Nat} (hP:HL Prof.cells w P p cp) {a b:Nat} (ha:a < p.length) (hb:b < p.length) (hp:p.length <= 2 ^ 20) :
  CallsV C.P 102 #[.agg #[.slice R l.length c],.slice P p.length cp,.int .i64 (a:Nat),.int .i64 (b:Nat)] w fun v w' => NewL Arrow.cells 60 4 w.heap.size w' v (arrF l p a b ++ arrF l p b a) ∧ Ext w w':=by
 obtain ⟨x,hx⟩:∃ x,x = p[a]:=⟨_,rfl⟩
 obtain ⟨y,hy⟩:∃ y,y = p[b]:=⟨_,rfl⟩
 have gx:p.getD a default = x:=by rw [List.getD_eq_getElem?_getD,List.getElem?_eq_getElem ha,hx]; rfl
 have gy:p.getD b default = y:=by rw [List.getD_eq_getElem?_getD,List.getElem?_eq_getElem hb,hy]; rfl
 obtain ⟨k,r,q,hv,hk1,hr1,hk2,hq1⟩:=ver_parts l x y
 have fa:arrF l p a b = if ruledI l x y >= 0 then [⟨(a:Nat),(b:Nat),ruledI l x y,wtOf l (ruledI l x y)⟩] else []:=by unfold arrF; rw [gx,gy]
 have fb:arrF l p b a = if ruledI l y x >= 0 then [⟨(b:Nat),(a:Nat),ruledI l y x,wtOf l (ruledI l y x)⟩] else []:=by unfold arrF; rw [gx,gy]
 have l1:=ruledI_lt l x y
 have l2:=ruledI_lt l y x
 obtain ⟨F1,hF1⟩:∃ F1,F1 = arrF l p a b:=⟨_,rfl⟩
 obtain ⟨F2,hF2⟩:∃ F2,F2 = arrF l p b a:=⟨_,rfl⟩
 rw [<-hF1] at fa ⊢
 rw [<-hF2] at fb ⊢
 refine callsV_ofS (args:=[_,_,_,_]) Tryz.func102 rfl Tryz.ntmps102 C_ok (Nat.le_of_ble_eq_true rfl) ?_
 refine Snd.go C_ok plans102 (by kernel_rfl) ?_
 intro g4 w1 h1
 have M1:Mem w w1 [(g4,.cells #[.slice R l.length c] 29 (0,0))]:=(Mem.start w).alloc h1
 refine ⟨Snd.join C_ok plans102 (fun g9:Nat => [(2,.int .i64 (a:Nat)),(3,.int .i64 (b:Nat)),(4,.pointer (some ⟨g4,0,none⟩)),(9,.pointer (some ⟨g9,0,none⟩))])
  (fun g9 w' => Mem w w' [(g9,.cells (verC k r q).toArray 64 (0,0)),(g4,.cells #[.slice R l.length c] 29 (0,0))]) (by kernel_rfl) ?_ ?_⟩
 ·obtain ⟨b1,o1,hA1,hc1⟩:=(hP.ext M1.ext).at (k:=7) (fun _ => rfl) (by omega) ha
  obtain ⟨b2,o2,hA2,hc2⟩:=(hP.ext M1.ext).at (k:=7) (fun _ => rfl) (by omega) hb
  rw [<-hx] at hc1
  rw [<-hy] at hc2
  have X:=fun w' (e:Ext w w') => Decide_spec (h.ext e) x y
  rw [hv] at X
  refine ⟨[.slice R l.length c],rfl,M1.rd 0 rfl,?_⟩
  refine ⟨a,b1,o1,rfl,ha,hA1,?_⟩
  refine ⟨x.cells,rfl,hc1,?_⟩
  refine ⟨b,b2,o2,rfl,hb,hA2,?_⟩
  refine ⟨y.cells,rfl,hc2,?_⟩
  refine ⟨?A,?B⟩
  case A =>
   refine (X _ M1.ext).mono ?_
   rintro v w2 ⟨rfl,e2⟩
   refine ⟨e2,?_⟩
   intro g9 w3 h3
   refine ⟨h3.ext,?_⟩
   have M:=(M1.grow e2).alloc h3
   refine ⟨rfl,_,_,M.get 0 rfl,Nat.le_of_ble_eq_true rfl,rfl,?_⟩
   intro w4 h4
   exact ⟨g9,⟨rfl,rfl,rfl,rfl,trivial⟩,M.put 0 rfl h4⟩
  case B =>
   intro g9 w3 h3
   refine ⟨h3.ext,?_⟩
   refine (X _ (M1.ext.trans h3.ext)).mono ?_
   rintro v w2 ⟨rfl,e2⟩
   refine ⟨e2,?_⟩
   have M:=(M1.alloc h3).grow e2
   refine ⟨rfl,_,_,M.get 0 rfl,Nat.le_of_ble_eq_true rfl,rfl,?_⟩
   intro w4 h4
   exact ⟨g9,⟨rfl,rfl,rfl,rfl,trivial⟩,M.put 0 rfl h4⟩
 clear M1 h1
 rintro g9 w3 M
 have hlt9:g9 < w3.heap.size:=M.lt (List.mem_cons_self)
 have hlt4:g4 < w3.heap.size:=M.lt (List.mem_cons_of_mem _ (List.mem_cons_self))
 have hw3:w.heap.size <= w3.heap.size:=M.ext.size
 have keep:∀ {w5 w6:World} {v:Value} {n:Nat} {cs:List Value},Mem w w5 [(g9,.cells (verC k r q).toArray 64 (0,0)),(g4,.cells #[.slice R l.length c] 29 (0,0))] -> w5.ownsRow w3.heap.size 60 4 v n cs -> w5.grownBy w6 v.ownBlock -> Mem w w6 [(g9,.cells (verC k r q).toArray 64 (0,0)),(g4,.cells #[.slice R l.length c] 29 (0,0))]:=by
  intro w5 w6 v n cs MM ho hg
  refine MM.grown hg (fun j hj => Nat.le_trans hw3 (ho.lt j hj).1) (fun pp hpp e => ?_)
  have:=(ho.lt pp.1 e.symm).1
  simp only [List.mem_cons,List.not_mem_nil,or_false] at hpp
  rcases hpp with rfl | rfl <;> simp only at this <;> omega
 refine Snd.go C_ok plans102 (by kernel_rfl) ?_
 refine ⟨Snd.join C_ok plans102 (fun v:Value => [(2,.int .i64 (a:Nat)),(3,.int .i64 (b:Nat)),(4,.pointer (some ⟨g4,0,none⟩)),(9,.pointer (some ⟨g9,0,none⟩)),(11,v)])
  (fun v w' => Mem w w' [(g9,.cells (verC k r q).toArray 64 (0,0)),(g4,.cells #[.slice R l.length c] 29 (0,0))] ∧ NewL Arrow.cells 60 4 w3.heap.size w' v F1 ∧ w3.heap.size <= w'.heap.size) (by kernel_rfl) ?_ ?_⟩
 ·refine ⟨_,M.cell 0 (i:=0) rfl rfl,?_⟩
  refine brE_dec (fun c1 => ?Y1) (fun c1 => ?N1)
  case' Y1 =>
   have hyes:ruledI l x y >= 0:=hk1.1 (.inl c1)
  case' N1 =>
   have c1:¬ k = 1:=c1
   refine ⟨_,M.cell 0 (i:=0) rfl rfl,?_⟩
   refine brE_dec (fun c3 => ?Y3) (fun c3 => ?N3)
   case' N3 =>
    have c3:¬ k = 3:=c3
    have hno:¬ ruledI l x y >= 0:=fun e => (hk1.2 e).elim c1 c3
    refine ⟨.slice none 0 0,⟨rfl,rfl,rfl,rfl,rfl,trivial⟩,M,?_,Nat.le_refl _⟩
    rw [fa,if_neg hno]; exact newL_nil
   case' Y3 =>
    have hyes:ruledI l x y >= 0:=hk1.1 (.inr c3)
  all_goals
   have er:=hr1 hyes
   obtain ⟨n,hn⟩:=Int.eq_ofNat_of_zero_le (show 0 <= r by omega)
   have hnl:n < l.length:=by omega
   have fa2:F1 = [⟨(a:Nat),(b:Nat),(n:Nat),l[n].weight⟩]:=by rw [fa,if_pos hyes,<-er,hn,wtOf_nat hnl]
   obtain ⟨bb,oo,hR,hc8⟩:=(h.ext M.ext).at hnl
   refine ⟨_,M.cell 0 (i:=1) rfl rfl,?_⟩
   refine ⟨_,M.cell 1 rfl rfl,?_⟩
   refine ⟨_,M.cell 0 (i:=1) rfl rfl,?_⟩
   refine ⟨n,bb,oo,hn,hnl,hR,?_⟩
   refine ⟨_,hc8 2 _ rfl,?_⟩
   intro g12 w5 h5
   have M5:=M.grow h5.ext
   have ho:NewL Arrow.cells 60 4 w3.heap.size w5 (.slice none 0 0) ([]:List Arrow):=newL_nil
   refine ⟨rfl,rfl,rfl,w3.heap.size,_,_,(Arrow.mk (a:Nat) (b:Nat) r l[n].weight).cells,ho,h5.ext.size,Nat.le_of_ble_eq_true rfl,rfl,rfl,.inr ⟨g12,0,rfl,Rd.of_block h5.here⟩,rfl,rfl,by simp,by simp [maxLen],?_⟩
   intro v6 w6 ho6 hg6 hpl6
   refine ⟨v6,⟨rfl,rfl,rfl,rfl,rfl,trivial⟩,keep M5 ho hg6,?_,Nat.le_trans h5.ext.size hg6.size⟩
   rw [fa2,<-hn]
   exact ho6
 clear M
 rintro v1 w5 ⟨M,ho1,hsz5⟩
 have hf1:F1.length <= 1:=by rw [fa]; split <;> simp
 refine Snd.join C_ok plans102 (fun v:Value => [(11,v)])
  (fun v w' => Mem w w' [(g9,.cells (verC k r q).toArray 64 (0,0)),(g4,.cells #[.slice R l.length c] 29 (0,0))] ∧ NewL Arrow.cells 60 4 w3.heap.size w' v (F1 ++ F2)) (by kernel_rfl) ?_ ?_
 ·refine ⟨_,M.cell 0 (i:=0) rfl rfl,?_⟩
  refine brE_dec (fun c1 => ?Y1b) (fun c1 => ?N1b)
  case' Y1b =>
   have hyes:ruledI l y x >= 0:=hk2.1 (.inl c1)
  case' N1b =>
   have c1:¬ k = 2:=c1
   refine ⟨_,M.cell 0 (i:=0) rfl rfl,?_⟩
   refine brE_dec (fun c3 => ?Y3b) (fun c3 => ?N3b)
   case' N3b =>
    have c3:¬ k = 3:=c3
    have hno:¬ ruledI l y x >= 0:=fun e => (hk2.2 e).elim c1 c3
    refine ⟨v1,⟨rfl,trivial⟩,M,?_⟩
    rw [fb,if_neg hno,List.append_nil]; exact ho1
   case' Y3b =>
    have hyes:ruledI l y x >= 0:=hk2.1 (.inr c3)
  all_goals
   have er:=hq1 hyes
   obtain ⟨n,hn⟩:=Int.eq_ofNat_of_zero_le (show 0 <= q by omega)
   have hnl:n < l.length:=by omega
   have fb2:F2 = [⟨(b:Nat),(a:Nat),(n:Nat),l[n].weight⟩]:=by rw [fb,if_pos hyes,<-er,hn,wtOf_nat hnl]
   obtain ⟨bb,oo,hR,hc8⟩:=(h.ext M.ext).at hnl
   refine ⟨_,M.cell 0 (i:=2) rfl rfl,?_⟩
   refine ⟨_,M.cell 1 rfl rfl,?_⟩
   refine ⟨_,M.cell 0 (i:=2) rfl rfl,?_⟩
   refine ⟨n,bb,oo,hn,hnl,hR,?_⟩
   refine ⟨_,hc8 2 _ rfl,?_⟩
   intro g12 w6 h6
   have M6:=M.grow h6.ext
   have ho:=ho1.ext h6.ext
   refine ⟨rfl,rfl,rfl,w3.heap.size,_,_,(Arrow.mk (b:Nat) (a:Nat) q l[n].weight).cells,ho,Nat.le_trans hsz5 h6.ext.size,Nat.le_of_ble_eq_true rfl,rfl,rfl,.inr ⟨g12,0,rfl,Rd.of_block h6.here⟩,rfl,rfl,by omega,by simp only [maxLen]; omega,?_⟩
   intro v7 w7 ho7 hg7 hpl7
   refine ⟨v7,⟨rfl,trivial⟩,keep M6 ho hg7,?_⟩
   rw [fb2,<-hn]
   unfold NewL
   rw [List.length_append,List.flatMap_append]
   simpa using ho7
 clear M
 rintro v8 w8 ⟨M,ho8⟩
 refine Snd.fin C_ok (plans:=plans102) (by kernel_rfl) ?_
 exact ⟨ho8.base hw3,M.ext⟩
end Go.Proofs.YtdpdjcopkehdjaaGreat.Rk
namespace Go.Proofs.YtdpdjcopkehdjaaGreat.Rk
open Go.Eng Go.RowKit
theorem arrF_le (l:List Rl) (p:List Prof) (a b:Nat):(arrF l p a b).length <= 1:=by unfold arrF; split <;> simp
theorem rwP_le (l:List Rl) (p:List Prof) (a k:Nat):(rwP l p a k).length <= 2 * k:=by
 induction k with
 | zero => simp [rwP]
 | succ k ih =>
  rw [rwP_succ,List.length_append]
  have h1:=arrF_le l p a k
  have h2:=arrF_le l p k a
  have:(if a < k then arrF l p a k ++ arrF l p k a else []).length <= 2:=by
   split
   ·rw [List.length_append]; omega
   ·simp
  omega
theorem progTo_le (l:List Rl) (p:List Prof) (a:Nat):(progTo l p a).length <= a * (2 * p.length):=by
 induction a with
 | zero => simp [progTo]
 | succ a ih =>
  rw [progTo_succ,List.length_append]
  have:=rwP_le l p a p.length
  rw [Nat.succ_mul]; omega
theorem arrows_one (L:List Arrow):(L.flatMap Arrow.cells).all (·.oneCell') = true:=by
 rw [List.all_eq_true]
 intro v hv
 obtain ⟨x,_,hx⟩:=List.mem_flatMap.1 hv
 simp only [Arrow.cells,List.mem_cons,List.not_mem_nil,or_false] at hx
 rcases hx with rfl | rfl | rfl | rfl <;> rfl
set_option maxRecDepth 100000 in
set_option maxHeartbeats 8000000 in
theorem relate_spec {w:World} {R P:Option Addr} {l:List Rl} {c:Nat} (h:HRs w R l c) {p:List Prof} {cp:Nat} (hP:HL Prof.cells w P p cp) (hp:p.length <= 24) :
  CallsV C.P 47 #[.agg #[.slice R l.length c],.slice P p.length cp] w fun v w' => NewRel w.heap.size w' v (p.length:Nat) (relL l p) ∧ Ext w w':=by
 refine callsV_of C_ok (args:=[_,_]) (plans:=plans47) Tryz.func47 rfl Tryz.ntmps47 (by kernel_rfl) (Nat.le_of_ble_eq_true rfl) ?_
 intro g2 w1 h1
 have M:Mem w w1 [(g2,.cells #[.slice R l.length c] 29 (0,0))]:=(Mem.start w).alloc h1
 intro g4 w2 h2
 have M:Mem w w2 [(g4,.cells #[.int .i64 0,.slice none 0 0] 49 (0,0)),(g2,.cells #[.slice R l.length c] 29 (0,0))]:=M.alloc h2
 intro g5 w3 h3
 have M:=M.alloc h3
 refine ⟨rfl,_,_,M.get 0 rfl,Nat.le_of_ble_eq_true rfl,rfl,?_⟩
 intro w4 h4
 have M:Mem w w4 [(g5,.cells #[.int .i64 (p.length:Nat),.slice none 0 0] 49 (0,0)),(g4,.cells #[.int .i64 0,.slice none 0 0] 49 (0,0)),(g2,.cells #[.slice R l.length c] 29 (0,0))]:=M.put 0 rfl h4
 clear h1 h2 h3 h4
 obtain ⟨B,hB⟩:∃ B,B = w4.heap.size:=⟨_,rfl⟩
 have hwB:w.heap.size <= B:=by rw [hB]; exact M.ext.size
 have b5:g5 < B:=by rw [hB]; exact M.lt List.mem_cons_self
 have b4:g4 < B:=by rw [hB]; exact M.lt (List.mem_cons_of_mem _ List.mem_cons_self)
 have b2:g2 < B:=by rw [hB]; exact M.lt (List.mem_cons_of_mem _ (List.mem_cons_of_mem _ List.mem_cons_self))
 have keep:∀ {w5 w6:World} {v u:Value} {cs:List Value} {n:Nat},Mem w w5 [(g5,.cells #[.int .i64 (p.length:Nat),u] 49 (0,0)),(g4,.cells #[.int .i64 0,.slice none 0 0] 49 (0,0)),(g2,.cells #[.slice R l.length c] 29 (0,0))] -> w5.ownsRow B 60 4 v n cs -> w5.grownBy w6 v.ownBlock →
   Mem w w6 [(g5,.cells #[.int .i64 (p.length:Nat),u] 49 (0,0)),(g4,.cells #[.int .i64 0,.slice none 0 0] 49 (0,0)),(g2,.cells #[.slice R l.length c] 29 (0,0))]:=by
  intro w5 w6 v u cs n MM ho hg
  refine MM.grown hg (fun j hj => Nat.le_trans hwB (ho.lt j hj).1) (fun pp hpp e => ?_)
  have:=(ho.lt pp.1 e.symm).1
  simp only [List.mem_cons,List.not_mem_nil,or_false] at hpp
  rcases hpp with rfl | rfl | rfl <;> simp only at this <;> omega
 refine loopE C_ok (fun (s:Nat × Value) => [(1,.slice P p.length cp),(2,.pointer (some ⟨g2,0,none⟩)),(4,.pointer (some ⟨g4,0,none⟩)),(5,.pointer (some ⟨g5,0,none⟩)),(12,.int .i64 (p.length:Nat)),(13,.int .i64 (s.1:Nat))])
  (fun s w' => s.1 <= p.length ∧ Mem w w' [(g5,.cells #[.int .i64 (p.length:Nat),s.2] 49 (0,0)),(g4,.cells #[.int .i64 0,.slice none 0 0] 49 (0,0)),(g2,.cells #[.slice R l.length c] 29 (0,0))] ∧ NewL Arrow.cells 60 4 B w' s.2 (progTo l p s.1) ∧ B <= w'.heap.size)
  (fun s => p.length - s.1) (0,.slice none 0 0) ⟨rfl,rfl,rfl,rfl,rfl,rfl,trivial⟩ ⟨Nat.zero_le _,M,newL_nil,Nat.le_of_eq hB⟩ ?_
 clear M hB
 rintro ⟨a,v⟩ w5 ⟨ha',M',ho',hs'⟩
 have ha:a <= p.length:=ha'
 have M:Mem w w5 [(g5,.cells #[.int .i64 (p.length:Nat),v] 49 (0,0)),(g4,.cells #[.int .i64 0,.slice none 0 0] 49 (0,0)),(g2,.cells #[.slice R l.length c] 29 (0,0))]:=M'
 have ho:NewL Arrow.cells 60 4 B w5 v (progTo l p a):=ho'
 have hs:B <= w5.heap.size:=hs'
 clear ha' M' ho' hs'
 refine brE_dec (fun hlt => ?_) (fun hge => ?_)
 ·have hlta:a < p.length:=by have:(a:Int) < (p.length:Nat):=hlt; omega
  have next:IntKind.i64.wrap ((a:Int) + 1) = ((a + 1:Nat):Int):=fit ⟨by omega,by omega⟩
  refine ⟨_,next,?_⟩
  refine loopE C_ok (fun (s:Nat × Value) => [(1,.slice P p.length cp),(2,.pointer (some ⟨g2,0,none⟩)),(4,.pointer (some ⟨g4,0,none⟩)),(5,.pointer (some ⟨g5,0,none⟩)),(6,.int .i64 (a:Nat)),(7,.int .i64 (s.1:Nat)),(12,.int .i64 (p.length:Nat)),(13,.int .i64 (a:Nat))])
   (fun s w' => a < s.1 ∧ s.1 <= p.length ∧ Mem w w' [(g5,.cells #[.int .i64 (p.length:Nat),s.2] 49 (0,0)),(g4,.cells #[.int .i64 0,.slice none 0 0] 49 (0,0)),(g2,.cells #[.slice R l.length c] 29 (0,0))] ∧ NewL Arrow.cells 60 4 B w' s.2 (progTo l p a ++ rwP l p a s.1) ∧ B <= w'.heap.size)
   (fun s => p.length - s.1) (a + 1,v) ⟨rfl,rfl,rfl,rfl,rfl,rfl,rfl,rfl,trivial⟩ ⟨Nat.lt_succ_self a,hlta,M,by show NewL _ _ _ _ _ _ (progTo l p a ++ rwP l p a (a + 1)); rw [rwP_none l p a (a + 1) (Nat.le_refl _),List.append_nil]; exact ho,hs⟩ ?_
  clear M ho hs
  rintro ⟨b,u⟩ w6 ⟨hab',hb',M',ho',hs'⟩
  have hab:a < b:=hab'
  have hb:b <= p.length:=hb'
  have M:Mem w w6 [(g5,.cells #[.int .i64 (p.length:Nat),u] 49 (0,0)),(g4,.cells #[.int .i64 0,.slice none 0 0] 49 (0,0)),(g2,.cells #[.slice R l.length c] 29 (0,0))]:=M'
  have ho:NewL Arrow.cells 60 4 B w6 u (progTo l p a ++ rwP l p a b):=ho'
  have hs:B <= w6.heap.size:=hs'
  clear hab' hb' M' ho' hs'
  refine brE_dec (fun hlt2 => ?_) (fun hge2 => ?_)
  ·have hltb:b < p.length:=by have:(b:Int) < (p.length:Nat):=hlt2; omega
   have nextb:IntKind.i64.wrap ((b:Int) + 1) = ((b + 1:Nat):Int):=fit ⟨by omega,by omega⟩
   refine ⟨_,M.cell 0 (i:=1) rfl rfl,?_⟩
   refine ⟨[.slice R l.length c],rfl,M.rd 2 rfl,?_⟩
   refine (decided_spec (h.ext M.ext) (hP.ext M.ext) hlta hltb (by omega)).mono ?_
   rintro v7 w7 ⟨hd,e7⟩
   refine ⟨e7,?_⟩
   have M:=M.grow e7
   have ho:=ho.ext e7
   obtain ⟨A7,c7,rfl,hr7,_⟩:=reads_of_owns hd
   have n1:=arrF_le l p a b
   have n2:=arrF_le l p b a
   have n3:=progTo_le l p a
   have n4:=rwP_le l p a b
   have n5:a * (2 * p.length) <= 24 * 48:=Nat.mul_le_mul (by omega) (by omega)
   obtain ⟨L7,hL7⟩:∃ L7,L7 = arrF l p a b ++ arrF l p b a:=⟨_,rfl⟩
   have hl7:L7.length <= 2:=by rw [hL7,List.length_append]; omega
   have hstep:progTo l p a ++ rwP l p a (b + 1) = (progTo l p a ++ rwP l p a b) ++ L7:=by rw [rwP_succ,if_pos hab,hL7,List.append_assoc]
   rw [<-hL7] at hr7 ⊢
   have hsome:(A7.isSome || L7.length.beq 0) = true:=by
    rcases hr7 with h0 | ⟨b',o',hA7,_⟩
    ·have h1:L7.length = 0:=by
      have:=flat_length (enc:=Arrow.cells) (k:=4) (fun _ => rfl) L7
      rw [h0] at this
      have:L7.length * 4 = 0:=this.symm
      omega
     rw [h1]; cases A7 <;> rfl
    ·rw [hA7]; rfl
   have hpl:(progTo l p a ++ rwP l p a b).length <= 24 * 48 + 48:=by rw [List.length_append]; omega
   obtain ⟨D,hD⟩:∃ D,D = progTo l p a ++ rwP l p a b:=⟨_,rfl⟩
   rw [<-hD] at hstep hpl ho
   refine ⟨rfl,rfl,rfl,B,D.length,D.flatMap Arrow.cells,L7.flatMap Arrow.cells,ho,Nat.le_trans hs e7.size,Nat.le_of_ble_eq_true rfl,rfl,flat_length (enc:=Arrow.cells) (k:=4) (fun _ => rfl) L7,hr7,hsome,arrows_one L7,by omega,by simp only [maxLen]; omega,?_⟩
   intro v8 w8 ho8 hg8 hpl8
   have M:=keep M ho hg8
   obtain ⟨A8,n8,c8,e8⟩:∃ A8 n8 c8,v8 = .slice A8 n8 c8:=by
    obtain ⟨A8,c8,e,_,_⟩:=reads_of_owns ho8
    exact ⟨_,_,_,e⟩
   subst e8
   refine ⟨rfl,_,_,M.get 0 rfl,Nat.le_of_ble_eq_true rfl,rfl,?_⟩
   intro w9 h9
   have M9:=M.put 0 rfl h9
   refine ⟨_,nextb,?_⟩
   have ho9:NewL Arrow.cells 60 4 B w8 (.slice A8 n8 c8) (D ++ L7):=by
    unfold NewL
    rw [List.length_append,List.flatMap_append]
    exact ho8
   refine ⟨(b + 1,_),⟨rfl,rfl,rfl,rfl,rfl,rfl,rfl,rfl,trivial⟩,⟨by show a < b + 1; omega,hltb,M9,?_,?_⟩,by show p.length - (b + 1) < p.length - b; omega⟩
   ·show NewL _ _ _ _ _ _ (progTo l p a ++ rwP l p a (b + 1))
    rw [hstep]
    exact ownsRow_put ho9 h9 (fun e => by have:=(ho9.lt g5 e).1; omega)
   ·show B <= w9.heap.size
    rw [h9.size]; exact Nat.le_trans (Nat.le_trans hs e7.size) hg8.size
  ·have hbe:b = p.length:=by have:¬ (b:Int) < (p.length:Nat):=hge2; omega
   refine ⟨_,next,?_⟩
   refine ⟨(a + 1,u),⟨rfl,rfl,rfl,rfl,rfl,rfl,trivial⟩,⟨hlta,M,?_,hs⟩,by show p.length - (a + 1) < p.length - a; omega⟩
   show NewL _ _ _ _ _ _ (progTo l p (a + 1))
   rw [progTo_succ,<-hbe]
   rw [hbe] at ho ⊢
   exact ho
 ·have hae:a = p.length:=by have:¬ (a:Int) < (p.length:Nat):=hge; omega
  rw [hae] at ho
  refine ⟨_,M.cell 0 (i:=1) rfl rfl,?_⟩
  have n3:=progTo_le l p p.length
  have n5:p.length * (2 * p.length) <= 24 * 48:=Nat.mul_le_mul hp (by omega)
  refine (SortArrows_spec (l:=progTo l p p.length) ho (by omega)).mono ?_
  rintro r w6 ⟨rfl,L,hLp,hLs,ho6,hg6,hon6⟩
  have hL:=sorted_rel hLp hLs
  have M6:=keep M ho hg6
  rw [hL] at ho6
  obtain ⟨A6,c6,rfl,_,_⟩:=reads_of_owns ho6
  refine ⟨[.int .i64 (p.length:Nat),_],rfl,M6.rd 0 rfl,?_⟩
  refine ⟨rfl,_,_,M6.get 1 rfl,Nat.le_of_ble_eq_true rfl,rfl,?_⟩
  intro w7 h7
  have M7:=M6.put 1 rfl h7
  refine ⟨[.int .i64 (p.length:Nat),_],rfl,M7.rd 1 rfl,?_⟩
  refine ⟨⟨A6,c6,rfl,?_⟩,M7.ext⟩
  exact ownsRow_base (ownsRow_put ho6 h7 (fun e => by have:=(ho6.lt g4 e).1; omega)) hwB
end Go.Proofs.YtdpdjcopkehdjaaGreat.Rk
namespace Go.Eng
open Go.RowKit
theorem splice_mid (a b c d:List Value) (h:d.length = b.length):splice (a ++ (b ++ c)) a.length d = a ++ (d ++ c):=by
 unfold splice
 rw [List.take_append_of_le_length (Nat.le_refl _),List.take_length,List.append_assoc]
 congr 2
 rw [List.drop_append,List.drop_eq_nil_of_le (by omega),List.nil_append,h,Nat.add_sub_cancel_left,List.drop_append,List.drop_length,List.nil_append,Nat.sub_self,List.drop_zero]
theorem flat_set {α:Type} {enc:α -> List Value} {k:Nat} (hk:∀ x,(enc x).length = k) {l:List α} {i:Nat} (hi:i < l.length) (x:α):splice (l.flatMap enc) (i * k) (enc x) = (l.set i x).flatMap enc:=by
 have e1:l.flatMap enc = (l.take i).flatMap enc ++ (enc l[i] ++ (l.drop (i + 1)).flatMap enc):=by
  conv => lhs; rw [<-List.take_append_drop i l,List.drop_eq_getElem_cons hi]
  rw [List.flatMap_append,List.flatMap_cons]
 have e2:(l.set i x).flatMap enc = (l.take i).flatMap enc ++ (enc x ++ (l.drop (i + 1)).flatMap enc):=by
  rw [List.set_eq_take_append_cons_drop,if_pos hi,List.flatMap_append,List.flatMap_cons]
 have hl:((l.take i).flatMap enc).length = i * k:=by rw [flat_length hk,List.length_take,Nat.min_eq_left (Nat.le_of_lt hi)]
 rw [e1,e2,<-hl]
 exact splice_mid _ _ _ _ (by rw [hk,hk])
theorem flat_take {α:Type} {enc:α -> List Value} {k:Nat} (hk:∀ x,(enc x).length = k) {l:List α} {i:Nat} (hi:i <= l.length):(l.flatMap enc).take (i * k) = (l.take i).flatMap enc:=by
 have e:l.flatMap enc = (l.take i).flatMap enc ++ (l.drop i).flatMap enc:=by rw [<-List.flatMap_append,List.take_append_drop]
 have hl:((l.take i).flatMap enc).length = i * k:=by rw [flat_length hk,List.length_take,Nat.min_eq_left hi]
 rw [e,List.take_append_of_le_length (by omega),<-hl,List.take_length]
theorem splice_take_at {cs vs:List Value} {i:Nat} (h:i <= cs.length):(splice cs i vs).take i = cs.take i:=by
 unfold splice
 rw [List.append_assoc,List.take_append_of_le_length (by simp; omega),List.take_take,Nat.min_self]
theorem keep_at {α:Type} {p:α -> Bool} {l:List α} {j:Nat} (hj:j < l.length):(l.take (j + 1)).filter (fun x => !p x) = (l.take j).filter (fun x => !p x) ++ if p l[j] = true then [] else [l[j]]:=by
 rw [List.take_succ_eq_append_getElem hj,List.filter_append,List.filter_cons,List.filter_nil]
 cases p l[j] <;> rfl
theorem keep_first {α:Type} {p:α -> Bool} {l:List α} {i:Nat} (hi:i < l.length) (hp:p l[i] = true) (h:∀ j (hj:j < l.length),j < i -> p l[j] = false):(l.take (i + 1)).filter (fun x => !p x) = l.take i:=by
 rw [keep_at hi,if_pos hp,List.append_nil]
 refine List.filter_eq_self.2 fun x hx => ?_
 obtain ⟨j,hj,rfl⟩:=List.getElem_of_mem hx
 rw [List.length_take] at hj
 rw [List.getElem_take,h j (by omega) (by omega)]
 rfl
end Go.Eng
namespace Go.Proofs.YtdpdjcopkehdjaaGreat
open Go.Eng Go.RowKit
theorem IndexFuncF_spec {w:World} {A:Option Addr} {l:List Fact} {c gd:Nat} {cb:Array Value} {p:Fact -> Bool} (hr:Reads w A (fcells l)) (hl:l.length <= 2 ^ 20) (hgd:C.can gd = true)
  (hdel:∀ (x:Fact) (w':World),Ext w w' -> CallsV C.P gd (#[] ++ [x.val].toArray ++ cb) w' fun v w'' => v = .bool (p x) ∧ Ext w' w'') :
  CallsV C.P 204 #[.slice A l.length c,.func (.func gd) #[] cb] w fun v w' => ((v = .int .i64 (-1) ∧ ∀ x ∈ l,p x = false) ∨ ∃ i:Nat,v = .int .i64 (i:Nat) ∧ ∃ h:i < l.length,p l[i] = true ∧ ∀ j (hj:j < l.length),j < i -> p l[j] = false) ∧ Ext w w':=by
 refine callsV_of C_ok (args:=[_,_]) (plans:=[]) Tryz.func204 rfl Tryz.ntmps204 (by kernel_rfl) (Nat.le_of_ble_eq_true rfl) ?_
 refine loopE C_ok (fun (i:Nat) => [(0,.slice A l.length c),(1,.func (.func gd) #[] cb),(7,.int .i64 l.length),(8,.int .i64 i)])
  (fun i w' => Ext w w' ∧ i <= l.length ∧ ∀ j (hj:j < l.length),j < i -> p l[j] = false) (fun i => l.length - i) 0 ⟨rfl,rfl,rfl,rfl,trivial⟩
  ⟨Ext.refl _,Nat.zero_le _,fun j _ hj => absurd hj (Nat.not_lt_zero _)⟩ ?_
 rintro i w1 ⟨e1,hi,hall⟩
 refine brE_dec (fun hlt => ?_) (fun hge => ?_)
 ·have hlt:i < l.length:=by have:(i:Int) < (l.length:Nat):=hlt; omega
  obtain ⟨b,o,hA,hc⟩:=Reads.fact (hr.ext e1) hlt
  refine ⟨i,b,o,rfl,hlt,hA,?_⟩
  refine ⟨l[i].cells,rfl,hc,?_⟩
  refine brE_true hgd ?_
  refine (hdel l[i] w1 e1).mono ?_
  rintro v w2 ⟨rfl,e2⟩
  refine brE_mk (fun h2 => ?_) (fun h2 => ?_)
  ·exact ⟨.inr ⟨i,rfl,hlt,h2,hall⟩,e1.trans e2⟩
  ·refine ⟨((i + 1:Nat):Int),fit ⟨by omega,by omega⟩,?_⟩
   refine ⟨i + 1,⟨rfl,rfl,rfl,rfl,trivial⟩,⟨e1.trans e2,hlt,fun j hj hji => ?_⟩,by omega⟩
   rcases Nat.lt_or_ge j i with h | h
   ·exact hall j hj h
   ·obtain rfl:j = i:=by omega
    exact h2
 ·have:i = l.length:=by have:¬ (i:Int) < (l.length:Nat):=hge; omega
  subst this
  refine ⟨.inl ⟨rfl,fun x hx => ?_⟩,e1⟩
  obtain ⟨j,hj,rfl⟩:=List.getElem_of_mem hx
  exact hall j hj hj
set_option maxRecDepth 100000 in
theorem DeleteFuncF_spec {B:Nat} {w:World} {v:Value} {l:List Fact} {gd:Nat} {cb:Array Value} {p:Fact -> Bool} (ho:NewF B w v l) (hB:B <= w.heap.size) (hl:l.length <= 2 ^ 20) (hgd:C.can gd = true)
  (hdel:∀ (x:Fact) (w':World),Below B w w' -> CallsV C.P gd (#[] ++ [x.val].toArray ++ cb) w' fun v w'' => v = .bool (p x) ∧ Ext w' w'') :
  CallsV C.P 136 #[v,.func (.func gd) #[] cb] w fun v' w' => NewF B w' v' (l.filter fun x => !p x) ∧ Below B w w':=by
 obtain ⟨A,cap,rfl,hR,hlc⟩:=ho.slice
 refine callsV_of C_ok (args:=[_,_]) (plans:=[]) Tryz.func136 rfl Tryz.ntmps136 (by kernel_rfl) (Nat.le_of_ble_eq_true rfl) ?_
 refine (IndexFuncF_spec hR hl hgd fun x w' e => hdel x w' (e.mono hB)).mono ?_
 rintro v w1 ⟨hi | ⟨i0,rfl,hi0,hsm,hfirst⟩,e1⟩
 ·obtain ⟨rfl,hall⟩:=hi
  have e:(l.filter fun x => !p x) = l:=List.filter_eq_self.2 fun x hx => by rw [hall x hx]; rfl
  rw [e]
  exact ⟨ho.ext e1,e1.mono hB⟩
 refine ⟨((i0 + 1:Nat):Int),fit ⟨by omega,by omega⟩,?_⟩
 have hA:∃ g,A = some ⟨g,0,none⟩:=by
  obtain ⟨_,⟨hv,h0⟩ | ⟨g,cap',cur,hv,_⟩⟩:=ho
  ·omega
  ·simp at hv; exact ⟨g,hv.1⟩
 obtain ⟨g,rfl⟩:=hA
 have kp0:=keep_first hi0 hsm hfirst
 have ho1:w1.ownsRow B 55 9 (.slice (some ⟨g,0,none⟩) l.length cap) l.length (fcells l):=ho.ext e1
 refine loopE C_ok (fun (s:Nat × Nat × List Fact) => [(0,.slice (some ⟨g,0,none⟩) l.length cap),(1,.func (.func gd) #[] cb),(5,.int .i64 s.2.1),(6,.int .i64 s.1)])
  (fun s w' => s.2.1 = ((l.take s.1).filter fun x => !p x).length ∧ s.2.1 < s.1 ∧ s.1 <= l.length ∧ s.2.2.length = l.length ∧ w'.ownsRow B 55 9 (.slice (some ⟨g,0,none⟩) l.length cap) l.length (fcells s.2.2) ∧ s.2.2.take s.2.1 = ((l.take s.1).filter fun x => !p x) ∧ (∀ k,s.1 <= k -> s.2.2[k]? = l[k]?) ∧ Below B w w')
  (fun s => l.length - s.1) (i0 + 1,i0,l) ⟨rfl,rfl,rfl,rfl,trivial⟩
  ⟨by show i0 = _; rw [kp0,List.length_take]; omega,Nat.lt_succ_self _,hi0,rfl,ho1,kp0.symm,fun _ _ => rfl,e1.mono hB⟩ ?_
 rintro ⟨j,i,R⟩ w2 ⟨hi',hij',hj',hRl',ho2',htake',hrest',b2⟩
 have hi:i = ((l.take j).filter fun x => !p x).length:=hi'
 have hij:i < j:=hij'
 have hj:j <= l.length:=hj'
 have hRl:R.length = l.length:=hRl'
 have ho2:w2.ownsRow B 55 9 (.slice (some ⟨g,0,none⟩) l.length cap) l.length (fcells R):=ho2'
 have htake:R.take i = ((l.take j).filter fun x => !p x):=htake'
 have hrest:∀ k,j <= k -> R[k]? = l[k]?:=hrest'
 clear hRl' hi' hij' hj' ho2' hrest' htake'
 refine brE_dec (fun hlt => ?_) (fun hge => ?_)
 ·have hlt:j < l.length:=by have:(j:Int) < (l.length:Nat):=hlt; omega
  have next:IntKind.i64.wrap ((j:Int) + 1) = ((j + 1:Nat):Int):=fit ⟨by omega,by omega⟩
  have hRj:R[j]'(by omega) = l[j]:=by
   have:=hrest j (Nat.le_refl _)
   rw [List.getElem?_eq_getElem hlt,List.getElem?_eq_getElem (by omega)] at this
   exact Option.some.inj this
  have hreads:Reads w2 (some ⟨g,0,none⟩) (fcells R):=by
   obtain ⟨A',c',e,h,_⟩:=reads_of_owns ho2
   cases e; exact h
  obtain ⟨b1,o1,hA1,hc1⟩:=Reads.fact hreads (i:=j) (by omega)
  cases hA1
  rw [hRj] at hc1
  refine ⟨j,g,0,rfl,hlt,rfl,?_⟩
  refine ⟨l[j].cells,rfl,hc1,?_⟩
  intro g7 w3 h3
  refine ⟨rfl,_,_,h3.here,Nat.le_of_ble_eq_true rfl,rfl,?_⟩
  intro w4 h4
  have h4:Put w3 g7 (.cells l[j].cells.toArray 55 (0,0)) w4:=h4
  have e24:Ext w2 w4:=h4.ext_of h3.ext (by rw [h3.new]; exact Nat.le_refl _)
  have hBw2:B <= w2.heap.size:=Nat.le_trans hB b2.size
  have b4:Below B w w4:=b2.trans (e24.mono hBw2)
  refine ⟨l[j].cells,rfl,Rd.of_block h4.here,?_⟩
  refine brE_true hgd ?_
  refine (hdel l[j] w4 b4).mono ?_
  rintro v w5 ⟨rfl,e5⟩
  have e25:=e24.trans e5
  have b5:Below B w w5:=b2.trans (e25.mono hBw2)
  have ho5:=ownsRow_ext ho2 e25
  have hk:=keep_at (p:=p) hlt
  refine brE_mk (fun h2 => ?_) (fun h2 => ?_)
  ·have h2:p l[j] = false:=by simpa using h2
   rw [h2,if_neg (by decide)] at hk
   obtain ⟨cur,hg,hgB,hcl,hccap,hncap,hdl,hct,hput⟩:=ownsRow_open ho5
   refine ⟨l[j].cells,rfl,Rd.of_block (e5.heap h4.here),?_⟩
   refine ⟨i,g,0,rfl,(by omega:i < l.length),rfl,?_⟩
   refine ⟨rfl,_,_,hg,by show 0 + i * 9 + 9 <= cur.length; omega,rfl,?_⟩
   intro w6 h6
   have h6:Put w5 g (.cells (splice cur (0 + i * 9) l[j].cells).toArray 55 (0,0)) w6:=h6
   have ho6:=hput (0 + i * 9) l[j].cells w6 (by show 0 + i * 9 + 9 <= _; omega) h6
   have e0:0 + i * 9 = i * 9:=by omega
   rw [e0] at ho6
   have hset:splice (fcells R) (i * 9) l[j].cells = fcells (R.set i l[j]):=flat_set Fact.len (by omega) _
   rw [hset] at ho6
   have nexti:IntKind.i64.wrap ((i:Int) + 1) = ((i + 1:Nat):Int):=fit ⟨by omega,by omega⟩
   refine ⟨_,nexti,?_⟩
   refine ⟨_,next,?_⟩
   refine ⟨(j + 1,i + 1,R.set i l[j]),⟨rfl,rfl,rfl,rfl,trivial⟩,⟨?_,by show i + 1 < j + 1; omega,hlt,by show (R.set i l[j]).length = _; rw [List.length_set,hRl],ho6,?_,?_,below_put b5 h6 hgB⟩,by show l.length - (j + 1) < l.length - j; omega⟩
   ·show i + 1 = ((l.take (j + 1)).filter fun x => !p x).length
    rw [hk,List.length_append,<-hi]; rfl
   ·show (R.set i l[j]).take (i + 1) = ((l.take (j + 1)).filter fun x => !p x)
    have hil:i < (R.set i l[j]).length:=by rw [List.length_set]; omega
    rw [hk,List.take_succ_eq_append_getElem hil,List.take_set_of_le (Nat.le_refl _),htake]
    congr 1
    simp
   ·intro k hk1
    show (R.set i l[j])[k]? = l[k]?
    have hk1:j + 1 <= k:=hk1
    rw [List.getElem?_set_ne (by omega)]
    exact hrest k (by omega)
  ·have h2:p l[j] = true:=by simpa using h2
   rw [h2,if_pos rfl,List.append_nil] at hk
   refine ⟨_,next,?_⟩
   exact ⟨(j + 1,i,R),⟨rfl,rfl,rfl,rfl,trivial⟩,⟨by show i = ((l.take (j + 1)).filter fun x => !p x).length; rw [hk]; exact hi,by show i < j + 1; omega,hlt,hRl,ho5,by show R.take i = ((l.take (j + 1)).filter fun x => !p x); rw [hk]; exact htake,fun k hk1 => hrest k (by have:j + 1 <= k:=hk1; omega),b5⟩,by show l.length - (j + 1) < l.length - j; omega⟩
 ·have:j = l.length:=by have:¬ (j:Int) < (l.length:Nat):=hge; omega
  subst this
  rw [List.take_length] at hi htake
  obtain ⟨cur,hg,hgB,hcl,hccap,hncap,hdl,hct,hput⟩:=ownsRow_open ho2
  refine ⟨i,l.length,rfl,rfl,by omega,by omega,?_⟩
  have hA:(if cap = i then (some (⟨g,0,none⟩:Addr)) else (some (⟨g,0,none⟩:Addr)).map (·.add (i * 9))) = some ⟨g,0 + i * 9,none⟩:=by
   rw [if_neg (by omega)]
   simp [add_spot]
  refine clearRow (esz:=9) C_ok rfl rfl rfl rfl rfl rfl rfl (by decide) hA (by omega) hg (by omega) ?_
  intro zs w3 hzs h3
  have ho3:=hput (0 + i * 9) zs w3 (by rw [hzs]; omega) h3
  refine ⟨0,i,rfl,rfl,Nat.zero_le _,by omega,?_⟩
  have e:(if cap = 0 then (some ⟨g,0,none⟩:Option Addr) else (some (⟨g,0,none⟩:Addr)).map (·.add (0 * 9))) = some ⟨g,0,none⟩:=by
   split <;> rfl
  have hcut:=ownsRow_cut ho3 (k:=i) (by omega)
  have e0:0 + i * 9 = i * 9:=by omega
  have hft:(fcells R).take (i * 9) = fcells (R.take i):=flat_take Fact.len (by omega)
  rw [e0,splice_take_at (by rw [fcells_length]; omega),hft,htake] at hcut
  refine ⟨?_,below_put b2 h3 hgB⟩
  show w3.ownsRow B 55 9 (.slice (if cap = 0 then (some ⟨g,0,none⟩:Option Addr) else (some (⟨g,0,none⟩:Addr)).map (·.add (0 * 9))) i cap) (l.filter fun x => !p x).length _
  rw [e,<-hi]
  exact hcut
end Go.Proofs.YtdpdjcopkehdjaaGreat
namespace Go.Proofs.YtdpdjcopkehdjaaGreat
open Go.Eng Go.RowKit
theorem ownsRow_grown {w w':World} {base e size n:Nat} {v:Value} {xs:List Value} {row:Option Nat} (h:w.ownsRow base e size v n xs) (hg:w.grownBy w' row) (hne:v.ownBlock ≠ row):w'.ownsRow base e size v n xs:=by
 obtain ⟨hl,hv | ⟨g',cap,cur,hv,hb,hg',h1⟩⟩:=h
 ·exact ⟨hl,.inl hv⟩
 ·refine ⟨hl,.inr ⟨g',cap,cur,hv,hb,?_,h1⟩⟩
  rw [hg.block g' (lt_of_heap hg') (fun e => hne (by rw [hv,<-e]; rfl))]
  exact hg'
theorem rev_get {l:List Fact} {k:Nat} (hk:k < l.length):l.reverse[k]? = l[l.length - 1 - k]?:=by
 rw [List.getElem?_reverse hk]
set_option maxRecDepth 100000 in
theorem ReverseF_spec {B:Nat} {w:World} {v:Value} {l:List Fact} (ho:NewF B w v l) (hl:l.length <= 2 ^ 20) :
  CallsV C.P 207 #[v] w fun v' w' => v' = .tuple #[] ∧ NewF B w' v l.reverse ∧ Below B w w':=by
 obtain ⟨A,cap,rfl,hR,hlc⟩:=ho.slice
 refine callsV_of C_ok (args:=[_]) (plans:=plans207) Tryz.func207 rfl Tryz.ntmps207 (by kernel_rfl) (Nat.le_of_ble_eq_true rfl) ?_
 refine ⟨(l.length:Int) - 1,fit ⟨by omega,by omega⟩,?_⟩
 refine loopE C_ok (fun (s:Nat × List Fact) => [(0,.slice A l.length cap),(2,.int .i64 s.1),(3,.int .i64 ((l.length:Int) - 1 - s.1))])
  (fun s w' => 2 * s.1 <= l.length ∧ s.2.length = l.length ∧ w'.ownsRow B 55 9 (.slice A l.length cap) l.length (fcells s.2) ∧ (∀ k,k < s.1 -> s.2[k]? = l.reverse[k]?) ∧ (∀ k,l.length - s.1 <= k -> s.2[k]? = l.reverse[k]?) ∧ (∀ k,s.1 <= k -> k < l.length - s.1 -> s.2[k]? = l[k]?) ∧ Below B w w')
  (fun s => l.length - s.1) (0,l) ⟨rfl,rfl,congrArg (fun z:Int => some (Value.int .i64 z)) (by omega:(l.length:Int) - 1 = (l.length:Int) - 1 - ((0:Nat):Int)),trivial⟩ ⟨Nat.zero_le _,rfl,ho,fun k h => absurd h (Nat.not_lt_zero _),fun k h => by rw [List.getElem?_eq_none (by simpa using h),List.getElem?_eq_none (by simpa using h)],fun _ _ _ => rfl,Below.refl _ _⟩ ?_
 rintro ⟨i,R⟩ w1 ⟨hi2',hRl',ho1',hlo',hhi',hmid',b1⟩
 have hi2:2 * i <= l.length:=hi2'
 have hRl:R.length = l.length:=hRl'
 have ho1:w1.ownsRow B 55 9 (.slice A l.length cap) l.length (fcells R):=ho1'
 have hlo:∀ k,k < i -> R[k]? = l.reverse[k]?:=hlo'
 have hhi:∀ k,l.length - i <= k -> R[k]? = l.reverse[k]?:=hhi'
 have hmid:∀ k,i <= k -> k < l.length - i -> R[k]? = l[k]?:=hmid'
 clear hRl' hhi' hi2' hlo' hmid' ho1'
 refine brE_dec (fun hlt => ?_) (fun hge => ?_)
 ·have hlt:(i:Int) < (l.length:Int) - 1 - i:=hlt
  obtain ⟨j,hj⟩:∃ j:Nat,j = l.length - 1 - i:=⟨_,rfl⟩
  have hij:i < j:=by omega
  have hjl:j < l.length:=by omega
  have hA:∃ g,A = some ⟨g,0,none⟩:=by
   obtain ⟨_,⟨hv,h0⟩ | ⟨g,cap',cur,hv,_⟩⟩:=ho
   ·omega
   ·simp at hv; exact ⟨g,hv.1⟩
  obtain ⟨g,rfl⟩:=hA
  have hreads:Reads w1 (some ⟨g,0,none⟩) (fcells R):=by
   obtain ⟨A',c',e,h,_⟩:=reads_of_owns ho1
   cases e; exact h
  have hRi:R[i]'(by omega) = l[i]'(by omega):=by
   have:=hmid i (Nat.le_refl _) (by omega)
   rw [List.getElem?_eq_getElem (by omega),List.getElem?_eq_getElem (by omega)] at this
   exact Option.some.inj this
  have hRj:R[j]'(by omega) = l[j]'hjl:=by
   have:=hmid j (by omega) (by omega)
   rw [List.getElem?_eq_getElem (by omega),List.getElem?_eq_getElem (by omega)] at this
   exact Option.some.inj this
  obtain ⟨b2,o2,hA2,hc2⟩:=Reads.fact hreads (i:=j) (by omega)
  obtain ⟨b3,o3,hA3,hc3⟩:=Reads.fact hreads (i:=i) (by omega)
  cases hA2
  cases hA3
  rw [hRj] at hc2
  rw [hRi] at hc3
  obtain ⟨cur,hg,hgB,hcl,hccap,hncap,hdl,hct,hput⟩:=ownsRow_open ho1
  refine ⟨j,g,0,by omega,hjl,rfl,?_⟩
  refine ⟨l[j].cells,rfl,hc2,?_⟩
  refine ⟨i,g,0,rfl,(by omega:i < l.length),rfl,?_⟩
  refine ⟨l[i].cells,rfl,hc3,?_⟩
  refine ⟨i,g,0,rfl,(by omega:i < l.length),rfl,?_⟩
  refine ⟨rfl,_,_,hg,by show 0 + i * 9 + 9 <= cur.length; omega,rfl,?_⟩
  intro w4 h4
  have h4:Put w1 g (.cells (splice cur (0 + i * 9) l[j].cells).toArray 55 (0,0)) w4:=h4
  have ho4:=hput (0 + i * 9) l[j].cells w4 (by show 0 + i * 9 + 9 <= _; omega) h4
  have e0:0 + i * 9 = i * 9:=by omega
  have hset:splice (fcells R) (i * 9) l[j].cells = fcells (R.set i l[j]):=flat_set Fact.len (by omega) _
  rw [e0,hset] at ho4
  obtain ⟨cur4,hg4,hgB4,hcl4,hccap4,hncap4,hdl4,hct4,hput4⟩:=ownsRow_open ho4
  refine ⟨j,g,0,by omega,hjl,rfl,?_⟩
  refine ⟨rfl,_,_,hg4,by show 0 + j * 9 + 9 <= cur4.length; omega,rfl,?_⟩
  intro w5 h5
  have h5:Put w4 g (.cells (splice cur4 (0 + j * 9) l[i].cells).toArray 55 (0,0)) w5:=h5
  have ho5:=hput4 (0 + j * 9) l[i].cells w5 (by show 0 + j * 9 + 9 <= _; omega) h5
  have e1:0 + j * 9 = j * 9:=by omega
  have hset2:splice (fcells (R.set i l[j])) (j * 9) l[i].cells = fcells ((R.set i l[j]).set j l[i]):=flat_set Fact.len (by rw [List.length_set]; omega) _
  rw [e1,hset2] at ho5
  refine ⟨((i + 1:Nat):Int),fit ⟨by omega,by omega⟩,?_⟩
  refine ⟨(l.length:Int) - 1 - ((i + 1:Nat):Int),by rw [fit ⟨by omega,by omega⟩]; omega,?_⟩
  have get:∀ k,((R.set i l[j]).set j l[i])[k]? = if k = j then some l[i] else if k = i then some l[j] else R[k]?:=by
   intro k
   rw [List.getElem?_set,List.length_set]
   by_cases h1:j = k
   ·subst h1; rw [if_pos rfl,if_pos rfl,if_pos (by omega)]
   ·rw [if_neg h1,if_neg (fun e => h1 e.symm),List.getElem?_set]
    by_cases h2:i = k
    ·subst h2; rw [if_pos rfl,if_pos rfl,if_pos (by omega)]
    ·rw [if_neg h2,if_neg (fun e => h2 e.symm)]
  refine ⟨(i + 1,(R.set i l[j]).set j l[i]),⟨rfl,rfl,rfl,trivial⟩,⟨by show 2 * (i + 1) <= l.length; omega,by show ((R.set i l[j]).set j l[i]).length = l.length; rw [List.length_set,List.length_set,hRl],ho5,?_,?_,?_,below_put (below_put b1 h4 hgB) h5 hgB⟩,by show l.length - (i + 1) < l.length - i; omega⟩
  ·intro k hk
   have hk:k < i + 1:=hk
   show ((R.set i l[j]).set j l[i])[k]? = _
   rw [get,if_neg (by omega)]
   by_cases hki:k = i
   ·subst hki
    rw [if_pos rfl,rev_get (by omega),<-hj,List.getElem?_eq_getElem hjl]
   ·rw [if_neg hki]; exact hlo k (by omega)
  ·intro k hk
   have hk:l.length - (i + 1) <= k:=hk
   show ((R.set i l[j]).set j l[i])[k]? = _
   rw [get]
   by_cases hkj:k = j
   ·subst hkj
    rw [if_pos rfl,rev_get (by omega),show l.length - 1 - k = i by omega,List.getElem?_eq_getElem (by omega)]
   ·rw [if_neg hkj,if_neg (by omega)]; exact hhi k (by omega)
  ·intro k hk1 hk2
   have hk1:i + 1 <= k:=hk1
   have hk2:k < l.length - (i + 1):=hk2
   show ((R.set i l[j]).set j l[i])[k]? = _
   rw [get,if_neg (by omega),if_neg (by omega)]
   exact hmid k (by omega) (by omega)
 ·have hge:¬ (i:Int) < (l.length:Int) - 1 - i:=hge
  have:R = l.reverse:=by
   apply List.ext_getElem?
   intro k
   by_cases h1:k < i
   ·exact hlo k h1
   ·by_cases h2:l.length - i <= k
    ·exact hhi k h2
    ·rw [hmid k (by omega) (by omega),rev_get (by omega),show l.length - 1 - k = k by omega]
  subst this
  refine ⟨rfl,?_,b1⟩
  show w1.ownsRow _ _ _ _ l.reverse.length _
  rw [List.length_reverse]
  exact ho1
def VoidIs (w:World) (g:Nat) (acc:List Fact):Prop:=∃ f,MapIs C.P 3 w g f ∧ ∀ q:Int,(f (.int .i64 q)).getD (.bool false) = .bool (voidedBy acc q)
theorem VoidIs.ext {w w':World} {g:Nat} {acc:List Fact} (h:VoidIs w g acc) (e:Ext w w'):VoidIs w' g acc:=let ⟨f,h1,h2⟩:=h; ⟨f,h1.ext e,h2⟩
theorem VoidIs.lt {w:World} {g:Nat} {acc:List Fact} (h:VoidIs w g acc):∃ es clk,w.heap[g]? = some (.map es clk):=let ⟨_,⟨es,clk,hb,_⟩,_⟩:=h; ⟨es,clk,hb⟩
theorem voidedBy_snoc (acc:List Fact) (x:Fact) (q:Int):voidedBy (acc ++ [x]) q = (voidedBy acc q || decide (x.kind = 11 ∧ x.what = q)):=by
 unfold voidedBy; rw [List.any_append]; simp
theorem Counting1_spec {w:World} {x:Fact} {g6 gm T:Nat} {acc:List Fact} (hx:x.Nums) (hc:w.heap[g6]? = some (.cells #[.map (some gm)] T (0,0))) (hv:VoidIs w gm acc) :
  CallsV C.P 206 (#[] ++ [x.val].toArray ++ #[.pointer (some ⟨g6,0,none⟩)]) w fun v w' => v = .bool (!voidedBy acc x.id) ∧ w.grownBy w' (some gm) ∧ VoidIs w' gm (if voidedBy acc x.id = true then acc else acc ++ [x]):=by
 refine callsV_of C_ok (args:=[_,_]) (plans:=[]) Tryz.func206 rfl Tryz.ntmps206 (by kernel_rfl) (Nat.le_of_ble_eq_true rfl) ?_
 intro g2 w1 h1
 have M1:=(Mem.start w).alloc h1
 have hc1:=h1.ext.heap hc
 have hv1:=hv.ext h1.ext
 obtain ⟨f,hf,hfv⟩:=hv1
 refine ⟨_,cell_of_block hc1 rfl,?_⟩
 refine ⟨_,M1.cell 0 rfl rfl,?_⟩
 refine ⟨.bool (voidedBy acc x.id),mapGet1 C_ok (te:=ty4) (x:=.int .i64 x.id) (intKey hx.id) hf intK rfl rfl rfl rfl rfl rfl (hfv _),?_⟩
 refine brE_mk (fun hb => ?_) (fun hb => ?_)
 ·rw [hb,if_pos rfl]
  exact ⟨rfl,ext_grownBy h1.ext _,⟨f,hf,hfv⟩⟩
 rw [hb,if_neg (by decide)]
 refine ⟨_,M1.cell 0 rfl rfl,?_⟩
 refine brE_dec (fun hk => ?_) (fun hk => ?_)
 ·have hk:x.kind = 11:=hk
  refine ⟨_,cell_of_block hc1 rfl,?_⟩
  refine ⟨_,M1.cell 0 rfl rfl,?_⟩
  refine mapPut C_ok rfl rfl (x:=.int .i64 x.what) rfl rfl rfl rfl intK (intKey hx.what) hf ?_
  intro o' w2 h2 hf2
  refine ⟨rfl,grownBy_trans (ext_grownBy h1.ext _) h2.grownBy,⟨_,hf2,fun q => ?_⟩⟩
  rw [voidedBy_snoc]
  unfold updV
  by_cases e:q = x.what
  ·subst e; rw [if_pos rfl]; simp [hk]
  ·rw [if_neg (fun h => e (by injection h)),hfv]
   have:decide (x.kind = 11 ∧ x.what = q) = false:=decide_eq_false fun h => e h.2.symm
   rw [this,Bool.or_false]
 ·have hk:¬ x.kind = 11:=hk
  refine ⟨rfl,ext_grownBy h1.ext _,⟨f,hf,fun q => ?_⟩⟩
  rw [voidedBy_snoc,hfv]
  have:decide (x.kind = 11 ∧ x.what = q) = false:=decide_eq_false fun h => hk h.1
  rw [this,Bool.or_false]
set_option maxRecDepth 100000 in
theorem Counting_spec {w:World} {A:Option Addr} {l:List Fact} {c:Nat} (h:HF w A l c) (hl:l.length <= 2 ^ 20) (k:Int) :
  CallsV C.P 137 #[.slice A l.length c,.int .i64 k] w fun v w' => NewF w.heap.size w' v (countL k l) ∧ Ext w w':=by
 refine callsV_of C_ok (args:=[_,_]) (plans:=[]) Tryz.func137 rfl Tryz.ntmps137 (by kernel_rfl) (Nat.le_of_ble_eq_true rfl) ?_
 refine (Known_spec h hl k).mono ?_
 rintro v w1 ⟨hK,e1⟩
 have hkl:=knownL_length k l
 have hsub:=knownL_sub (k:=k) (l:=l)
 have hcount:countL k l = (backL [] (knownL k l).reverse).reverse:=rfl
 rw [hcount]
 clear hcount
 generalize knownL k l = K at *
 obtain ⟨AK,cK,rfl,hrK,_⟩:=hK.slice
 intro gm w2 h2
 have M2:=(Mem.start w1).alloc h2
 intro g6 w3 h3
 have M3:=M2.alloc h3
 refine ⟨rfl,_,_,M3.get 0 rfl,Nat.le_of_ble_eq_true rfl,rfl,?_⟩
 intro w4 h4
 have M4:Mem w1 w4 [(g6,.cells #[.map (some gm)] 159 (0,0)),(gm,.map #[] 0)]:=M3.put 0 rfl h4
 have hgm:=M4.new 1 rfl
 have hg6:=M4.new 0 rfl
 have hne:gm ≠ g6:=by
  have:=M4.nodup
  simp at this
  exact fun e => this e.symm
 refine ⟨[],[.pointer (some ⟨g6,0,none⟩)],rfl,rfl,?_⟩
 refine ⟨(K.length:Int) - 1,fit ⟨by omega,by omega⟩,?_⟩
 refine loopE C_ok (fun (s:Nat × Value × List Fact) => [(5,.slice AK K.length cK),(7,.func (.func 206) #[] #[.pointer (some ⟨g6,0,none⟩)]),(8,s.2.1),(9,.int .i64 ((s.1:Int) - 1))])
  (fun s w' => s.1 <= K.length ∧ Mem w1 w' [(g6,.cells #[.map (some gm)] 159 (0,0))] ∧ VoidIs w' gm s.2.2 ∧ NewF w1.heap.size w' s.2.1 s.2.2 ∧ backL [] K.reverse = backL s.2.2 (K.take s.1).reverse ∧ s.2.2.length + s.1 <= K.length) (fun s => s.1) (K.length,.slice none 0 0,[])
  ⟨rfl,rfl,rfl,rfl,trivial⟩ ⟨Nat.le_refl _,M4.sub (List.Sublist.cons_cons _ (List.nil_sublist _)),⟨_,MapIs.empty (M4.get 1 rfl),fun q => rfl⟩,newF_nil _ _,by rw [List.take_length],by simp⟩ ?_
 rintro ⟨n,v,acc⟩ w5 ⟨hn',M5,hv5',ho',hb',hal'⟩
 have hn:n <= K.length:=hn'
 have ho:NewF w1.heap.size w5 v acc:=ho'
 have hv5:VoidIs w5 gm acc:=hv5'
 have hb:backL [] K.reverse = backL acc (K.take n).reverse:=hb'
 have hal:acc.length + n <= K.length:=hal'
 clear hal' hb' hn' ho' hv5'
 refine brE_dec (fun hge => ?_) (fun hlt => ?_)
 ·have hge:(n:Int) - 1 >= 0:=hge
  obtain ⟨m,rfl⟩:∃ m,n = m + 1:=⟨n - 1,by omega⟩
  have hm:m < K.length:=by omega
  rw [backL_step hm] at hb
  have next:IntKind.i64.wrap ((((m + 1:Nat):Int) - 1) - 1) = (m:Int) - 1:=by rw [fit ⟨by omega,by omega⟩]; omega
  obtain ⟨b2,o2,hA2,hc2⟩:=Reads.fact (hrK.ext M5.ext) hm
  refine ⟨m,b2,o2,by omega,hm,hA2,?_⟩
  refine ⟨K[m].cells,rfl,hc2,?_⟩
  obtain ⟨es,clk,hmap5⟩:=hv5.lt
  refine (Counting1_spec (h.nums _ (hsub _ (List.getElem_mem hm))) (M5.get 0 rfl) hv5).mono ?_
  rintro v6 w6 ⟨rfl,hg56,hv6⟩
  have M6:Mem w1 w6 [(g6,.cells #[.map (some gm)] 159 (0,0))]:=M5.grown hg56 (fun q hq => by cases hq; exact hgm) (fun p hp => by simp at hp; subst hp; exact fun e => hne (by injection e with e; exact e.symm))
  have ho6:NewF w1.heap.size w6 v acc:=ownsRow_grown ho hg56 (fun e => own_ne ho hmap5 (fun c fr e => by cases e) e.symm)
  refine brE_mk (fun hbf => ?_) (fun hbt => ?_)
  ·have hbf:voidedBy acc K[m].id = false:=by simpa using hbf
   rw [hbf,if_neg (by decide)] at hb hv6
   obtain ⟨b3,o3,hA3,hc3⟩:=Reads.fact (hrK.ext M6.ext) hm
   refine ⟨m,b3,o3,by omega,hm,hA3,?_⟩
   refine ⟨K[m].cells,rfl,hc3,?_⟩
   intro g w7 h7
   have M7:=M6.alloc h7
   have ho7:w7.ownsRow w1.heap.size 55 9 v acc.length (fcells acc):=ownsRow_ext ho6 h7.ext
   have hv7:=hv6.ext h7.ext
   obtain ⟨es7,clk7,hmap7⟩:=hv7.lt
   refine ⟨rfl,rfl,rfl,w1.heap.size,_,_,K[m].cells,ho7,M7.ext.size,Nat.le_of_ble_eq_true rfl,rfl,rfl,.inr ⟨g,0,rfl,Rd.of_block h7.here⟩,rfl,rfl,by omega,by simp only [maxLen]; omega,?_⟩
   intro v8 w8 ho8 hg8 _
   have M8:Mem w1 w8 [(g6,.cells #[.map (some gm)] 159 (0,0))]:=M7.tail.grown hg8 (fun q hq => (ho7.lt q hq).1) (fun p hp => by
    simp at hp; subst hp
    exact own_ne ho7 (M7.get 1 rfl) (fun c fr e => by cases e))
   have hv8:VoidIs w8 gm (acc ++ [K[m]]):=by
    obtain ⟨f,hf,hfv⟩:=hv7
    exact ⟨f,hf.same (hg8.block gm (lt_of_heap hmap7) (own_ne ho7 hmap7 (fun c fr e => by cases e))),hfv⟩
   refine ⟨_,next,?_⟩
   refine ⟨(m,v8,acc ++ [K[m]]),⟨rfl,rfl,rfl,rfl,trivial⟩,⟨by show m <= K.length; omega,M8,hv8,?_,hb,by show (acc ++ [K[m]]).length + m <= K.length; simp; omega⟩,by show m < m + 1; omega⟩
   show w8.ownsRow _ _ _ v8 (acc ++ [K[m]]).length (fcells (acc ++ [K[m]]))
   rw [fcells_append,fcells_one,List.length_append]
   exact ho8
  ·have hbt:voidedBy acc K[m].id = true:=by simpa using hbt
   rw [hbt,if_pos rfl] at hb hv6
   refine ⟨_,next,?_⟩
   exact ⟨(m,v,acc),⟨rfl,rfl,rfl,rfl,trivial⟩,⟨by show m <= K.length; omega,M6,hv6,ho6,hb,by show acc.length + m <= K.length; omega⟩,by show m < m + 1; omega⟩
 ·have:n = 0:=by have:¬ (n:Int) - 1 >= 0:=hlt; omega
  subst this
  have hb:backL [] K.reverse = acc:=hb
  rw [hb]
  refine (ReverseF_spec ho (by omega)).mono ?_
  rintro v6 w6 ⟨rfl,ho6,b6⟩
  exact ⟨ho6.base e1.size,e1.trans (Below.trans M5.ext b6)⟩
end Go.Proofs.YtdpdjcopkehdjaaGreat
namespace Go.Proofs.YtdpdjcopkehdjaaGreat
open Go.Eng Go.RowKit
theorem At1_spec {w:World} {x:Fact} {g5:Nat} {day:Int} (hc:w.heap[g5]? = some (.cells #[.int .i64 day] 3 (0,0))) :
  CallsV C.P 138 (#[] ++ [x.val].toArray ++ #[.pointer (some ⟨g5,0,none⟩)]) w fun v w' => v = .bool (decide (x.kind = 11) || !holdsB day x) ∧ Ext w w':=by
 refine callsV_of C_ok (args:=[_,_]) (plans:=[]) Tryz.func138 rfl Tryz.ntmps138 (by kernel_rfl) (Nat.le_of_ble_eq_true rfl) ?_
 intro g2 w1 h1
 have M1:=(Mem.start w).alloc h1
 refine ⟨_,M1.cell 0 rfl rfl,?_⟩
 refine brE_dec (fun hk => ?_) (fun hk => ?_)
 ·have hk:x.kind = 11:=hk
  exact ⟨by rw [decide_eq_true hk]; rfl,M1.ext⟩
 ·have hk:¬ x.kind = 11:=hk
  refine ⟨x.cells,rfl,M1.rd 0 rfl,?_⟩
  refine ⟨_,cell_of_block (h1.ext.heap hc) rfl,?_⟩
  refine (Holds_spec x day w1).mono ?_
  rintro v w2 ⟨rfl,e2⟩
  exact ⟨by rw [decide_eq_false hk]; rfl,M1.ext.trans e2⟩
theorem At_spec {w:World} {A:Option Addr} {l:List Fact} {c:Nat} (h:HF w A l c) (hl:l.length <= 2 ^ 20) (k day:Int) :
  CallsV C.P 81 #[.slice A l.length c,.int .i64 k,.int .i64 day] w fun v w' => NewF w.heap.size w' v (atL k day l) ∧ Ext w w':=by
 refine callsV_of C_ok (args:=[_,_,_]) (plans:=[]) Tryz.func81 rfl Tryz.ntmps81 (by kernel_rfl) (Nat.le_of_ble_eq_true rfl) ?_
 intro g5 w1 h1
 have M1:=(Mem.start w).alloc h1
 refine (Counting_spec (h.ext M1.ext) hl k).mono ?_
 rintro v w2 ⟨ho,e2⟩
 have hcl:=countL_length k l
 refine ⟨[],[.pointer (some ⟨g5,0,none⟩)],rfl,rfl,?_⟩
 have hc2:w2.heap[g5]? = some (.cells #[.int .i64 day] 3 (0,0)):=e2.heap h1.here
 have hlt:g5 < w1.heap.size:=lt_of_heap h1.here
 refine (DeleteFuncF_spec (p:=fun x => decide (x.kind = 11) || !holdsB day x) ho e2.size (by omega) rfl (fun x w' b => At1_spec (by rw [b.block g5 hlt]; exact hc2))).mono ?_
 rintro v' w3 ⟨ho3,b3⟩
 refine ⟨?_,M1.ext.trans (Below.trans e2 b3)⟩
 have e:((countL k l).filter fun x => !(decide (x.kind = 11) || !holdsB day x)) = atL k day l:=by
  unfold atL
  congr 1
  funext x
  rw [Bool.not_or,Bool.not_not]
 rw [<-e]
 exact ho3.base M1.ext.size
end Go.Proofs.YtdpdjcopkehdjaaGreat
