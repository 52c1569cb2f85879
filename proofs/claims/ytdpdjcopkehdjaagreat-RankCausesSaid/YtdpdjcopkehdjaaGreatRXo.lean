/- a part of the proof: steps, walks and plain laws that the law below stands on; no condition. -/
import Derived.Test.YtdpdjcopkehdjaaGreatRXa
import Derived.Test.YtdpdjcopkehdjaaGreatRXb
import Derived.Test.YtdpdjcopkehdjaaGreatRXc
import Derived.Test.YtdpdjcopkehdjaaGreatRXd
import Derived.Test.YtdpdjcopkehdjaaGreatRXl
import Derived.Test.YtdpdjcopkehdjaaGreatRXm
import Derived.Test.YtdpdjcopkehdjaaGreatRXn
import Derived.Shelf.Strings.OnBuilder
import Derived.Shelf.Strconv.AtoiAll
import Derived.Shelf.Strconv.Itoa3
import Derived.Shelf.Strings.Search2
import Derived.KernelRfl
import Derived.Test.YtdpdjcopkehdjaaGreatProg
import Derived.WideLaws
set_option linter.unusedVariables false
set_option linter.unusedSimpArgs false
set_option linter.unnecessarySimpa false
set_option linter.unusedSectionVars false
namespace Go.Proofs.YtdpdjcopkehdjaaGreat
open Go.Eng Go.RowKit
theorem insD_lt {n:Int} {b:List Int}:∀ {a:List Int},(∀ x ∈ a,x < n) -> insD n (a ++ b) = a ++ insD n b
 | [],_ => rfl
 | x :: r,h => by
  have hx:=h x (by simp)
  rw [List.cons_append,insD,if_neg (by omega),if_neg (by omega),insD_lt (fun y hy => h y (by simp [hy]))]; rfl
theorem insD_ge {n:Int} {b:List Int}:∀ {a:List Int},(a ++ b).Pairwise (· < ·) -> (∃ x ∈ a,n <= x) -> insD n (a ++ b) = insD n a ++ b
 | [],_,h => by obtain ⟨x,hx,_⟩:=h; cases hx
 | x :: r,hp,h => by
  obtain ⟨h1,h2⟩:=List.pairwise_cons.1 hp
  rw [List.cons_append,insD,insD]
  split
  ·rfl
  split
  ·rfl
  rename_i h3 h4
  rw [insD_ge h2 ?_]; rfl
  obtain ⟨y,hy,hny⟩:=h
  rcases List.mem_cons.1 hy with rfl | hy
  ·omega
  ·exact ⟨y,hy,hny⟩
def wstep (n:Int) (s:Bool × List Int) (y:Int):Bool × List Int :=
 ((if s.1 = false ∧ n <= y then (true,s.2 ++ [n]) else s).1,if y ≠ n then (if s.1 = false ∧ n <= y then (true,s.2 ++ [n]) else s).2 ++ [y] else (if s.1 = false ∧ n <= y then (true,s.2 ++ [n]) else s).2)
def wrun (n:Int) (l:List Int):Bool × List Int:=l.foldl (wstep n) (false,[])
def wstate (n:Int) (l:List Int) (s:Bool × List Int):Prop:=(s = (false,l) ∧ ∀ x ∈ l,x < n) ∨ (s = (true,insD n l) ∧ ∃ x ∈ l,n <= x)
theorem wstate_step {n y:Int} {a:List Int} {s:Bool × List Int} (hp:(a ++ [y]).Pairwise (· < ·)) (h:wstate n a s):wstate n (a ++ [y]) (wstep n s y):=by
 rcases h with ⟨rfl,hl⟩ | ⟨rfl,x,hx,hnx⟩
 ·unfold wstep
  by_cases hny:n <= y
  ·simp only [hny,and_self,if_true]
   refine .inr ⟨?_,y,by simp,hny⟩
   rw [insD_lt hl,insD,insD]
   by_cases he:y = n
   ·subst he; simp
   ·have hlt:n < y:=by omega
    simp [he,hlt]
  ·simp only [hny,and_false,if_false]
   refine .inl ⟨?_,fun x hx => ?_⟩
   ·rw [if_pos (by omega)]
   ·rcases List.mem_append.1 hx with hx | hx
    ·exact hl x hx
    ·rw [List.mem_singleton.1 hx]; omega
 ·have hxy:x < y:=(List.pairwise_append.1 hp).2.2 x hx y (by simp)
  refine .inr ⟨?_,x,by simp [hx],hnx⟩
  unfold wstep
  simp only [Bool.true_eq_false,false_and,if_false]
  rw [if_pos (by omega),insD_ge hp ⟨x,hx,hnx⟩]
theorem wrun_state {n:Int}:∀ (r a:List Int) (s:Bool × List Int),(a ++ r).Pairwise (· < ·) -> wstate n a s -> wstate n (a ++ r) (r.foldl (wstep n) s)
 | [],a,s,_,h => by rw [List.append_nil]; exact h
 | y :: r,a,s,hp,h => by
  have e:a ++ y :: r = (a ++ [y]) ++ r:=by simp
  rw [e] at hp ⊢
  exact wrun_state r (a ++ [y]) _ hp (wstate_step (List.pairwise_append.1 hp).1 h)
theorem wrun_eq {n:Int} {l:List Int} (hp:l.Pairwise (· < ·)):(if (wrun n l).1 = true then (wrun n l).2 else (wrun n l).2 ++ [n]) = insD n l:=by
 rcases wrun_state l [] (false,[]) hp (.inl ⟨rfl,fun x hx => by cases hx⟩) with ⟨h,hl⟩ | ⟨h,_⟩
 ·have h:wrun n l = (false,l):=h
  have hl:∀ x ∈ l,x < n:=hl
  rw [h,if_neg (by simp)]
  have:=insD_lt (n:=n) (a:=l) (b:=[]) hl
  rw [List.append_nil] at this
  rw [this]; rfl
 ·have h:wrun n l = (true,insD n l):=h
  rw [h,if_pos rfl]
theorem wrun_take {n:Int} {l:List Int} {i:Nat} (hi:i < l.length):wrun n (l.take (i + 1)) = wstep n (wrun n (l.take i)) l[i]:=by
 unfold wrun
 rw [List.take_succ_eq_append_getElem hi,List.foldl_append]; rfl
theorem wstep_length (n:Int) (s:Bool × List Int) (y:Int):(wstep n s y).2.length <= s.2.length + 2:=by
 unfold wstep
 dsimp only
 split <;> split <;> simp
theorem wrun_length (n:Int) (l:List Int):∀ (s:Bool × List Int),(l.foldl (wstep n) s).2.length <= s.2.length + 2 * l.length:=by
 induction l with
 | nil => intro s; simp
 | cons y r ih =>
  intro s
  rw [List.foldl_cons,List.length_cons]
  have h1:=ih (wstep n s y)
  have h2:=wstep_length n s y
  omega
theorem newInts_snoc {B:Nat} {w:World} {v:Value} {l:List Int} {x:Int} (h:w.ownsRow B 3 1 v (l.length + 1) (ints l ++ [.int .i64 x])):NewInts B w v (l ++ [x]):=by
 unfold NewInts
 rw [ints_append,List.length_append]
 exact h
set_option maxRecDepth 100000 in
theorem with_spec {w:World} {A:Option Addr} {xs:List Int} {c:Nat} (hr:Reads w A (ints xs)) (hl:xs.length <= 2 ^ 30) (hp:xs.Pairwise (· < ·)) (n:Int) :
  CallsV C.P 223 #[.slice A xs.length c,.int .i64 n] w fun v w' => NewInts w.heap.size w' v (insD n xs) ∧ Ext w w':=by
 refine callsV_of C_ok (args:=[_,_]) (plans:=[]) Tryz.func223 rfl Tryz.ntmps223 (by kernel_rfl) (Nat.le_of_ble_eq_true rfl) ?_
 have hlen:∀ i,(wrun n (xs.take i)).2.length <= 2 ^ 32:=fun i => by
  have h1:=wrun_length n (xs.take i) (false,[])
  have h2:(xs.take i).length <= xs.length:=by rw [List.length_take]; omega
  have h3:(([]:List Int)).length = 0:=rfl
  show ((xs.take i).foldl (wstep n) (false,[])).2.length <= _
  dsimp only at h1; omega
 rw [<-wrun_eq hp]
 refine loopE C_ok (fun (s:Nat × Value × Bool) => [(0,.slice A xs.length c),(1,.int .i64 n),(5,s.2.1),(6,.bool s.2.2),(7,.int .i64 s.1)])
  (fun s w' => s.1 <= xs.length ∧ Ext w w' ∧ NewInts w.heap.size w' s.2.1 (wrun n (xs.take s.1)).2 ∧ s.2.2 = (wrun n (xs.take s.1)).1) (fun s => xs.length - s.1) (0,.slice none 0 0,false)
  ⟨rfl,rfl,rfl,rfl,rfl,trivial⟩ ⟨Nat.zero_le _,Ext.refl _,newInts_nil _ _,rfl⟩ ?_
 rintro ⟨i,v,b⟩ w1 ⟨hi',e1,ho',hb'⟩
 have hi:i <= xs.length:=hi'
 have ho:NewInts w.heap.size w1 v (wrun n (xs.take i)).2:=ho'
 have hb:b = (wrun n (xs.take i)).1:=hb'
 clear hi' ho' hb'
 have hn1:=hlen i
 refine brE_dec (fun hlt2 => ?_) (fun hge => ?_)
 ·have hlt:i < xs.length:=by have:(i:Int) < (xs.length:Nat):=hlt2; omega
  clear hlt2
  have next:IntKind.i64.wrap ((i:Int) + 1) = ((i + 1:Nat):Int):=fit ⟨by omega,by omega⟩
  have hst:=wrun_take (n:=n) hlt
  have hn2:=hlen (i + 1)
  generalize wrun n (xs.take i) = S1 at *
  obtain ⟨b1,out⟩:=S1
  have ho:NewInts w.heap.size w1 v out:=ho
  have hn1:out.length <= 2 ^ 32:=hn1
  have hb:b = b1:=hb
  subst hb
  obtain ⟨p,o,hA,hc⟩:=Reads.int (hr.ext e1) hlt
  have fin:∀ {w2:World} {v2:Value} {b2:Bool} {out2:List Int},wrun n (xs.take (i + 1)) = (b2,out2) -> Ext w w2 -> NewInts w.heap.size w2 v2 out2 -> i + 1 <= xs.length ∧ Ext w w2 ∧ NewInts w.heap.size w2 v2 (wrun n (xs.take (i + 1))).2 ∧ b2 = (wrun n (xs.take (i + 1))).1:=fun hS e hh => ⟨hlt,e,by rw [hS]; exact hh,by rw [hS]⟩
  have done:∀ {w2:World} {v2:Value} {b2:Bool} {out2:List Int},(b2,out2) = (if b = false ∧ n <= xs[i] then (true,out ++ [n]) else (b,out)) -> wrun n (xs.take (i + 1)) = (b2,if xs[i] ≠ n then out2 ++ [xs[i]] else out2):=fun hh => by
   rw [hst]; unfold wstep; dsimp only; rw [<-hh]
  cases b with
  | true =>
   have hd:=done (w2:=w1) (v2:=v) (b2:=true) (out2:=out) (by simp)
   refine ⟨i,p,o,rfl,hlt,hA,?_⟩
   refine ⟨_,by simpa using hc,?_⟩
   refine brE_ndec (fun hx => ?_) (fun hx => ?_)
   ·have hx:xs[i] ≠ n:=hx
    rw [if_pos hx] at hd
    refine ⟨i,p,o,rfl,hlt,hA,?_⟩
    refine ⟨_,by simpa using hc,?_⟩
    intro g w2 h2
    have ho2:=ho.ext h2.ext
    refine ⟨rfl,rfl,rfl,w.heap.size,_,_,[.int .i64 xs[i]],ho2,(e1.trans h2.ext).size,Nat.le_of_ble_eq_true rfl,rfl,rfl,.inr ⟨g,0,rfl,Rd.of_block h2.here⟩,rfl,rfl,by omega,by simp only [maxLen]; omega,?_⟩
    intro v3 w3 ho3 hg3 _
    refine ⟨_,next,?_⟩
    exact ⟨(i + 1,v3,true),⟨rfl,rfl,rfl,rfl,rfl,trivial⟩,fin hd (app_ext (e1.trans h2.ext) ho2 hg3) (newInts_snoc ho3),by show xs.length - (i + 1) < xs.length - i; omega⟩
   ·have hx:xs[i] = n:=hx
    rw [if_neg (by simp [hx])] at hd
    refine ⟨_,next,?_⟩
    exact ⟨(i + 1,v,true),⟨rfl,rfl,rfl,rfl,rfl,trivial⟩,fin hd e1 ho,by show xs.length - (i + 1) < xs.length - i; omega⟩
  | false =>
   refine ⟨i,p,o,rfl,hlt,hA,?_⟩
   refine ⟨_,by simpa using hc,?_⟩
   refine brE_dec (fun hn => ?_) (fun hn => ?_)
   ·have hn:n <= xs[i]:=hn
    have hd:=done (w2:=w1) (v2:=v) (b2:=true) (out2:=out ++ [n]) (by simp [hn])
    intro g w2 h2
    have ho2:=ho.ext h2.ext
    refine ⟨rfl,rfl,rfl,w.heap.size,_,_,[.int .i64 n],ho2,(e1.trans h2.ext).size,Nat.le_of_ble_eq_true rfl,rfl,rfl,.inr ⟨g,0,rfl,Rd.of_block h2.here⟩,rfl,rfl,by omega,by simp only [maxLen]; omega,?_⟩
    intro v3 w3 ho3 hg3 _
    have e3:=app_ext (e1.trans h2.ext) ho2 hg3
    have ho3:=newInts_snoc ho3
    obtain ⟨p,o,hA,hc⟩:=Reads.int (hr.ext e3) hlt
    refine ⟨i,p,o,rfl,hlt,hA,?_⟩
    refine ⟨_,by simpa using hc,?_⟩
    refine brE_ndec (fun hx => ?_) (fun hx => ?_)
    ·have hx:xs[i] ≠ n:=hx
     rw [if_pos hx] at hd
     refine ⟨i,p,o,rfl,hlt,hA,?_⟩
     refine ⟨_,by simpa using hc,?_⟩
     intro g w4 h4
     have ho4:=ho3.ext h4.ext
     have hll:(out ++ [n]).length = out.length + 1:=by simp
     have hll2:((false,out).2 ++ [n]).length = out.length + 1:=hll
     refine ⟨rfl,rfl,rfl,w.heap.size,_,_,[.int .i64 xs[i]],ho4,(e3.trans h4.ext).size,Nat.le_of_ble_eq_true rfl,rfl,rfl,.inr ⟨g,0,rfl,Rd.of_block h4.here⟩,rfl,rfl,by omega,by simp only [maxLen]; omega,?_⟩
     intro v5 w5 ho5 hg5 _
     refine ⟨_,next,?_⟩
     exact ⟨(i + 1,v5,true),⟨rfl,rfl,rfl,rfl,rfl,trivial⟩,fin hd (app_ext (e3.trans h4.ext) ho4 hg5) (newInts_snoc ho5),by show xs.length - (i + 1) < xs.length - i; omega⟩
    ·have hx:xs[i] = n:=hx
     rw [if_neg (by simp [hx])] at hd
     refine ⟨_,next,?_⟩
     exact ⟨(i + 1,v3,true),⟨rfl,rfl,rfl,rfl,rfl,trivial⟩,fin hd e3 ho3,by show xs.length - (i + 1) < xs.length - i; omega⟩
   ·have hn:¬ n <= xs[i]:=hn
    have hd:=done (w2:=w1) (v2:=v) (b2:=false) (out2:=out) (by simp [hn])
    refine ⟨i,p,o,rfl,hlt,hA,?_⟩
    refine ⟨_,by simpa using hc,?_⟩
    refine brE_ndec (fun hx => ?_) (fun hx => ?_)
    ·have hx:xs[i] ≠ n:=hx
     rw [if_pos hx] at hd
     refine ⟨i,p,o,rfl,hlt,hA,?_⟩
     refine ⟨_,by simpa using hc,?_⟩
     intro g w2 h2
     have ho2:=ho.ext h2.ext
     refine ⟨rfl,rfl,rfl,w.heap.size,_,_,[.int .i64 xs[i]],ho2,(e1.trans h2.ext).size,Nat.le_of_ble_eq_true rfl,rfl,rfl,.inr ⟨g,0,rfl,Rd.of_block h2.here⟩,rfl,rfl,by omega,by simp only [maxLen]; omega,?_⟩
     intro v3 w3 ho3 hg3 _
     refine ⟨_,next,?_⟩
     exact ⟨(i + 1,v3,false),⟨rfl,rfl,rfl,rfl,rfl,trivial⟩,fin hd (app_ext (e1.trans h2.ext) ho2 hg3) (newInts_snoc ho3),by show xs.length - (i + 1) < xs.length - i; omega⟩
    ·have hx:xs[i] = n:=hx
     rw [if_neg (by simp [hx])] at hd
     refine ⟨_,next,?_⟩
     exact ⟨(i + 1,v,false),⟨rfl,rfl,rfl,rfl,rfl,trivial⟩,fin hd e1 ho,by show xs.length - (i + 1) < xs.length - i; omega⟩
 ·have:i = xs.length:=by have:¬ (i:Int) < (xs.length:Nat):=hge; omega
  subst this
  rw [List.take_length] at ho hb hn1
  generalize wrun n xs = S at *
  obtain ⟨b1,out⟩:=S
  have hb:b = b1:=hb
  subst hb
  have ho:NewInts w.heap.size w1 v out:=ho
  have hn1:out.length <= 2 ^ 32:=hn1
  cases b with
  | true => exact ⟨ho,e1⟩
  | false =>
   intro g w2 h2
   have ho2:=ho.ext h2.ext
   refine ⟨rfl,rfl,rfl,w.heap.size,_,_,[.int .i64 n],ho2,(e1.trans h2.ext).size,Nat.le_of_ble_eq_true rfl,rfl,rfl,.inr ⟨g,0,rfl,Rd.of_block h2.here⟩,rfl,rfl,by omega,by simp only [maxLen]; omega,?_⟩
   intro v3 w3 ho3 hg3 _
   exact ⟨newInts_snoc ho3,app_ext (e1.trans h2.ext) ho2 hg3⟩
end Go.Proofs.YtdpdjcopkehdjaaGreat
namespace Go.Proofs.YtdpdjcopkehdjaaGreat
open Go.Eng Go.RowKit
theorem any_step {α:Type} {p:α -> Bool} {K:List α} {i:Nat} (hi:i < K.length):(K.take (i + 1)).any p = ((K.take i).any p || p K[i]):=by
 rw [List.take_succ_eq_append_getElem hi,List.any_append]; simp
theorem any_hit {α:Type} {p:α -> Bool} {K:List α} {i:Nat} (hi:i < K.length) (h:p K[i] = true):K.any p = true:=List.any_eq_true.2 ⟨K[i],List.getElem_mem hi,h⟩
set_option maxRecDepth 100000 in
theorem refdead_spec {w1:World} {AK:Option Addr} {K:List Fact} {cK:Nat} (hrK:Reads w1 AK (fcells K)) (hK:K.length <= 2 ^ 20) (n:Int) :
  CallsV C.P 149 #[.slice AK K.length cK,.int .i64 n] w1 fun v w' => v = .bool (deadB K n) ∧ w' = w1:=by
 refine callsV_of C_ok (args:=[_,_]) (plans:=[]) Tryz.func149 rfl Tryz.ntmps149 (by kernel_rfl) (Nat.le_of_ble_eq_true rfl) ?_
 unfold deadB
 refine loopE C_ok (fun (s:Nat × Unit) => [(0,.slice AK K.length cK),(1,.int .i64 n),(5,.int .i64 s.1)])
  (fun s w' => w' = w1 ∧ s.1 <= K.length ∧ (K.take s.1).any (deathB n) = false) (fun s => K.length - s.1) (0,()) ⟨rfl,rfl,rfl,trivial⟩ ⟨rfl,Nat.zero_le _,by simp⟩ ?_
 rintro ⟨i,u⟩ w2 ⟨rfl,hi',ha'⟩
 have hi:i <= K.length:=hi'
 have ha:(K.take i).any (deathB n) = false:=ha'
 clear hi' ha'
 refine brE_dec (fun hlt2 => ?_) (fun hge => ?_)
 ·have hlt:i < K.length:=by have:(i:Int) < (K.length:Nat):=hlt2; omega
  clear hlt2
  have next:IntKind.i64.wrap ((i:Int) + 1) = ((i + 1:Nat):Int):=fit ⟨by omega,by omega⟩
  obtain ⟨b,o,hA,hc⟩:=Reads.fact hrK hlt
  refine ⟨i,b,o,rfl,hlt,hA,?_⟩
  refine ⟨.int .u8 K[i].kind,hc 2 _ rfl,?_⟩
  refine brE_dec (fun k0 => ?_) (fun k0 => ?_)
  ·have k0:K[i].kind = 10:=k0
   refine ⟨i,b,o,rfl,hlt,hA,?_⟩
   refine ⟨.int .i64 K[i].who,hc 3 _ rfl,?_⟩
   refine brE_dec (fun k1 => ?_) (fun k1 => ?_)
   ·have k1:K[i].who = n:=k1
    have hp:(deathB n) K[i] = true:=decide_eq_true ⟨k0,k1⟩
    exact ⟨by rw [any_hit (p:=deathB n) hlt hp],rfl⟩
   ·have k1:¬ K[i].who = n:=k1
    have hp:(deathB n) K[i] = false:=decide_eq_false fun hh => k1 hh.2
    refine ⟨_,next,?_⟩
    exact ⟨(i + 1,()),⟨rfl,rfl,rfl,trivial⟩,⟨rfl,hlt,by show (K.take (i + 1)).any (deathB n) = false; rw [any_step hlt,ha]; exact hp⟩,by show K.length - (i + 1) < K.length - i; omega⟩
  ·have k0:¬ K[i].kind = 10:=k0
   have hp:(deathB n) K[i] = false:=decide_eq_false fun hh => k0 hh.1
   refine ⟨_,next,?_⟩
   exact ⟨(i + 1,()),⟨rfl,rfl,rfl,trivial⟩,⟨rfl,hlt,by show (K.take (i + 1)).any (deathB n) = false; rw [any_step hlt,ha]; exact hp⟩,by show K.length - (i + 1) < K.length - i; omega⟩
 ·have:i = K.length:=by have:¬ (i:Int) < (K.length:Nat):=hge; omega
  rw [this,List.take_length] at ha
  exact ⟨by rw [ha],rfl⟩
set_option maxRecDepth 100000 in
theorem numbered_spec {w1:World} {AK:Option Addr} {K:List Fact} {cK:Nat} (hrK:Reads w1 AK (fcells K)) (hK:K.length <= 2 ^ 20) (n:Int) :
  CallsV C.P 170 #[.slice AK K.length cK,.int .i64 n] w1 fun v w' => v = .bool (idIn K n) ∧ w' = w1:=by
 refine callsV_of C_ok (args:=[_,_]) (plans:=[]) Tryz.func170 rfl Tryz.ntmps170 (by kernel_rfl) (Nat.le_of_ble_eq_true rfl) ?_
 unfold idIn
 refine loopE C_ok (fun (s:Nat × Unit) => [(0,.slice AK K.length cK),(1,.int .i64 n),(5,.int .i64 s.1)])
  (fun s w' => w' = w1 ∧ s.1 <= K.length ∧ (K.take s.1).any (fun y => decide (y.id = n)) = false) (fun s => K.length - s.1) (0,()) ⟨rfl,rfl,rfl,trivial⟩ ⟨rfl,Nat.zero_le _,by simp⟩ ?_
 rintro ⟨i,u⟩ w2 ⟨rfl,hi',ha'⟩
 have hi:i <= K.length:=hi'
 have ha:(K.take i).any (fun y => decide (y.id = n)) = false:=ha'
 clear hi' ha'
 refine brE_dec (fun hlt2 => ?_) (fun hge => ?_)
 ·have hlt:i < K.length:=by have:(i:Int) < (K.length:Nat):=hlt2; omega
  clear hlt2
  have next:IntKind.i64.wrap ((i:Int) + 1) = ((i + 1:Nat):Int):=fit ⟨by omega,by omega⟩
  obtain ⟨b,o,hA,hc⟩:=Reads.fact hrK hlt
  refine ⟨i,b,o,rfl,hlt,hA,?_⟩
  refine ⟨.int .i64 K[i].id,hc 0 _ rfl,?_⟩
  refine brE_dec (fun k0 => ?_) (fun k0 => ?_)
  ·have k0:K[i].id = n:=k0
   have hp:(fun y => decide (y.id = n)) K[i] = true:=decide_eq_true k0
   exact ⟨by rw [any_hit (p:=fun y => decide (y.id = n)) hlt hp],rfl⟩
  ·have k0:¬ K[i].id = n:=k0
   have hp:(fun y => decide (y.id = n)) K[i] = false:=decide_eq_false fun hh => k0 hh
   refine ⟨_,next,?_⟩
   exact ⟨(i + 1,()),⟨rfl,rfl,rfl,trivial⟩,⟨rfl,hlt,by show (K.take (i + 1)).any (fun y => decide (y.id = n)) = false; rw [any_step hlt,ha]; exact hp⟩,by show K.length - (i + 1) < K.length - i; omega⟩
 ·have:i = K.length:=by have:¬ (i:Int) < (K.length:Nat):=hge; omega
  rw [this,List.take_length] at ha
  exact ⟨by rw [ha],rfl⟩
set_option maxRecDepth 100000 in
theorem refnamed_spec {w1:World} {AK:Option Addr} {K:List Fact} {cK:Nat} (hrK:Reads w1 AK (fcells K)) (hK:K.length <= 2 ^ 20) (n:Int) :
  CallsV C.P 171 #[.slice AK K.length cK,.int .i64 n] w1 fun v w' => v = .bool (namedIn K n) ∧ w' = w1:=by
 refine callsV_of C_ok (args:=[_,_]) (plans:=[]) Tryz.func171 rfl Tryz.ntmps171 (by kernel_rfl) (Nat.le_of_ble_eq_true rfl) ?_
 unfold namedIn
 refine loopE C_ok (fun (s:Nat × Unit) => [(0,.slice AK K.length cK),(1,.int .i64 n),(5,.int .i64 s.1)])
  (fun s w' => w' = w1 ∧ s.1 <= K.length ∧ (K.take s.1).any (fun y => decide (y.kind = 1 ∧ y.who = n)) = false) (fun s => K.length - s.1) (0,()) ⟨rfl,rfl,rfl,trivial⟩ ⟨rfl,Nat.zero_le _,by simp⟩ ?_
 rintro ⟨i,u⟩ w2 ⟨rfl,hi',ha'⟩
 have hi:i <= K.length:=hi'
 have ha:(K.take i).any (fun y => decide (y.kind = 1 ∧ y.who = n)) = false:=ha'
 clear hi' ha'
 refine brE_dec (fun hlt2 => ?_) (fun hge => ?_)
 ·have hlt:i < K.length:=by have:(i:Int) < (K.length:Nat):=hlt2; omega
  clear hlt2
  have next:IntKind.i64.wrap ((i:Int) + 1) = ((i + 1:Nat):Int):=fit ⟨by omega,by omega⟩
  obtain ⟨b,o,hA,hc⟩:=Reads.fact hrK hlt
  refine ⟨i,b,o,rfl,hlt,hA,?_⟩
  refine ⟨.int .u8 K[i].kind,hc 2 _ rfl,?_⟩
  refine brE_dec (fun k0 => ?_) (fun k0 => ?_)
  ·have k0:K[i].kind = 1:=k0
   refine ⟨i,b,o,rfl,hlt,hA,?_⟩
   refine ⟨.int .i64 K[i].who,hc 3 _ rfl,?_⟩
   refine brE_dec (fun k1 => ?_) (fun k1 => ?_)
   ·have k1:K[i].who = n:=k1
    have hp:(fun y => decide (y.kind = 1 ∧ y.who = n)) K[i] = true:=decide_eq_true ⟨k0,k1⟩
    exact ⟨by rw [any_hit (p:=fun y => decide (y.kind = 1 ∧ y.who = n)) hlt hp],rfl⟩
   ·have k1:¬ K[i].who = n:=k1
    have hp:(fun y => decide (y.kind = 1 ∧ y.who = n)) K[i] = false:=decide_eq_false fun hh => k1 hh.2
    refine ⟨_,next,?_⟩
    exact ⟨(i + 1,()),⟨rfl,rfl,rfl,trivial⟩,⟨rfl,hlt,by show (K.take (i + 1)).any (fun y => decide (y.kind = 1 ∧ y.who = n)) = false; rw [any_step hlt,ha]; exact hp⟩,by show K.length - (i + 1) < K.length - i; omega⟩
  ·have k0:¬ K[i].kind = 1:=k0
   have hp:(fun y => decide (y.kind = 1 ∧ y.who = n)) K[i] = false:=decide_eq_false fun hh => k0 hh.1
   refine ⟨_,next,?_⟩
   exact ⟨(i + 1,()),⟨rfl,rfl,rfl,trivial⟩,⟨rfl,hlt,by show (K.take (i + 1)).any (fun y => decide (y.kind = 1 ∧ y.who = n)) = false; rw [any_step hlt,ha]; exact hp⟩,by show K.length - (i + 1) < K.length - i; omega⟩
 ·have:i = K.length:=by have:¬ (i:Int) < (K.length:Nat):=hge; omega
  rw [this,List.take_length] at ha
  exact ⟨by rw [ha],rfl⟩
set_option maxRecDepth 100000 in
theorem refMourns_spec {w:World} {A:Option Addr} {l:List Fact} {c:Nat} (h:HF w A l c) (hl:l.length <= 2 ^ 20) (k day n:Int) :
  CallsV C.P 91 #[.slice A l.length c,.int .i64 k,.int .i64 day,.int .i64 n] w fun v w' => v = .bool ((atL k day l).any (mournB n)) ∧ Ext w w':=by
 refine callsV_of C_ok (args:=[_,_,_,_]) (plans:=[]) Tryz.func91 rfl Tryz.ntmps91 (by kernel_rfl) (Nat.le_of_ble_eq_true rfl) ?_
 refine (refAt_spec h hl k day).mono ?_
 rintro v0 w1 ⟨ho,e1⟩
 have hK:=atL_length k day l
 generalize atL k day l = K at *
 obtain ⟨AK,cK,rfl,hrK,_⟩:=ho.slice
 refine loopE C_ok (fun (s:Nat × Unit) => [(0,.slice A l.length c),(3,.int .i64 n),(9,.slice AK K.length cK),(10,.int .i64 s.1)])
  (fun s w' => w' = w1 ∧ s.1 <= K.length ∧ (K.take s.1).any (mournB n) = false) (fun s => K.length - s.1) (0,()) ⟨rfl,rfl,rfl,rfl,trivial⟩ ⟨rfl,Nat.zero_le _,by simp⟩ ?_
 rintro ⟨i,u⟩ w2 ⟨rfl,hi',ha'⟩
 have hi:i <= K.length:=hi'
 have ha:(K.take i).any (mournB n) = false:=ha'
 clear hi' ha'
 refine brE_dec (fun hlt2 => ?_) (fun hge => ?_)
 ·have hlt:i < K.length:=by have:(i:Int) < (K.length:Nat):=hlt2; omega
  clear hlt2
  have next:IntKind.i64.wrap ((i:Int) + 1) = ((i + 1:Nat):Int):=fit ⟨by omega,by omega⟩
  obtain ⟨b,o,hA,hc⟩:=Reads.fact hrK hlt
  refine ⟨i,b,o,rfl,hlt,hA,?_⟩
  refine ⟨.int .u8 K[i].kind,hc 2 _ rfl,?_⟩
  refine brE_dec (fun k0 => ?_) (fun k0 => ?_)
  ·have k0:K[i].kind = 7:=k0
   refine ⟨i,b,o,rfl,hlt,hA,?_⟩
   refine ⟨.int .i64 K[i].who,hc 3 _ rfl,?_⟩
   refine brE_dec (fun k1 => ?_) (fun k1 => ?_)
   ·have k1:K[i].who = n:=k1
    have hp:(mournB n) K[i] = true:=decide_eq_true ⟨k0,k1⟩
    exact ⟨by rw [any_hit (p:=mournB n) hlt hp],e1⟩
   ·have k1:¬ K[i].who = n:=k1
    have hp:(mournB n) K[i] = false:=decide_eq_false fun hh => k1 hh.2
    refine ⟨_,next,?_⟩
    exact ⟨(i + 1,()),⟨rfl,rfl,rfl,rfl,trivial⟩,⟨rfl,hlt,by show (K.take (i + 1)).any (mournB n) = false; rw [any_step hlt,ha]; exact hp⟩,by show K.length - (i + 1) < K.length - i; omega⟩
  ·have k0:¬ K[i].kind = 7:=k0
   have hp:(mournB n) K[i] = false:=decide_eq_false fun hh => k0 hh.1
   refine ⟨_,next,?_⟩
   exact ⟨(i + 1,()),⟨rfl,rfl,rfl,rfl,trivial⟩,⟨rfl,hlt,by show (K.take (i + 1)).any (mournB n) = false; rw [any_step hlt,ha]; exact hp⟩,by show K.length - (i + 1) < K.length - i; omega⟩
 ·have:i = K.length:=by have:¬ (i:Int) < (K.length:Nat):=hge; omega
  rw [this,List.take_length] at ha
  exact ⟨by rw [ha],e1⟩
set_option maxRecDepth 100000 in
theorem in1_spec {w:World} {A:Option Addr} {xs:List Int} {c:Nat} (hr:Reads w A (ints xs)) (hl:xs.length <= 2 ^ 40) (n:Int) :
  CallsV C.P 145 #[.slice A xs.length c,.int .i64 n] w fun v w' => v = .bool (decide (n ∈ xs)) ∧ w' = w:=by
 refine callsV_of C_ok (args:=[_,_]) (plans:=[]) Tryz.func145 rfl Tryz.ntmps145 (by kernel_rfl) (Nat.le_of_ble_eq_true rfl) ?_
 refine loopE C_ok (fun (i:Nat) => [(0,.slice A xs.length c),(1,.int .i64 n),(5,.int .i64 i)])
  (fun i w' => w' = w ∧ i <= xs.length ∧ n ∉ xs.take i) (fun i => xs.length - i) 0 ⟨rfl,rfl,rfl,trivial⟩ ⟨rfl,Nat.zero_le _,by simp⟩ ?_
 rintro i w1 ⟨rfl,hi,hn⟩
 refine brE_dec (fun hlt2 => ?_) (fun hge => ?_)
 ·have hlt:i < xs.length:=by have:(i:Int) < (xs.length:Nat):=hlt2; omega
  obtain ⟨b,o,hA,hc⟩:=Reads.int hr hlt
  refine ⟨i,b,o,rfl,hlt,hA,?_⟩
  refine ⟨_,by simpa using hc,?_⟩
  refine brE_dec (fun he => ?_) (fun he => ?_)
  ·have he:xs[i] = n:=he
   exact ⟨by rw [decide_eq_true (by rw [<-he]; exact List.getElem_mem hlt)],rfl⟩
  ·have he:¬ xs[i] = n:=he
   refine ⟨((i + 1:Nat):Int),fit ⟨by omega,by omega⟩,?_⟩
   refine ⟨i + 1,⟨rfl,rfl,rfl,trivial⟩,⟨rfl,hlt,?_⟩,by omega⟩
   rw [List.take_succ_eq_append_getElem hlt]
   intro hm
   rcases List.mem_append.1 hm with hm | hm
   ·exact hn hm
   ·exact he (List.mem_singleton.1 hm).symm
 ·have:i = xs.length:=by have:¬ (i:Int) < (xs.length:Nat):=hge; omega
  rw [this,List.take_length] at hn
  exact ⟨by rw [decide_eq_false hn],rfl⟩
set_option maxRecDepth 100000 in
theorem refName_spec {w:World} {A:Option Addr} {l:List Fact} {c:Nat} (h:HF w A l c) (hl:l.length <= 2 ^ 20) (k day s0 lang:Int) :
  CallsV C.P 151 #[.slice A l.length c,.int .i64 k,.int .i64 day,.int .i64 s0,.int .i64 lang] w fun v w' => v = .string (nameL (atL k day l) s0 lang) ∧ Ext w w':=by
 refine callsV_of C_ok (args:=[_,_,_,_,_]) (plans:=[]) Tryz.func151 rfl Tryz.ntmps151 (by kernel_rfl) (Nat.le_of_ble_eq_true rfl) ?_
 refine (refAt_spec h hl k day).mono ?_
 rintro v0 w1 ⟨ho,e1⟩
 have hK:=atL_length k day l
 generalize atL k day l = K at *
 obtain ⟨AK,cK,rfl,hrK,_⟩:=ho.slice
 refine loopE C_ok (fun (s:Nat × ByteArray) => [(0,.slice A l.length c),(3,.int .i64 s0),(4,.int .i64 lang),(11,.slice AK K.length cK),(12,.string s.2),(13,.int .i64 s.1)])
  (fun s w' => w' = w1 ∧ s.1 <= K.length ∧ s.2 = ((lastP (isNm s0 lang) (K.take s.1)).getD factZ).name) (fun s => K.length - s.1) (0,⟨#[]⟩) ⟨rfl,rfl,rfl,rfl,rfl,rfl,trivial⟩ ⟨rfl,Nat.zero_le _,rfl⟩ ?_
 rintro ⟨i,a⟩ w2 ⟨rfl,hi',ha'⟩
 have hi:i <= K.length:=hi'
 have ha:a = ((lastP (isNm s0 lang) (K.take i)).getD factZ).name:=ha'
 clear hi' ha'
 refine brE_dec (fun hlt2 => ?_) (fun hge => ?_)
 ·have hlt:i < K.length:=by have:(i:Int) < (K.length:Nat):=hlt2; omega
  clear hlt2
  have next:IntKind.i64.wrap ((i:Int) + 1) = ((i + 1:Nat):Int):=fit ⟨by omega,by omega⟩
  obtain ⟨b,o,hA,hc⟩:=Reads.fact hrK hlt
  have hst:=lastP_take (p:=isNm s0 lang) hlt
  refine ⟨i,b,o,rfl,hlt,hA,?_⟩
  refine ⟨.int .u8 K[i].kind,hc 2 _ rfl,?_⟩
  refine brE_dec (fun k0 => ?_) (fun k0 => ?_)
  ·have k0:K[i].kind = 1:=k0
   refine ⟨i,b,o,rfl,hlt,hA,?_⟩
   refine ⟨.int .i64 K[i].who,hc 3 _ rfl,?_⟩
   refine brE_dec (fun k1 => ?_) (fun k1 => ?_)
   ·have k1:K[i].who = s0:=k1
    refine ⟨i,b,o,rfl,hlt,hA,?_⟩
    refine ⟨.int .i64 K[i].other,hc 5 _ rfl,?_⟩
    refine brE_dec (fun k2 => ?_) (fun k2 => ?_)
    ·have k2:K[i].other = lang:=k2
     have hp:(isNm s0 lang) K[i] = true:=decide_eq_true ⟨k0,k1,k2⟩
     rw [if_pos hp] at hst
     refine ⟨i,b,o,rfl,hlt,hA,?_⟩
     refine ⟨.string K[i].name,hc 8 _ rfl,?_⟩
     refine ⟨_,next,?_⟩
     exact ⟨(i + 1,K[i].name),⟨rfl,rfl,rfl,rfl,rfl,rfl,trivial⟩,⟨rfl,hlt,by show (K[i].name) = ((lastP (isNm s0 lang) (K.take (i + 1))).getD factZ).name; rw [hst] <;> rfl⟩,by show K.length - (i + 1) < K.length - i; omega⟩
    ·have k2:¬ K[i].other = lang:=k2
     have hp:(isNm s0 lang) K[i] = false:=decide_eq_false fun hh => k2 hh.2.2
     rw [if_neg (by rw [hp]; decide)] at hst
     refine ⟨_,next,?_⟩
     exact ⟨(i + 1,a),⟨rfl,rfl,rfl,rfl,rfl,rfl,trivial⟩,⟨rfl,hlt,by show a = ((lastP (isNm s0 lang) (K.take (i + 1))).getD factZ).name; rw [hst]; exact ha⟩,by show K.length - (i + 1) < K.length - i; omega⟩
   ·have k1:¬ K[i].who = s0:=k1
    have hp:(isNm s0 lang) K[i] = false:=decide_eq_false fun hh => k1 hh.2.1
    rw [if_neg (by rw [hp]; decide)] at hst
    refine ⟨_,next,?_⟩
    exact ⟨(i + 1,a),⟨rfl,rfl,rfl,rfl,rfl,rfl,trivial⟩,⟨rfl,hlt,by show a = ((lastP (isNm s0 lang) (K.take (i + 1))).getD factZ).name; rw [hst]; exact ha⟩,by show K.length - (i + 1) < K.length - i; omega⟩
  ·have k0:¬ K[i].kind = 1:=k0
   have hp:(isNm s0 lang) K[i] = false:=decide_eq_false fun hh => k0 hh.1
   rw [if_neg (by rw [hp]; decide)] at hst
   refine ⟨_,next,?_⟩
   exact ⟨(i + 1,a),⟨rfl,rfl,rfl,rfl,rfl,rfl,trivial⟩,⟨rfl,hlt,by show a = ((lastP (isNm s0 lang) (K.take (i + 1))).getD factZ).name; rw [hst]; exact ha⟩,by show K.length - (i + 1) < K.length - i; omega⟩
 ·have:i = K.length:=by have:¬ (i:Int) < (K.length:Nat):=hge; omega
  rw [this,List.take_length] at ha
  exact ⟨by rw [ha]; rfl,e1⟩
set_option maxRecDepth 100000 in
theorem refCredentials_spec {w:World} {A:Option Addr} {l:List Fact} {c:Nat} (h:HF w A l c) (hl:l.length <= 2 ^ 20) (k day n s0:Int) :
  CallsV C.P 90 #[.slice A l.length c,.int .i64 k,.int .i64 day,.int .i64 n,.int .i64 s0] w fun v w' => v = .int .i64 (credL (atL k day l) n s0) ∧ Ext w w':=by
 refine callsV_of C_ok (args:=[_,_,_,_,_]) (plans:=[]) Tryz.func90 rfl Tryz.ntmps90 (by kernel_rfl) (Nat.le_of_ble_eq_true rfl) ?_
 refine (refAt_spec h hl k day).mono ?_
 rintro v0 w1 ⟨ho,e1⟩
 have hK:=atL_length k day l
 generalize atL k day l = K at *
 obtain ⟨AK,cK,rfl,hrK,_⟩:=ho.slice
 unfold credL
 refine loopE C_ok (fun (s:Nat × Int) => [(0,.slice A l.length c),(3,.int .i64 n),(4,.int .i64 s0),(11,.slice AK K.length cK),(12,.int .i64 s.2),(13,.int .i64 s.1)])
  (fun s w' => w' = w1 ∧ s.1 <= K.length ∧ s.2 = (match lastP (credB n s0) (K.take s.1) with | some x => x.since | none => 100001)) (fun s => K.length - s.1) (0,100001) ⟨rfl,rfl,rfl,rfl,rfl,rfl,trivial⟩ ⟨rfl,Nat.zero_le _,rfl⟩ ?_
 rintro ⟨i,a⟩ w2 ⟨rfl,hi',ha'⟩
 have hi:i <= K.length:=hi'
 have ha:a = (match lastP (credB n s0) (K.take i) with | some x => x.since | none => 100001):=ha'
 clear hi' ha'
 refine brE_dec (fun hlt2 => ?_) (fun hge => ?_)
 ·have hlt:i < K.length:=by have:(i:Int) < (K.length:Nat):=hlt2; omega
  clear hlt2
  have next:IntKind.i64.wrap ((i:Int) + 1) = ((i + 1:Nat):Int):=fit ⟨by omega,by omega⟩
  obtain ⟨b,o,hA,hc⟩:=Reads.fact hrK hlt
  have hst:=lastP_take (p:=credB n s0) hlt
  refine ⟨i,b,o,rfl,hlt,hA,?_⟩
  refine ⟨.int .u8 K[i].kind,hc 2 _ rfl,?_⟩
  refine brE_dec (fun k0 => ?_) (fun k0 => ?_)
  ·have k0:K[i].kind = 5:=k0
   refine ⟨i,b,o,rfl,hlt,hA,?_⟩
   refine ⟨.int .i64 K[i].who,hc 3 _ rfl,?_⟩
   refine brE_dec (fun k1 => ?_) (fun k1 => ?_)
   ·have k1:K[i].who = n:=k1
    refine ⟨i,b,o,rfl,hlt,hA,?_⟩
    refine ⟨.int .i64 K[i].what,hc 4 _ rfl,?_⟩
    refine brE_dec (fun k2 => ?_) (fun k2 => ?_)
    ·have k2:K[i].what = s0:=k2
     have hp:(credB n s0) K[i] = true:=decide_eq_true ⟨k0,k1,k2⟩
     rw [if_pos hp] at hst
     refine ⟨i,b,o,rfl,hlt,hA,?_⟩
     refine ⟨.int .i64 K[i].since,hc 6 _ rfl,?_⟩
     refine ⟨_,next,?_⟩
     exact ⟨(i + 1,K[i].since),⟨rfl,rfl,rfl,rfl,rfl,rfl,trivial⟩,⟨rfl,hlt,by show (K[i].since) = (match lastP (credB n s0) (K.take (i + 1)) with | some x => x.since | none => 100001); rw [hst] <;> rfl⟩,by show K.length - (i + 1) < K.length - i; omega⟩
    ·have k2:¬ K[i].what = s0:=k2
     have hp:(credB n s0) K[i] = false:=decide_eq_false fun hh => k2 hh.2.2
     rw [if_neg (by rw [hp]; decide)] at hst
     refine ⟨_,next,?_⟩
     exact ⟨(i + 1,a),⟨rfl,rfl,rfl,rfl,rfl,rfl,trivial⟩,⟨rfl,hlt,by show a = (match lastP (credB n s0) (K.take (i + 1)) with | some x => x.since | none => 100001); rw [hst]; exact ha⟩,by show K.length - (i + 1) < K.length - i; omega⟩
   ·have k1:¬ K[i].who = n:=k1
    have hp:(credB n s0) K[i] = false:=decide_eq_false fun hh => k1 hh.2.1
    rw [if_neg (by rw [hp]; decide)] at hst
    refine ⟨_,next,?_⟩
    exact ⟨(i + 1,a),⟨rfl,rfl,rfl,rfl,rfl,rfl,trivial⟩,⟨rfl,hlt,by show a = (match lastP (credB n s0) (K.take (i + 1)) with | some x => x.since | none => 100001); rw [hst]; exact ha⟩,by show K.length - (i + 1) < K.length - i; omega⟩
  ·have k0:¬ K[i].kind = 5:=k0
   have hp:(credB n s0) K[i] = false:=decide_eq_false fun hh => k0 hh.1
   rw [if_neg (by rw [hp]; decide)] at hst
   refine ⟨_,next,?_⟩
   exact ⟨(i + 1,a),⟨rfl,rfl,rfl,rfl,rfl,rfl,trivial⟩,⟨rfl,hlt,by show a = (match lastP (credB n s0) (K.take (i + 1)) with | some x => x.since | none => 100001); rw [hst]; exact ha⟩,by show K.length - (i + 1) < K.length - i; omega⟩
 ·have:i = K.length:=by have:¬ (i:Int) < (K.length:Nat):=hge; omega
  rw [this,List.take_length] at ha
  exact ⟨by rw [ha] <;> rfl,e1⟩
set_option maxRecDepth 100000 in
theorem next1_spec {w1:World} {AK:Option Addr} {K:List Fact} {cK:Nat} (hrK:Reads w1 AK (fcells K)) (hK:K.length <= 2 ^ 20) (n:Int) :
  CallsV C.P 144 #[.slice AK K.length cK,.int .i64 n] w1 fun v w' => v = .tuple #[.int .i64 ((nextL K n).getD 0),.bool (nextL K n).isSome] ∧ w' = w1:=by
 refine callsV_of C_ok (args:=[_,_]) (plans:=[]) Tryz.func144 rfl Tryz.ntmps144 (by kernel_rfl) (Nat.le_of_ble_eq_true rfl) ?_
 unfold nextL
 refine loopE C_ok (fun (s:Nat × Int × Bool) => [(0,.slice AK K.length cK),(1,.int .i64 n),(6,.int .i64 s.2.1),(7,.bool s.2.2),(8,.int .i64 s.1)])
  (fun s w' => w' = w1 ∧ s.1 <= K.length ∧ s.2 = (((lastP (deputyB n) (K.take s.1)).map Fact.other).getD 0,((lastP (deputyB n) (K.take s.1)).map Fact.other).isSome)) (fun s => K.length - s.1) (0,0,false) ⟨rfl,rfl,rfl,rfl,rfl,trivial⟩ ⟨rfl,Nat.zero_le _,rfl⟩ ?_
 rintro ⟨i,a,d⟩ w2 ⟨rfl,hi',ha'⟩
 have hi:i <= K.length:=hi'
 have ha:(a,d) = (((lastP (deputyB n) (K.take i)).map Fact.other).getD 0,((lastP (deputyB n) (K.take i)).map Fact.other).isSome):=ha'
 clear hi' ha'
 refine brE_dec (fun hlt2 => ?_) (fun hge => ?_)
 ·have hlt:i < K.length:=by have:(i:Int) < (K.length:Nat):=hlt2; omega
  clear hlt2
  have next:IntKind.i64.wrap ((i:Int) + 1) = ((i + 1:Nat):Int):=fit ⟨by omega,by omega⟩
  obtain ⟨b,o,hA,hc⟩:=Reads.fact hrK hlt
  have hst:=lastP_take (p:=deputyB n) hlt
  refine ⟨i,b,o,rfl,hlt,hA,?_⟩
  refine ⟨.int .u8 K[i].kind,hc 2 _ rfl,?_⟩
  refine brE_dec (fun k0 => ?_) (fun k0 => ?_)
  ·have k0:K[i].kind = 9:=k0
   refine ⟨i,b,o,rfl,hlt,hA,?_⟩
   refine ⟨.int .i64 K[i].who,hc 3 _ rfl,?_⟩
   refine brE_dec (fun k1 => ?_) (fun k1 => ?_)
   ·have k1:K[i].who = n:=k1
    have hp:(deputyB n) K[i] = true:=decide_eq_true ⟨k0,k1⟩
    rw [if_pos hp] at hst
    refine ⟨i,b,o,rfl,hlt,hA,?_⟩
    refine ⟨.int .i64 K[i].other,hc 5 _ rfl,?_⟩
    refine ⟨_,next,?_⟩
    exact ⟨(i + 1,K[i].other,true),⟨rfl,rfl,rfl,rfl,rfl,trivial⟩,⟨rfl,hlt,by show (K[i].other,true) = (((lastP (deputyB n) (K.take (i + 1))).map Fact.other).getD 0,((lastP (deputyB n) (K.take (i + 1))).map Fact.other).isSome); rw [hst] <;> rfl⟩,by show K.length - (i + 1) < K.length - i; omega⟩
   ·have k1:¬ K[i].who = n:=k1
    have hp:(deputyB n) K[i] = false:=decide_eq_false fun hh => k1 hh.2
    rw [if_neg (by rw [hp]; decide)] at hst
    refine ⟨_,next,?_⟩
    exact ⟨(i + 1,a,d),⟨rfl,rfl,rfl,rfl,rfl,trivial⟩,⟨rfl,hlt,by show (a,d) = (((lastP (deputyB n) (K.take (i + 1))).map Fact.other).getD 0,((lastP (deputyB n) (K.take (i + 1))).map Fact.other).isSome); rw [hst]; exact ha⟩,by show K.length - (i + 1) < K.length - i; omega⟩
  ·have k0:¬ K[i].kind = 9:=k0
   have hp:(deputyB n) K[i] = false:=decide_eq_false fun hh => k0 hh.1
   rw [if_neg (by rw [hp]; decide)] at hst
   refine ⟨_,next,?_⟩
   exact ⟨(i + 1,a,d),⟨rfl,rfl,rfl,rfl,rfl,trivial⟩,⟨rfl,hlt,by show (a,d) = (((lastP (deputyB n) (K.take (i + 1))).map Fact.other).getD 0,((lastP (deputyB n) (K.take (i + 1))).map Fact.other).isSome); rw [hst]; exact ha⟩,by show K.length - (i + 1) < K.length - i; omega⟩
 ·have:i = K.length:=by have:¬ (i:Int) < (K.length:Nat):=hge; omega
  rw [this,List.take_length] at ha
  injection ha with h1 h2
  exact ⟨by rw [h1,h2],rfl⟩
end Go.Proofs.YtdpdjcopkehdjaaGreat
namespace Go.Proofs.YtdpdjcopkehdjaaGreat
open Go.Eng Go.RowKit
set_option maxRecDepth 100000 in
theorem refVisit_spec {w:World} {A:Option Addr} {l:List Fact} {c:Nat} (h:HF w A l c) (hl:l.length <= 2 ^ 20) (k day n s0:Int) :
  CallsV C.P 89 #[.slice A l.length c,.int .i64 k,.int .i64 day,.int .i64 n,.int .i64 s0] w fun v w' => v = .int .i64 (visitL (atL k day l) n s0) ∧ Ext w w':=by
 refine callsV_of C_ok (args:=[_,_,_,_,_]) (plans:=[]) Tryz.func89 rfl Tryz.ntmps89 (by kernel_rfl) (Nat.le_of_ble_eq_true rfl) ?_
 refine (refAt_spec h hl k day).mono ?_
 rintro v0 w1 ⟨ho,e1⟩
 have hK:=atL_length k day l
 generalize atL k day l = K at *
 obtain ⟨AK,cK,rfl,hrK,_⟩:=ho.slice
 refine loopE C_ok (fun (s:Nat × Int × Bool) => [(3,.int .i64 n),(4,.int .i64 s0),(11,.slice AK K.length cK),(12,.int .i64 s.2.1),(13,.bool s.2.2),(14,.int .i64 s.1)])
  (fun s w' => w' = w1 ∧ s.1 <= K.length ∧ s.2 = visitAt n s0 (0,false) (K.take s.1)) (fun s => K.length - s.1) (0,0,false) ⟨rfl,rfl,rfl,rfl,rfl,rfl,trivial⟩ ⟨rfl,Nat.zero_le _,rfl⟩ ?_
 rintro ⟨i,a,d⟩ w2 ⟨rfl,hi',ha'⟩
 have hi:i <= K.length:=hi'
 have ha:(a,d) = visitAt n s0 (0,false) (K.take i):=ha'
 clear hi' ha'
 refine brE_dec (fun hlt2 => ?_) (fun hge => ?_)
 ·have hlt:i < K.length:=by have:(i:Int) < (K.length:Nat):=hlt2; omega
  clear hlt2
  have next:IntKind.i64.wrap ((i:Int) + 1) = ((i + 1:Nat):Int):=fit ⟨by omega,by omega⟩
  obtain ⟨b,o,hA,hc⟩:=Reads.fact hrK hlt
  have hst:=visitAt_snoc n s0 K[i] (K.take i) (0,false)
  rw [<-List.take_succ_eq_append_getElem hlt,<-ha] at hst
  have miss:(visitB n s0 K[i] && (!d || decide (K[i].other < a))) = false -> (a,d) = visitAt n s0 (0,false) (K.take (i + 1)):=fun hf => by
   rw [hst,if_neg (by show ¬ (visitB n s0 K[i] && (!d || decide (K[i].other < a))) = true; rw [hf]; decide)]
  have hit:(visitB n s0 K[i] && (!d || decide (K[i].other < a))) = true -> (K[i].other,true) = visitAt n s0 (0,false) (K.take (i + 1)):=fun hf => by
   rw [hst,if_pos hf]
  refine ⟨i,b,o,rfl,hlt,hA,?_⟩
  refine ⟨.int .u8 K[i].kind,hc 2 _ rfl,?_⟩
  refine brE_dec (fun k0 => ?_) (fun k0 => ?_)
  ·have k0:K[i].kind = 8:=k0
   refine ⟨i,b,o,rfl,hlt,hA,?_⟩
   refine ⟨.int .i64 K[i].who,hc 3 _ rfl,?_⟩
   refine brE_dec (fun k1 => ?_) (fun k1 => ?_)
   ·have k1:K[i].who = n:=k1
    refine ⟨i,b,o,rfl,hlt,hA,?_⟩
    refine ⟨.int .i64 K[i].what,hc 4 _ rfl,?_⟩
    refine brE_dec (fun k2 => ?_) (fun k2 => ?_)
    ·have k2:K[i].what = s0:=k2
     have hv:visitB n s0 K[i] = true:=decide_eq_true ⟨k0,k1,k2⟩
     cases d with
     | false =>
      refine ⟨i,b,o,rfl,hlt,hA,?_⟩
      refine ⟨.int .i64 K[i].other,hc 5 _ rfl,?_⟩
      refine ⟨_,next,?_⟩
      exact ⟨(i + 1,K[i].other,true),⟨rfl,rfl,rfl,rfl,rfl,rfl,trivial⟩,⟨rfl,hlt,hit (by rw [hv]; rfl)⟩,by show K.length - (i + 1) < K.length - i; omega⟩
     | true =>
      refine ⟨i,b,o,rfl,hlt,hA,?_⟩
      refine ⟨.int .i64 K[i].other,hc 5 _ rfl,?_⟩
      refine brE_dec (fun k3 => ?_) (fun k3 => ?_)
      ·have k3:K[i].other < a:=k3
       refine ⟨i,b,o,rfl,hlt,hA,?_⟩
       refine ⟨.int .i64 K[i].other,hc 5 _ rfl,?_⟩
       refine ⟨_,next,?_⟩
       exact ⟨(i + 1,K[i].other,true),⟨rfl,rfl,rfl,rfl,rfl,rfl,trivial⟩,⟨rfl,hlt,hit (by rw [hv,decide_eq_true k3]; rfl)⟩,by show K.length - (i + 1) < K.length - i; omega⟩
      ·have k3:¬ K[i].other < a:=k3
       refine ⟨_,next,?_⟩
       exact ⟨(i + 1,a,true),⟨rfl,rfl,rfl,rfl,rfl,rfl,trivial⟩,⟨rfl,hlt,miss (by rw [hv,decide_eq_false k3]; rfl)⟩,by show K.length - (i + 1) < K.length - i; omega⟩
    ·have k2:¬ K[i].what = s0:=k2
     have hv:visitB n s0 K[i] = false:=decide_eq_false fun hh => k2 hh.2.2
     refine ⟨_,next,?_⟩
     exact ⟨(i + 1,a,d),⟨rfl,rfl,rfl,rfl,rfl,rfl,trivial⟩,⟨rfl,hlt,miss (by rw [hv]; rfl)⟩,by show K.length - (i + 1) < K.length - i; omega⟩
   ·have k1:¬ K[i].who = n:=k1
    have hv:visitB n s0 K[i] = false:=decide_eq_false fun hh => k1 hh.2.1
    refine ⟨_,next,?_⟩
    exact ⟨(i + 1,a,d),⟨rfl,rfl,rfl,rfl,rfl,rfl,trivial⟩,⟨rfl,hlt,miss (by rw [hv]; rfl)⟩,by show K.length - (i + 1) < K.length - i; omega⟩
  ·have k0:¬ K[i].kind = 8:=k0
   have hv:visitB n s0 K[i] = false:=decide_eq_false fun hh => k0 hh.1
   refine ⟨_,next,?_⟩
   exact ⟨(i + 1,a,d),⟨rfl,rfl,rfl,rfl,rfl,rfl,trivial⟩,⟨rfl,hlt,miss (by rw [hv]; rfl)⟩,by show K.length - (i + 1) < K.length - i; omega⟩
 ·have:i = K.length:=by have:¬ (i:Int) < (K.length:Nat):=hge; omega
  rw [this,List.take_length] at ha
  exact ⟨by unfold visitL; rw [<-ha],e1⟩
def mateL (K:List Fact) (n:Int):Int × Bool:=match lastP (marriedB n) K with
 | none => (0,false)
 | some x => (if x.who = n then x.other else x.who,true)
theorem spouse_mate (K:List Fact) (n:Int):spouseL K n = if (!(mateL K n).2 || (deadB K n || deadB K (mateL K n).1)) = true then (0,false) else ((mateL K n).1,true):=by
 unfold spouseL mateL
 cases hL:lastP (marriedB n) K with
 | none => rfl
 | some x =>
  have hm:x.kind = 6 ∧ (x.who = n ∨ x.other = n):=of_decide_eq_true (lastP_some hL).2
  dsimp only
  by_cases hw:x.who = n
  ·simp only [hw,if_true,Bool.not_true,Bool.false_or]
  ·have ho:=hm.2.resolve_left hw
   simp only [hw,ho,if_false,Bool.not_true,Bool.false_or]
   rw [Bool.or_comm]
set_option maxRecDepth 100000 in
theorem refSpouse_spec {w:World} {A:Option Addr} {l:List Fact} {c:Nat} (h:HF w A l c) (hl:l.length <= 2 ^ 20) (k day n:Int) :
  CallsV C.P 88 #[.slice A l.length c,.int .i64 k,.int .i64 day,.int .i64 n] w fun v w' => v = .tuple #[.int .i64 (spouseL (atL k day l) n).1,.bool (spouseL (atL k day l) n).2] ∧ Ext w w':=by
 refine callsV_of C_ok (args:=[_,_,_,_]) (plans:=[]) Tryz.func88 rfl Tryz.ntmps88 (by kernel_rfl) (Nat.le_of_ble_eq_true rfl) ?_
 refine (refAt_spec h hl k day).mono ?_
 rintro v0 w1 ⟨ho,e1⟩
 have hK:=atL_length k day l
 generalize atL k day l = K at *
 obtain ⟨AK,cK,rfl,hrK,_⟩:=ho.slice
 rw [spouse_mate]
 refine loopE C_ok (fun (s:Nat × Int × Bool) => [(3,.int .i64 n),(10,.slice AK K.length cK),(11,.int .i64 s.2.1),(12,.bool s.2.2),(13,.int .i64 s.1)])
  (fun s w' => w' = w1 ∧ s.1 <= K.length ∧ s.2 = mateL (K.take s.1) n) (fun s => K.length - s.1) (0,0,false) ⟨rfl,rfl,rfl,rfl,rfl,trivial⟩ ⟨rfl,Nat.zero_le _,rfl⟩ ?_
 rintro ⟨i,a,d⟩ w2 ⟨rfl,hi',ha'⟩
 have hi:i <= K.length:=hi'
 have ha:(a,d) = mateL (K.take i) n:=ha'
 clear hi' ha'
 refine brE_dec (fun hlt2 => ?_) (fun hge => ?_)
 ·have hlt:i < K.length:=by have:(i:Int) < (K.length:Nat):=hlt2; omega
  clear hlt2
  have next:IntKind.i64.wrap ((i:Int) + 1) = ((i + 1:Nat):Int):=fit ⟨by omega,by omega⟩
  obtain ⟨b,o,hA,hc⟩:=Reads.fact hrK hlt
  have hst:=lastP_take (p:=marriedB n) hlt
  have miss:marriedB n K[i] = false -> (a,d) = mateL (K.take (i + 1)) n:=fun hf => by
   rw [ha]; unfold mateL; rw [hst,if_neg (by rw [hf]; decide)]
  have hit:marriedB n K[i] = true -> ((if K[i].who = n then K[i].other else K[i].who),true) = mateL (K.take (i + 1)) n:=fun hf => by
   unfold mateL; rw [hst,if_pos hf]
  refine ⟨i,b,o,rfl,hlt,hA,?_⟩
  refine ⟨.int .u8 K[i].kind,hc 2 _ rfl,?_⟩
  refine brE_ndec (fun k0 => ?_) (fun k0 => ?_)
  ·have k0:¬ K[i].kind = 6:=k0
   refine ⟨_,next,?_⟩
   exact ⟨(i + 1,a,d),⟨rfl,rfl,rfl,rfl,rfl,trivial⟩,⟨rfl,hlt,miss (decide_eq_false fun hh => k0 hh.1)⟩,by show K.length - (i + 1) < K.length - i; omega⟩
  ·have k0:K[i].kind = 6:=k0
   refine ⟨i,b,o,rfl,hlt,hA,?_⟩
   refine ⟨.int .i64 K[i].who,hc 3 _ rfl,?_⟩
   refine brE_dec (fun k1 => ?_) (fun k1 => ?_)
   ·have k1:K[i].who = n:=k1
    have hh:=hit (decide_eq_true ⟨k0,.inl k1⟩)
    rw [if_pos k1] at hh
    refine ⟨i,b,o,rfl,hlt,hA,?_⟩
    refine ⟨.int .i64 K[i].other,hc 5 _ rfl,?_⟩
    refine ⟨_,next,?_⟩
    exact ⟨(i + 1,K[i].other,true),⟨rfl,rfl,rfl,rfl,rfl,trivial⟩,⟨rfl,hlt,hh⟩,by show K.length - (i + 1) < K.length - i; omega⟩
   ·have k1:¬ K[i].who = n:=k1
    refine ⟨i,b,o,rfl,hlt,hA,?_⟩
    refine ⟨.int .i64 K[i].other,hc 5 _ rfl,?_⟩
    refine brE_dec (fun k2 => ?_) (fun k2 => ?_)
    ·have k2:K[i].other = n:=k2
     have hh:=hit (decide_eq_true ⟨k0,.inr k2⟩)
     rw [if_neg k1] at hh
     refine ⟨i,b,o,rfl,hlt,hA,?_⟩
     refine ⟨.int .i64 K[i].who,hc 3 _ rfl,?_⟩
     refine ⟨_,next,?_⟩
     exact ⟨(i + 1,K[i].who,true),⟨rfl,rfl,rfl,rfl,rfl,trivial⟩,⟨rfl,hlt,hh⟩,by show K.length - (i + 1) < K.length - i; omega⟩
    ·have k2:¬ K[i].other = n:=k2
     refine ⟨_,next,?_⟩
     exact ⟨(i + 1,a,d),⟨rfl,rfl,rfl,rfl,rfl,trivial⟩,⟨rfl,hlt,miss (decide_eq_false fun hh => hh.2.elim k1 k2)⟩,by show K.length - (i + 1) < K.length - i; omega⟩
 ·have:i = K.length:=by have:¬ (i:Int) < (K.length:Nat):=hge; omega
  rw [this,List.take_length] at ha
  rw [<-ha]
  refine (refdead_spec hrK (by omega) n).mono ?_
  rintro _ w3 ⟨rfl,rfl⟩
  refine (refdead_spec hrK (by omega) a).mono ?_
  rintro _ w4 ⟨rfl,rfl⟩
  cases d with
  | false => exact ⟨rfl,e1⟩
  | true =>
   dsimp only
   cases hd1:deadB K n with
   | true => exact ⟨rfl,e1⟩
   | false =>
    cases hd2:deadB K a with
    | true => exact ⟨rfl,e1⟩
    | false => exact ⟨rfl,e1⟩
set_option maxRecDepth 100000 in
theorem refPrincipal_spec {w:World} {A:Option Addr} {l:List Fact} {c:Nat} (h:HF w A l c) (hl:l.length <= 2 ^ 20) (k day p:Int) :
  CallsV C.P 86 #[.slice A l.length c,.int .i64 k,.int .i64 day,.int .i64 p] w fun v w' => v = .tuple #[.int .i64 (princL (atL k day l) p).1,.bool (princL (atL k day l) p).2] ∧ Ext w w':=by
 refine callsV_of C_ok (args:=[_,_,_,_]) (plans:=[]) Tryz.func86 rfl Tryz.ntmps86 (by kernel_rfl) (Nat.le_of_ble_eq_true rfl) ?_
 refine (refAt_spec h hl k day).mono ?_
 rintro v0 w1 ⟨ho,e1⟩
 have hK:=atL_length k day l
 generalize atL k day l = K at *
 obtain ⟨AK,cK,rfl,hrK,_⟩:=ho.slice
 have hK2:K.length <= 2 ^ 20:=by omega
 have hother:∀ {q y:Int},nextL K q = some y -> y ∈ K.map Fact.other:=fun {q y} hn => by
  unfold nextL at hn
  obtain ⟨x,hx,rfl⟩:=Option.map_eq_some_iff.1 hn
  exact List.mem_map.2 ⟨x,(lastP_some hx).1,rfl⟩
 have hstart:princL K p = princAt K (K.length + 1 + 1) [] p:=rfl
 rw [princAt,if_neg (by simp)] at hstart
 intro g w2 h2
 have ho2:NewInts w1.heap.size w2 (.slice (some ⟨g,0,none⟩) 1 1) [p]:=owns_block (cs:=[.int .i64 p]) h2.here (by rw [h2.new]; exact Nat.le_refl _) rfl (by simp only [maxLen]; omega)
 refine (next1_spec (hrK.ext h2.ext) hK2 p).mono ?_
 rintro _ w3 ⟨rfl,rfl⟩
 cases hn:nextL K p with
 | none =>
  rw [hn] at hstart
  exact ⟨by rw [hstart]; rfl,e1.trans h2.ext⟩
 | some q0 =>
  rw [hn] at hstart
  have hstart:princL K p = princAt K (K.length + 2 - 1) [p] q0:=hstart
  refine loopE C_ok (fun (t:Value × List Int × Int) => [(10,.slice AK K.length cK),(11,t.1),(12,.int .i64 t.2.2)])
   (fun t w' => Ext w1 w' ∧ NewInts w1.heap.size w' t.1 t.2.1 ∧ t.2.1.Nodup ∧ (∀ x ∈ t.2.1,x ∈ p :: K.map Fact.other) ∧ t.2.2 ∈ p :: K.map Fact.other ∧ 1 <= t.2.1.length ∧ princL K p = princAt K (K.length + 2 - t.2.1.length) t.2.1 t.2.2) (fun t => K.length + 2 - t.2.1.length) (.slice (some ⟨g,0,none⟩) 1 1,[p],q0)
   ⟨rfl,rfl,rfl,trivial⟩ ⟨h2.ext,ho2,by simp,by simp,List.mem_cons_of_mem _ (hother hn),Nat.le_refl _,hstart⟩ ?_
  rintro ⟨v,met,q⟩ w4 ⟨e4',ho4',hnd',hsub',hq',h1',hpr'⟩
  have e4:Ext w1 w4:=e4'
  have ho4:NewInts w1.heap.size w4 v met:=ho4'
  have hnd:met.Nodup:=hnd'
  have hsub:∀ x ∈ met,x ∈ p :: K.map Fact.other:=hsub'
  have hq:q ∈ p :: K.map Fact.other:=hq'
  have h1:1 <= met.length:=h1'
  have hpr:princL K p = princAt K (K.length + 2 - met.length) met q:=hpr'
  clear e4' ho4' hnd' hsub' hq' h1' hpr'
  have hlen:=nodup_length_le hnd hsub
  simp only [List.length_cons,List.length_map] at hlen
  obtain ⟨n,hnn⟩:∃ n,K.length + 2 - met.length = n + 1:=⟨K.length + 1 - met.length,by omega⟩
  rw [hnn,princAt] at hpr
  obtain ⟨AM,cM,rfl,hrM,_⟩:=NewInts.slice ho4
  refine (in1_spec hrM (by omega) q).mono ?_
  rintro _ w5 ⟨rfl,rfl⟩
  refine brE_dec (fun a1 => ?_) (fun a1 => ?_)
  ·rw [if_pos a1] at hpr
   exact ⟨by rw [hpr],e1.trans e4⟩
  rw [if_neg a1] at hpr
  intro g6 w6 h6
  have ho6:=ho4.ext h6.ext
  have e6:=e4.trans h6.ext
  refine ⟨rfl,rfl,rfl,w1.heap.size,_,_,[.int .i64 q],ho6,e6.size,Nat.le_of_ble_eq_true rfl,rfl,rfl,.inr ⟨g6,0,rfl,Rd.of_block h6.here⟩,rfl,rfl,by omega,by simp only [maxLen]; omega,?_⟩
  intro v7 w7 ho7 hg7 _
  have e7:=app_ext e6 ho6 hg7
  have ho7:=newInts_snoc ho7
  refine (next1_spec (hrK.ext e7) hK2 q).mono ?_
  rintro _ w8 ⟨rfl,rfl⟩
  cases hn2:nextL K q with
  | none =>
   rw [hn2] at hpr
   have hpr:princL K p = if met.length = 0 then (0,false) else (q,true):=hpr
   rw [if_neg (by omega)] at hpr
   exact ⟨by rw [hpr],e1.trans e7⟩
  | some q2 =>
   rw [hn2] at hpr
   have hpr:princL K p = princAt K n (met ++ [q]) q2:=hpr
   have hlm:(met ++ [q]).length = met.length + 1:=by simp
   refine ⟨(v7,met ++ [q],q2),⟨rfl,rfl,rfl,trivial⟩,⟨e7,ho7,?_,?_,List.mem_cons_of_mem _ (hother hn2),by show 1 <= (met ++ [q]).length; omega,?_⟩,by show K.length + 2 - (met ++ [q]).length < K.length + 2 - met.length; omega⟩
   ·exact List.nodup_append.2 ⟨hnd,by simp,fun x hx y hy e => by rw [List.mem_singleton.1 hy] at e; subst e; exact a1 hx⟩
   ·intro x hx
    rcases List.mem_append.1 hx with hx | hx
    ·exact hsub x hx
    ·rw [List.mem_singleton.1 hx]; exact hq
   ·show princL K p = princAt K (K.length + 2 - (met ++ [q]).length) (met ++ [q]) q2
    rw [hlm,show K.length + 2 - (met.length + 1) = n by omega]
    exact hpr
end Go.Proofs.YtdpdjcopkehdjaaGreat
namespace Go.Proofs.YtdpdjcopkehdjaaGreat
open Go.Eng Go.RowKit
theorem held_more {X:List Fact} {host p s cl:Int} (h:cl ≠ 1):heldB X host p s cl = decide (p ∈ livingL X 2 s cl):=by unfold heldB; rw [if_neg h]
end Go.Proofs.YtdpdjcopkehdjaaGreat
namespace Go.Proofs.YtdpdjcopkehdjaaGreat
open Go.Eng Go.RowKit
theorem sortD_snoc (a:List Int) (x:Int):sortD (a ++ [x]) = insD x (sortD a):=by
 unfold sortD
 rw [List.foldl_append]; rfl
theorem filterMap_step {p:Fact -> Bool} {f:Fact -> Int} {K:List Fact} {i:Nat} (hi:i < K.length):((K.take (i + 1)).filter p).map f = ((K.take i).filter p).map f ++ if p K[i] = true then [f K[i]] else []:=by
 rw [List.take_succ_eq_append_getElem hi,List.filter_append,List.map_append,List.filter_cons,List.filter_nil]
 by_cases h:p K[i] = true
 ·rw [if_pos h,if_pos h]; rfl
 ·rw [if_neg h,if_neg h]; rfl
theorem sortF_length {p:Fact -> Bool} {f:Fact -> Int} {K:List Fact}:(sortD ((K.filter p).map f)).length <= K.length:=by
 have h1:=sortD_length ((K.filter p).map f)
 have h2:=List.length_filter_le p K
 rw [List.length_map] at h1
 omega
theorem living_length (X:List Fact) (k s cl:Int):(livingL X k s cl).length <= X.length:=sortF_length
theorem living_asc (X:List Fact) (k s cl:Int):(livingL X k s cl).Pairwise (· < ·):=sortD_asc _
set_option maxRecDepth 100000 in
theorem refStates_spec {w:World} {A:Option Addr} {l:List Fact} {c:Nat} (h:HF w A l c) (hl:l.length <= 2 ^ 20) (k day:Int) :
  CallsV C.P 150 #[.slice A l.length c,.int .i64 k,.int .i64 day] w fun v w' => NewInts w.heap.size w' v (statesL (atL k day l)) ∧ Ext w w':=by
 refine callsV_of C_ok (args:=[_,_,_]) (plans:=[]) Tryz.func150 rfl Tryz.ntmps150 (by kernel_rfl) (Nat.le_of_ble_eq_true rfl) ?_
 refine (refAt_spec h hl k day).mono ?_
 rintro v0 w1 ⟨ho,e1⟩
 have hK:=atL_length k day l
 generalize atL k day l = K at *
 obtain ⟨AK,cK,rfl,hrK,_⟩:=ho.slice
 unfold statesL whos
 refine loopE C_ok (fun (s:Nat × Value) => [(7,.slice AK K.length cK),(8,s.2),(9,.int .i64 s.1)])
  (fun s w' => s.1 <= K.length ∧ Ext w1 w' ∧ NewInts w1.heap.size w' s.2 (sortD (((K.take s.1).filter fun y => decide (y.kind = 1)).map Fact.who))) (fun s => K.length - s.1) (0,.slice none 0 0) ⟨rfl,rfl,rfl,trivial⟩ ⟨Nat.zero_le _,Ext.refl _,newInts_nil _ _⟩ ?_
 rintro ⟨i,v⟩ w2 ⟨hi',e2',ho'⟩
 have hi:i <= K.length:=hi'
 have e2:Ext w1 w2:=e2'
 have ho2:NewInts w1.heap.size w2 v (sortD (((K.take i).filter fun y => decide (y.kind = 1)).map Fact.who)):=ho'
 clear hi' ho' e2'
 refine brE_dec (fun hlt2 => ?_) (fun hge => ?_)
 ·have hlt:i < K.length:=by have:(i:Int) < (K.length:Nat):=hlt2; omega
  clear hlt2
  have next:IntKind.i64.wrap ((i:Int) + 1) = ((i + 1:Nat):Int):=fit ⟨by omega,by omega⟩
  obtain ⟨b,o,hA,hc⟩:=Reads.fact (hrK.ext e2) hlt
  have hst:=filterMap_step (p:=fun y => decide (y.kind = 1)) (f:=Fact.who) hlt
  have hln:=sortF_length (p:=fun y => decide (y.kind = 1)) (f:=Fact.who) (K:=K.take i)
  have htl:(K.take i).length <= K.length:=by rw [List.length_take]; omega
  refine ⟨i,b,o,rfl,hlt,hA,?_⟩
  refine ⟨.int .u8 K[i].kind,hc 2 _ rfl,?_⟩
  refine brE_dec (fun k0 => ?_) (fun k0 => ?_)
  ·have k0:K[i].kind = 1:=k0
   rw [if_pos (decide_eq_true k0)] at hst
   refine ⟨i,b,o,rfl,hlt,hA,?_⟩
   refine ⟨.int .i64 K[i].who,hc 3 _ rfl,?_⟩
   obtain ⟨AV,cV,rfl,hrV,_⟩:=NewInts.slice ho2
   refine (with_spec hrV (by omega) (sortD_asc _) K[i].who).mono ?_
   rintro v3 w3 ⟨ho3,e3⟩
   refine ⟨_,next,?_⟩
   exact ⟨(i + 1,v3),⟨rfl,rfl,rfl,trivial⟩,⟨hlt,e2.trans e3,by show NewInts w1.heap.size w3 v3 (sortD (((K.take (i + 1)).filter fun y => decide (y.kind = 1)).map Fact.who)); rw [hst,sortD_snoc]; exact ho3.base e2.size⟩,by show K.length - (i + 1) < K.length - i; omega⟩
  ·have k0:¬ K[i].kind = 1:=k0
   rw [if_neg (by simpa using k0),List.append_nil] at hst
   refine ⟨_,next,?_⟩
   exact ⟨(i + 1,v),⟨rfl,rfl,rfl,trivial⟩,⟨hlt,e2,by show NewInts w1.heap.size w2 v (sortD (((K.take (i + 1)).filter fun y => decide (y.kind = 1)).map Fact.who)); rw [hst]; exact ho2⟩,by show K.length - (i + 1) < K.length - i; omega⟩
 ·have:i = K.length:=by have:¬ (i:Int) < (K.length:Nat):=hge; omega
  rw [this,List.take_length] at ho2
  exact ⟨ho2.base e1.size,e1.trans e2⟩
set_option maxRecDepth 100000 in
theorem office_spec {w:World} {A:Option Addr} {l:List Fact} {c:Nat} (h:HF w A l c) (hl:l.length <= 2 ^ 20) (k day kk s0 cl:Int) :
  CallsV C.P 222 #[.slice A l.length c,.int .i64 k,.int .i64 day,.int .u8 kk,.int .i64 s0,.int .i64 cl] w fun v w' => NewInts w.heap.size w' v (livingL (atL k day l) kk s0 cl) ∧ Ext w w':=by
 refine callsV_of C_ok (args:=[_,_,_,_,_,_]) (plans:=[]) Tryz.func222 rfl Tryz.ntmps222 (by kernel_rfl) (Nat.le_of_ble_eq_true rfl) ?_
 refine (refAt_spec h hl k day).mono ?_
 rintro v0 w1 ⟨ho,e1⟩
 have hK:=atL_length k day l
 generalize atL k day l = K at *
 obtain ⟨AK,cK,rfl,hrK,_⟩:=ho.slice
 unfold livingL
 refine loopE C_ok (fun (s:Nat × Value) => [(3,.int .u8 kk),(4,.int .i64 s0),(5,.int .i64 cl),(13,.slice AK K.length cK),(14,s.2),(15,.int .i64 s.1)])
  (fun s w' => s.1 <= K.length ∧ Ext w1 w' ∧ NewInts w1.heap.size w' s.2 (sortD (((K.take s.1).filter (livesB K kk s0 cl)).map Fact.who))) (fun s => K.length - s.1) (0,.slice none 0 0) ⟨rfl,rfl,rfl,rfl,rfl,rfl,trivial⟩ ⟨Nat.zero_le _,Ext.refl _,newInts_nil _ _⟩ ?_
 rintro ⟨i,v⟩ w2 ⟨hi',e2',ho'⟩
 have hi:i <= K.length:=hi'
 have e2:Ext w1 w2:=e2'
 have ho2:NewInts w1.heap.size w2 v (sortD (((K.take i).filter (livesB K kk s0 cl)).map Fact.who)):=ho'
 clear hi' ho' e2'
 refine brE_dec (fun hlt2 => ?_) (fun hge => ?_)
 ·have hlt:i < K.length:=by have:(i:Int) < (K.length:Nat):=hlt2; omega
  clear hlt2
  have next:IntKind.i64.wrap ((i:Int) + 1) = ((i + 1:Nat):Int):=fit ⟨by omega,by omega⟩
  obtain ⟨b,o,hA,hc⟩:=Reads.fact (hrK.ext e2) hlt
  have hst:=filterMap_step (p:=livesB K kk s0 cl) (f:=Fact.who) hlt
  have hln:=sortF_length (p:=livesB K kk s0 cl) (f:=Fact.who) (K:=K.take i)
  have htl:(K.take i).length <= K.length:=by rw [List.length_take]; omega
  have miss:livesB K kk s0 cl K[i] = false -> i + 1 <= K.length ∧ Ext w1 w2 ∧ NewInts w1.heap.size w2 v (sortD (((K.take (i + 1)).filter (livesB K kk s0 cl)).map Fact.who)):=fun hf => by
   rw [hf,if_neg (by decide),List.append_nil] at hst
   exact ⟨hlt,e2,by rw [hst]; exact ho2⟩
  refine ⟨i,b,o,rfl,hlt,hA,?_⟩
  refine ⟨.int .i64 K[i].who,hc 3 _ rfl,?_⟩
  refine (refdead_spec (hrK.ext e2) (by omega) K[i].who).mono ?_
  rintro _ w3 ⟨rfl,rfl⟩
  refine ⟨i,b,o,rfl,hlt,hA,?_⟩
  refine ⟨.int .u8 K[i].kind,hc 2 _ rfl,?_⟩
  refine brE_dec (fun k0 => ?_) (fun k0 => ?_)
  ·have k0:K[i].kind = kk:=k0
   refine ⟨i,b,o,rfl,hlt,hA,?_⟩
   refine ⟨.int .i64 K[i].what,hc 4 _ rfl,?_⟩
   refine brE_dec (fun k1 => ?_) (fun k1 => ?_)
   ·have k1:K[i].what = s0:=k1
    refine ⟨i,b,o,rfl,hlt,hA,?_⟩
    refine ⟨.int .i64 K[i].other,hc 5 _ rfl,?_⟩
    refine brE_dec (fun k2 => ?_) (fun k2 => ?_)
    ·have k2:K[i].other = cl:=k2
     cases hd:deadB K K[i].who with
     | true =>
      refine ⟨_,next,?_⟩
      exact ⟨(i + 1,v),⟨rfl,rfl,rfl,rfl,rfl,rfl,trivial⟩,miss (by unfold livesB; rw [hd,Bool.and_comm]; rfl),by show K.length - (i + 1) < K.length - i; omega⟩
     | false =>
      have hp:livesB K kk s0 cl K[i] = true:=by unfold livesB; rw [hd,decide_eq_true ⟨k0,k1,k2⟩]; rfl
      rw [if_pos hp] at hst
      refine ⟨i,b,o,rfl,hlt,hA,?_⟩
      refine ⟨.int .i64 K[i].who,hc 3 _ rfl,?_⟩
      obtain ⟨AV,cV,rfl,hrV,_⟩:=NewInts.slice ho2
      refine (with_spec hrV (by omega) (sortD_asc _) K[i].who).mono ?_
      rintro v4 w4 ⟨ho4,e4⟩
      refine ⟨_,next,?_⟩
      exact ⟨(i + 1,v4),⟨rfl,rfl,rfl,rfl,rfl,rfl,trivial⟩,⟨hlt,e2.trans e4,by show NewInts w1.heap.size w4 v4 (sortD (((K.take (i + 1)).filter (livesB K kk s0 cl)).map Fact.who)); rw [hst,sortD_snoc]; exact ho4.base e2.size⟩,by show K.length - (i + 1) < K.length - i; omega⟩
    ·have k2:¬ K[i].other = cl:=k2
     refine ⟨_,next,?_⟩
     exact ⟨(i + 1,v),⟨rfl,rfl,rfl,rfl,rfl,rfl,trivial⟩,miss (by unfold livesB; rw [decide_eq_false fun hh => k2 hh.2.2]; rfl),by show K.length - (i + 1) < K.length - i; omega⟩
   ·have k1:¬ K[i].what = s0:=k1
    refine ⟨_,next,?_⟩
    exact ⟨(i + 1,v),⟨rfl,rfl,rfl,rfl,rfl,rfl,trivial⟩,miss (by unfold livesB; rw [decide_eq_false fun hh => k1 hh.2.1]; rfl),by show K.length - (i + 1) < K.length - i; omega⟩
  ·have k0:¬ K[i].kind = kk:=k0
   refine ⟨_,next,?_⟩
   exact ⟨(i + 1,v),⟨rfl,rfl,rfl,rfl,rfl,rfl,trivial⟩,miss (by unfold livesB; rw [decide_eq_false fun hh => k0 hh.1]; rfl),by show K.length - (i + 1) < K.length - i; omega⟩
 ·have:i = K.length:=by have:¬ (i:Int) < (K.length:Nat):=hge; omega
  rw [this,List.take_length] at ho2
  exact ⟨ho2.base e1.size,e1.trans e2⟩
theorem refHolders_spec {w:World} {A:Option Addr} {l:List Fact} {c:Nat} (h:HF w A l c) (hl:l.length <= 2 ^ 20) (k day s0 cl:Int) :
  CallsV C.P 146 #[.slice A l.length c,.int .i64 k,.int .i64 day,.int .i64 s0,.int .i64 cl] w fun v w' => NewInts w.heap.size w' v (livingL (atL k day l) 2 s0 cl) ∧ Ext w w':=by
 refine callsV_of C_ok (args:=[_,_,_,_,_]) (plans:=[]) Tryz.func146 rfl Tryz.ntmps146 (by kernel_rfl) (Nat.le_of_ble_eq_true rfl) ?_
 refine (office_spec h hl k day 2 s0 cl).mono ?_
 rintro v w1 hh
 exact hh
theorem refActing_spec {w:World} {A:Option Addr} {l:List Fact} {c:Nat} (h:HF w A l c) (hl:l.length <= 2 ^ 20) (k day s0 cl:Int) :
  CallsV C.P 147 #[.slice A l.length c,.int .i64 k,.int .i64 day,.int .i64 s0,.int .i64 cl] w fun v w' => NewInts w.heap.size w' v (livingL (atL k day l) 3 s0 cl) ∧ Ext w w':=by
 refine callsV_of C_ok (args:=[_,_,_,_,_]) (plans:=[]) Tryz.func147 rfl Tryz.ntmps147 (by kernel_rfl) (Nat.le_of_ble_eq_true rfl) ?_
 refine (office_spec h hl k day 3 s0 cl).mono ?_
 rintro v w1 hh
 exact hh
end Go.Proofs.YtdpdjcopkehdjaaGreat
namespace Go.Proofs.YtdpdjcopkehdjaaGreat
open Go.Eng Go.RowKit
def Chosen (K:List Fact) (host s0:Int) (H:List Int) (i j:Nat) (M:List Int):Prop :=
 M.Pairwise (· < ·) ∧ ∀ x,x ∈ M <-> (x ∈ H.take i ∧ K.any (recogB host s0 x) = true) ∨ (∃ hi:i < H.length,x = H[i] ∧ (K.take j).any (recogB host s0 x) = true)
theorem Chosen.next {K:List Fact} {host s0:Int} {H M:List Int} {i:Nat} (hi:i < H.length) (h:Chosen K host s0 H i K.length M):Chosen K host s0 H (i + 1) 0 M:=by
 refine ⟨h.1,fun x => ?_⟩
 rw [h.2,List.take_succ_eq_append_getElem hi,List.take_length]
 constructor
 ·rintro (⟨h1,h2⟩ | ⟨_,h1,h2⟩)
  ·exact .inl ⟨List.mem_append_left _ h1,h2⟩
  ·exact .inl ⟨List.mem_append_right _ (by rw [h1]; simp),h2⟩
 ·rintro (⟨h1,h2⟩ | ⟨_,_,h2⟩)
  ·rcases List.mem_append.1 h1 with h1 | h1
   ·exact .inl ⟨h1,h2⟩
   ·exact .inr ⟨hi,List.mem_singleton.1 h1,h2⟩
  ·simp at h2
theorem Chosen.miss {K:List Fact} {host s0:Int} {H M:List Int} {i j:Nat} (hi:i < H.length) (hj:j < K.length) (hm:recogB host s0 H[i] K[j] = false) (h:Chosen K host s0 H i j M):Chosen K host s0 H i (j + 1) M:=by
 refine ⟨h.1,fun x => ?_⟩
 rw [h.2]
 refine or_congr Iff.rfl ⟨fun ⟨a,b,d⟩ => ⟨a,b,?_⟩,fun ⟨a,b,d⟩ => ⟨a,b,?_⟩⟩
 ·rw [any_step hj,d]; rfl
 ·rw [any_step hj] at d
  rw [b,hm,Bool.or_false] at d
  rw [b]; exact d
theorem Chosen.hit {K:List Fact} {host s0:Int} {H M:List Int} {i j:Nat} (hi:i < H.length) (hj:j < K.length) (hm:recogB host s0 H[i] K[j] = true) (h:Chosen K host s0 H i j M):Chosen K host s0 H i (j + 1) (insD H[i] M):=by
 refine ⟨insD_asc h.1,fun x => ?_⟩
 rw [mem_insD,h.2]
 constructor
 ·rintro (rfl | h1 | ⟨_,h1,h2⟩)
  ·exact .inr ⟨hi,rfl,by rw [any_step hj,hm,Bool.or_true]⟩
  ·exact .inl h1
  ·exact .inr ⟨hi,h1,by rw [any_step hj,h2]; rfl⟩
 ·rintro (h1 | ⟨_,h1,h2⟩)
  ·exact .inr (.inl h1)
  ·exact .inl h1
theorem Chosen.length {K:List Fact} {host s0:Int} {H M:List Int} {i j:Nat} (h:Chosen K host s0 H i j M):M.length <= H.length:=by
 refine asc_length h.1 fun x hx => ?_
 rcases (h.2 x).1 hx with ⟨h1,_⟩ | ⟨hi,h1,_⟩
 ·exact List.mem_of_mem_take h1
 ·rw [h1]; exact List.getElem_mem hi
theorem Chosen.final {K:List Fact} {host s0:Int} {M:List Int} (h:Chosen K host s0 (livingL K 2 s0 1) (livingL K 2 s0 1).length 0 M):M = (livingL K 2 s0 1).filter fun p => K.any (recogB host s0 p):=by
 refine asc_eq h.1 ((living_asc K 2 s0 1).filter _) fun x => ?_
 rw [h.2,List.take_length,List.mem_filter]
 constructor
 ·rintro (h | ⟨hi,_⟩)
  ·exact h
  ·exact absurd hi (Nat.lt_irrefl _)
 ·exact .inl
def oneOf:List Int -> Int × Bool
 | [p] => (p,true)
 | _ => (0,false)
theorem recog_ref {K:List Fact} {host s0:Int} (h:¬ (livingL K 2 s0 1).length = 1) {M:List Int} (hM:M = (livingL K 2 s0 1).filter fun p => K.any (recogB host s0 p)):recogL K host s0 = oneOf M:=by
 have hdef:recogL K host s0 = oneOf (chosenL K host s0):=rfl
 rw [hdef]
 unfold chosenL
 by_cases h1:1 < (livingL K 2 s0 1).length
 ·rw [if_pos h1,hM]
 ·have:livingL K 2 s0 1 = []:=List.length_eq_zero_iff.1 (by omega)
  rw [if_neg h1,hM,this]; rfl
set_option maxRecDepth 100000 in
theorem refRecognised_spec {w:World} {A:Option Addr} {l:List Fact} {c:Nat} (h:HF w A l c) (hl:l.length <= 2 ^ 20) (k day host s0:Int) :
  CallsV C.P 148 #[.slice A l.length c,.int .i64 k,.int .i64 day,.int .i64 host,.int .i64 s0] w fun v w' => v = .tuple #[.int .i64 (recogL (atL k day l) host s0).1,.bool (recogL (atL k day l) host s0).2] ∧ Ext w w':=by
 refine callsV_of C_ok (args:=[_,_,_,_,_]) (plans:=plans148) Tryz.func148 rfl Tryz.ntmps148 (by kernel_rfl) (Nat.le_of_ble_eq_true rfl) ?_
 refine (refHolders_spec h hl k day s0 1).mono ?_
 rintro v1 w1 ⟨ho1,e1⟩
 have hK:=atL_length k day l
 have hH:=living_length (atL k day l) 2 s0 1
 have hchosen:∀ M:List Int,M = (livingL (atL k day l) 2 s0 1).filter (fun p => (atL k day l).any (recogB host s0 p)) -> ¬ (livingL (atL k day l) 2 s0 1).length = 1 -> recogL (atL k day l) host s0 = oneOf M:=fun M hM h1 => recog_ref h1 hM
 obtain ⟨AH,cH,rfl,hrH,_⟩:=NewInts.slice ho1
 refine brE_dec (fun h1 => ?_) (fun h1 => ?_)
 ·have h1:((livingL (atL k day l) 2 s0 1).length:Int) = 1:=h1
  obtain ⟨p,hp⟩:=List.length_eq_one_iff.1 (show (livingL (atL k day l) 2 s0 1).length = 1 by omega)
  have hlt:0 < (livingL (atL k day l) 2 s0 1).length:=by omega
  obtain ⟨b,o,hA,hc⟩:=Reads.int hrH hlt
  refine ⟨0,b,o,rfl,hlt,hA,?_⟩
  refine ⟨_,by simpa using hc,?_⟩
  refine ⟨?_,e1⟩
  have hr:recogL (atL k day l) host s0 = (p,true):=by
   unfold recogL chosenL
   rw [if_neg (by omega),hp]
  rw [hr]
  simp only [hp,List.getElem_cons_zero]
 have h1:¬ ((livingL (atL k day l) 2 s0 1).length:Int) = 1:=h1
 refine (refAt_spec (h.ext e1) hl k day).mono ?_
 rintro v2 w2 ⟨ho2,e2⟩
 have hfin:∀ {M:List Int},Chosen (atL k day l) host s0 (livingL (atL k day l) 2 s0 1) (livingL (atL k day l) 2 s0 1).length 0 M -> recogL (atL k day l) host s0 = oneOf M:=fun hM => hchosen _ hM.final (by omega)
 have hrH2:=hrH.ext e2
 have e02:=e1.trans e2
 clear hchosen ho1 hrH e1 e2
 generalize livingL (atL k day l) 2 s0 1 = H at *
 generalize atL k day l = K at *
 obtain ⟨AK,cK,rfl,hrK,_⟩:=ho2.slice
 refine loopE C_ok (fun (s:Nat × Value × List Int) => [(3,.int .i64 host),(4,.int .i64 s0),(12,.slice AH H.length cH),(13,.slice AK K.length cK),(14,s.2.1),(15,.int .i64 s.1)])
  (fun s w' => s.1 <= H.length ∧ Ext w2 w' ∧ NewInts w2.heap.size w' s.2.1 s.2.2 ∧ Chosen K host s0 H s.1 0 s.2.2) (fun s => H.length - s.1) (0,.slice none 0 0,[])
  ⟨rfl,rfl,rfl,rfl,rfl,rfl,trivial⟩ ⟨Nat.zero_le _,Ext.refl _,newInts_nil _ _,List.Pairwise.nil,fun x => by simp⟩ ?_
 rintro ⟨i,v,M⟩ w3 ⟨hi',e3',ho3',hM'⟩
 have hi:i <= H.length:=hi'
 have e3:Ext w2 w3:=e3'
 have ho3:NewInts w2.heap.size w3 v M:=ho3'
 have hM:Chosen K host s0 H i 0 M:=hM'
 clear hi' e3' ho3' hM'
 refine brE_dec (fun hlt2 => ?_) (fun hge => ?_)
 ·have hlt:i < H.length:=by have:(i:Int) < (H.length:Nat):=hlt2; omega
  clear hlt2
  have next:IntKind.i64.wrap ((i:Int) + 1) = ((i + 1:Nat):Int):=fit ⟨by omega,by omega⟩
  refine loopE C_ok (fun (s:Nat × Value × List Int) => [(3,.int .i64 host),(4,.int .i64 s0),(12,.slice AH H.length cH),(13,.slice AK K.length cK),(14,s.2.1),(15,.int .i64 i),(16,.int .i64 s.1)])
   (fun s w' => s.1 <= K.length ∧ Ext w2 w' ∧ NewInts w2.heap.size w' s.2.1 s.2.2 ∧ Chosen K host s0 H i s.1 s.2.2) (fun s => K.length - s.1) (0,v,M)
   ⟨rfl,rfl,rfl,rfl,rfl,rfl,rfl,trivial⟩ ⟨Nat.zero_le _,e3,ho3,hM⟩ ?_
  rintro ⟨j,v,M⟩ w4 ⟨hj',e4',ho4',hM'⟩
  have hj:j <= K.length:=hj'
  have e4:Ext w2 w4:=e4'
  have ho4:NewInts w2.heap.size w4 v M:=ho4'
  have hM:Chosen K host s0 H i j M:=hM'
  clear hj' e4' ho4' hM'
  refine brE_dec (fun hjl2 => ?_) (fun hjl => ?_)
  ·have hjl:j < K.length:=by have:(j:Int) < (K.length:Nat):=hjl2; omega
   clear hjl2
   have next2:IntKind.i64.wrap ((j:Int) + 1) = ((j + 1:Nat):Int):=fit ⟨by omega,by omega⟩
   obtain ⟨b,o,hA,hc⟩:=Reads.fact (hrK.ext e4) hjl
   have miss:recogB host s0 H[i] K[j] = false -> j + 1 <= K.length ∧ Ext w2 w4 ∧ NewInts w2.heap.size w4 v M ∧ Chosen K host s0 H i (j + 1) M:=fun hf => ⟨hjl,e4,ho4,hM.miss hlt hjl hf⟩
   refine ⟨j,b,o,rfl,hjl,hA,?_⟩
   refine ⟨.int .u8 K[j].kind,hc 2 _ rfl,?_⟩
   refine brE_dec (fun k0 => ?_) (fun k0 => ?_)
   ·have k0:K[j].kind = 4:=k0
    refine ⟨j,b,o,rfl,hjl,hA,?_⟩
    refine ⟨.int .i64 K[j].who,hc 3 _ rfl,?_⟩
    refine brE_dec (fun k1 => ?_) (fun k1 => ?_)
    ·have k1:K[j].who = host:=k1
     refine ⟨j,b,o,rfl,hjl,hA,?_⟩
     refine ⟨.int .i64 K[j].what,hc 4 _ rfl,?_⟩
     refine brE_dec (fun k2 => ?_) (fun k2 => ?_)
     ·have k2:K[j].what = s0:=k2
      obtain ⟨bH,oH,hAH,hcH⟩:=Reads.int (hrH2.ext e4) hlt
      refine ⟨j,b,o,rfl,hjl,hA,?_⟩
      refine ⟨.int .i64 K[j].other,hc 5 _ rfl,?_⟩
      refine ⟨i,bH,oH,rfl,hlt,hAH,?_⟩
      refine ⟨_,by simpa using hcH,?_⟩
      refine brE_dec (fun k3 => ?_) (fun k3 => ?_)
      ·have k3:K[j].other = H[i]:=k3
       have hhit:=hM.hit hlt hjl (decide_eq_true ⟨k0,k1,k2,k3⟩)
       have hml:=hM.length
       obtain ⟨AV,cV,rfl,hrV,_⟩:=NewInts.slice ho4
       refine ⟨i,bH,oH,rfl,hlt,hAH,?_⟩
       refine ⟨_,by simpa using hcH,?_⟩
       refine (with_spec hrV (by omega) hM.1 H[i]).mono ?_
       rintro v5 w5 ⟨ho5,e5⟩
       refine ⟨_,next2,?_⟩
       exact ⟨(j + 1,v5,insD H[i] M),⟨rfl,rfl,rfl,rfl,rfl,rfl,rfl,trivial⟩,⟨hjl,e4.trans e5,ho5.base e4.size,hhit⟩,by show K.length - (j + 1) < K.length - j; omega⟩
      ·have k3:¬ K[j].other = H[i]:=k3
       refine ⟨_,next2,?_⟩
       exact ⟨(j + 1,v,M),⟨rfl,rfl,rfl,rfl,rfl,rfl,rfl,trivial⟩,miss (decide_eq_false fun hh => k3 hh.2.2.2),by show K.length - (j + 1) < K.length - j; omega⟩
     ·have k2:¬ K[j].what = s0:=k2
      refine ⟨_,next2,?_⟩
      exact ⟨(j + 1,v,M),⟨rfl,rfl,rfl,rfl,rfl,rfl,rfl,trivial⟩,miss (decide_eq_false fun hh => k2 hh.2.2.1),by show K.length - (j + 1) < K.length - j; omega⟩
    ·have k1:¬ K[j].who = host:=k1
     refine ⟨_,next2,?_⟩
     exact ⟨(j + 1,v,M),⟨rfl,rfl,rfl,rfl,rfl,rfl,rfl,trivial⟩,miss (decide_eq_false fun hh => k1 hh.2.1),by show K.length - (j + 1) < K.length - j; omega⟩
   ·have k0:¬ K[j].kind = 4:=k0
    refine ⟨_,next2,?_⟩
    exact ⟨(j + 1,v,M),⟨rfl,rfl,rfl,rfl,rfl,rfl,rfl,trivial⟩,miss (decide_eq_false fun hh => k0 hh.1),by show K.length - (j + 1) < K.length - j; omega⟩
  ·have:j = K.length:=by have:¬ (j:Int) < (K.length:Nat):=hjl; omega
   rw [this] at hM
   refine ⟨_,next,?_⟩
   exact ⟨(i + 1,v,M),⟨rfl,rfl,rfl,rfl,rfl,rfl,trivial⟩,⟨hlt,e4,ho4,hM.next hlt⟩,by show H.length - (i + 1) < H.length - i; omega⟩
 ·have:i = H.length:=by have:¬ (i:Int) < (H.length:Nat):=hge; omega
  rw [this] at hM
  have hr:=hfin hM
  obtain ⟨AM,cM,rfl,hrM,_⟩:=NewInts.slice ho3
  refine brE_dec (fun hm => ?_) (fun hm => ?_)
  ·have hm:(M.length:Int) = 1:=hm
   obtain ⟨p,rfl⟩:=List.length_eq_one_iff.1 (show M.length = 1 by omega)
   obtain ⟨b,o,hA,hc⟩:=Reads.int hrM (show 0 < ([p]:List Int).length by simp)
   refine ⟨0,b,o,rfl,by simp,hA,?_⟩
   refine ⟨_,by simpa using hc,?_⟩
   exact ⟨by rw [hr]; rfl,e02.trans e3⟩
  ·have hm:¬ (M.length:Int) = 1:=hm
   refine ⟨?_,e02.trans e3⟩
   rw [hr]
   match M,hm with
   | [],_ => rfl
   | [p],hm => exact absurd rfl hm
   | p :: q :: r,_ => rfl
theorem four_drop {i:Nat} (h1:1 <= i) (h5:i < 5):([1,2,3,4]:List Int).drop (i - 1) = (i:Int) :: ([1,2,3,4]:List Int).drop i:=by
 obtain rfl | rfl | rfl | rfl:i = 1 ∨ i = 2 ∨ i = 3 ∨ i = 4:=by omega
 all_goals rfl
set_option maxRecDepth 100000 in
theorem refClass_spec {w:World} {A:Option Addr} {l:List Fact} {c:Nat} (h:HF w A l c) (hl:l.length <= 2 ^ 20) (k day host n s0:Int) :
  CallsV C.P 87 #[.slice A l.length c,.int .i64 k,.int .i64 day,.int .i64 host,.int .i64 n,.int .i64 s0] w fun v w' => v = .tuple #[.int .i64 (classL (atL k day l) host n s0).1,.bool (classL (atL k day l) host n s0).2] ∧ Ext w w':=by
 refine callsV_of C_ok (args:=[_,_,_,_,_,_]) (plans:=[]) Tryz.func87 rfl Tryz.ntmps87 (by kernel_rfl) (Nat.le_of_ble_eq_true rfl) ?_
 have hK:=atL_length k day l
 refine loopE C_ok (fun (i:Nat) => [(0,.slice A l.length c),(1,.int .i64 k),(2,.int .i64 day),(3,.int .i64 host),(4,.int .i64 n),(5,.int .i64 s0),(14,.int .i64 i)])
  (fun i w' => 1 <= i ∧ i <= 5 ∧ Ext w w' ∧ classL (atL k day l) host n s0 = classAt (atL k day l) host n s0 (([1,2,3,4]:List Int).drop (i - 1))) (fun i => 5 - i) 1 ⟨rfl,rfl,rfl,rfl,rfl,rfl,rfl,trivial⟩ ⟨Nat.le_refl _,by omega,Ext.refl _,rfl⟩ ?_
 rintro i w1 ⟨h1,h5,e1,hs⟩
 refine brE_dec (fun hlt2 => ?_) (fun hge => ?_)
 ·have hlt:i < 5:=by have:(i:Int) < 5:=hlt2; omega
  rw [four_drop h1 hlt,classAt] at hs
  have next:IntKind.i64.wrap ((i:Int) + 1) = ((i + 1:Nat):Int):=fit ⟨by omega,by omega⟩
  refine (refHolders_spec (h.ext e1) hl k day s0 i).mono ?_
  rintro v2 w2 ⟨ho2,e2⟩
  refine (refActing_spec (h.ext (e1.trans e2)) hl k day s0 i).mono ?_
  rintro v3 w3 ⟨ho3,e3⟩
  have l2:=living_length (atL k day l) 2 s0 i
  have l3:=living_length (atL k day l) 3 s0 i
  obtain ⟨A2,c2,rfl,hr2,_⟩:=NewInts.slice ho2
  obtain ⟨A3,c3,rfl,hr3,_⟩:=NewInts.slice ho3
  refine (in1_spec (hr2.ext e3) (by omega) n).mono ?_
  rintro _ w4 ⟨rfl,rfl⟩
  refine (in1_spec hr3 (by omega) n).mono ?_
  rintro _ w5 ⟨rfl,rfl⟩
  have e5:=(e1.trans e2).trans e3
  have hacts:decide (n ∈ livingL (atL k day l) 3 s0 (i:Int)) = actsB (atL k day l) n s0 i:=rfl
  rw [hacts]
  have hnot:∀ {w':World},Ext w w' -> heldB (atL k day l) host n s0 i = false -> actsB (atL k day l) n s0 i = false -> 1 <= i + 1 ∧ i + 1 <= 5 ∧ Ext w w' ∧ classL (atL k day l) host n s0 = classAt (atL k day l) host n s0 (([1,2,3,4]:List Int).drop (i + 1 - 1)):=fun e a b => by
   rw [a,b,if_neg (by decide)] at hs
   exact ⟨by omega,by omega,e,hs⟩
  have hyes:∀ b:Bool,heldB (atL k day l) host n s0 i = b -> (b || actsB (atL k day l) n s0 i) = true -> classL (atL k day l) host n s0 = ((i:Int),!b):=fun b hb ha => by
   rw [hb,if_pos ha] at hs; exact hs
  refine brE_dec (fun hone => ?_) (fun hone => ?_)
  ·have hone:(i:Int) = 1:=hone
   have hheld:heldB (atL k day l) host n s0 i = decide (recogL (atL k day l) host s0 = (n,true)):=by rw [hone]; rfl
   refine (refRecognised_spec (h.ext e5) hl k day host s0).mono ?_
   rintro _ w6 ⟨rfl,e6⟩
   have e06:=e5.trans e6
   cases hr:recogL (atL k day l) host s0 with
   | mk p ok =>
   rw [hr] at hheld
   cases ok with
   | true =>
    have hh:decide (p = n) = heldB (atL k day l) host n s0 i:=by
     rw [hheld]; simp
    refine brE_dec (fun hpn => ?_) (fun hpn => ?_)
    ·have hpn:p = n:=hpn
     rw [decide_eq_true hpn] at hh
     exact ⟨by rw [hyes true hh.symm rfl,decide_eq_true hpn] <;> rfl,e06⟩
    ·have hpn:¬ p = n:=hpn
     rw [decide_eq_false hpn] at hh
     cases ha:actsB (atL k day l) n s0 i with
     | true => exact ⟨by rw [hyes false hh.symm ha,decide_eq_false hpn] <;> rfl,e06⟩
     | false =>
      refine ⟨_,next,?_⟩
      exact ⟨i + 1,⟨rfl,rfl,rfl,rfl,rfl,rfl,rfl,trivial⟩,hnot e06 hh.symm ha,by omega⟩
   | false =>
    have hb:heldB (atL k day l) host n s0 i = false:=by rw [hheld]; simp
    cases ha:actsB (atL k day l) n s0 i with
    | true => exact ⟨by rw [hyes false hb ha] <;> rfl,e06⟩
    | false =>
     refine ⟨_,next,?_⟩
     exact ⟨i + 1,⟨rfl,rfl,rfl,rfl,rfl,rfl,rfl,trivial⟩,hnot e06 hb ha,by omega⟩
  ·have hone:¬ (i:Int) = 1:=hone
   rw [<-held_more (host:=host) hone]
   cases hb:heldB (atL k day l) host n s0 i with
   | true => exact ⟨by rw [hyes true hb rfl] <;> rfl,e5⟩
   | false =>
    cases ha:actsB (atL k day l) n s0 i with
    | true => exact ⟨by rw [hyes false hb ha] <;> rfl,e5⟩
    | false =>
     refine ⟨_,next,?_⟩
     exact ⟨i + 1,⟨rfl,rfl,rfl,rfl,rfl,rfl,rfl,trivial⟩,hnot e5 hb ha,by omega⟩
 ·have:i = 5:=by have:¬ (i:Int) < 5:=hge; omega
  subst this
  exact ⟨by rw [hs]; rfl,e1⟩
end Go.Proofs.YtdpdjcopkehdjaaGreat
namespace Go.Proofs.YtdpdjcopkehdjaaGreat
open Go.Eng Go.RowKit
theorem str_nil (s:ByteArray):decide (s = (⟨#[]⟩:ByteArray)) = decide (s.data.toList = []):=by
 rw [Bool.eq_iff_iff,decide_eq_true_eq,decide_eq_true_eq]
 constructor
 ·intro h; rw [h]
 ·intro h
  have:s.data = #[]:=Array.toList_eq_nil_iff.1 h
  exact congrArg ByteArray.mk this
theorem str_eq (s t:ByteArray):s = t <-> s.data.toList = t.data.toList:=by
 constructor
 ·intro h; rw [h]
 ·intro h
  exact congrArg ByteArray.mk (Array.toList_inj.1 h)
set_option maxRecDepth 100000 in
theorem ahead_spec (a:Int) (s:ByteArray) (b:Int) (t:ByteArray) (w:World) :
  CallsV C.P 152 #[.int .i64 a,.string s,.int .i64 b,.string t] w fun v w' => v = .bool (aheadK s.data.toList a t.data.toList b) ∧ w' = w:=by
 refine callsV_of C_ok (args:=[_,_,_,_]) (plans:=[]) Tryz.func152 rfl Tryz.ntmps152 (by kernel_rfl) (Nat.le_of_ble_eq_true rfl) ?_
 unfold aheadK
 refine ⟨_,eqStr _ _ s ⟨#[]⟩,?_⟩
 refine ⟨_,eqStr _ _ t ⟨#[]⟩,?_⟩
 refine ⟨_,neqBool _ _ _ _,?_⟩
 rw [str_nil,str_nil]
 refine brE_mk (fun h1 => ?_) (fun h1 => ?_)
 ·rw [if_pos h1]
  refine ⟨_,eqStr _ _ t ⟨#[]⟩,?_⟩
  exact ⟨by rw [str_nil],rfl⟩
 rw [if_neg (by rw [h1]; decide)]
 refine ⟨_,neqStr _ _ s t,?_⟩
 refine brE_ndec (fun h2 => ?_) (fun h2 => ?_)
 ·have h2:¬ s = t:=h2
  rw [if_neg (fun e => h2 ((str_eq s t).2 e))]
  refine ⟨_,ltStr _ s t,⟨by decide,by decide⟩,?_⟩
  exact ⟨rfl,rfl⟩
 ·have h2:s = t:=h2
  rw [if_pos ((str_eq s t).1 h2)]
  exact ⟨rfl,rfl⟩
structure Picked (K:List Fact) (lang:Int) (o:List Int):Prop where
 sorted:o.Pairwise fun x y => aheadB K lang x y = true
 sub:∀ x ∈ o,x ∈ statesL K
 rest:∀ x ∈ o,∀ y ∈ statesL K,y ∉ o -> aheadB K lang x y = true
theorem Picked.nodup {K:List Fact} {lang:Int} {o:List Int} (h:Picked K lang o):o.Nodup:=h.sorted.imp fun {a b} hab e => by subst e; rw [aheadB_irrefl] at hab; cases hab
theorem Picked.length {K:List Fact} {lang:Int} {o:List Int} (h:Picked K lang o):o.length <= (statesL K).length:=nodup_length_le h.nodup h.sub
theorem Picked.all {K:List Fact} {lang:Int} {o:List Int} (h:Picked K lang o) (hl:(statesL K).length <= o.length):o = orderL K lang:=by
 refine order_eq ?_ (h.sorted.imp fun {a b} hab => ?_)
 ·refine (List.perm_ext_iff_of_nodup h.nodup (statesL_nodup K)).2 fun x => ⟨h.sub x,fun hx => ?_⟩
  refine Decidable.byContradiction fun hn => ?_
  have hnd:(x :: o).Nodup:=List.nodup_cons.2 ⟨hn,h.nodup⟩
  have:=nodup_length_le hnd fun y hy => by
   rcases List.mem_cons.1 hy with rfl | hy
   ·exact hx
   ·exact h.sub y hy
  rw [List.length_cons] at this
  omega
 ·cases hh:aheadB K lang b a with
  | false => rfl
  | true => exact (aheadB_asymm hab hh).elim
def Best (K:List Fact) (lang:Int) (o:List Int) (i:Nat) (z:Int):Prop :=
 (z = -1 ∧ ∀ x ∈ (statesL K).take i,x ∈ o) ∨ ∃ b:Nat,∃ hb:b < (statesL K).length,z = b ∧ b < i ∧ (statesL K)[b] ∉ o ∧ ∀ x ∈ (statesL K).take i,x ∉ o -> x = (statesL K)[b] ∨ aheadB K lang (statesL K)[b] x = true
theorem Best.used {K:List Fact} {lang:Int} {o:List Int} {i:Nat} {z:Int} (hi:i < (statesL K).length) (hu:(statesL K)[i] ∈ o) (h:Best K lang o i z):Best K lang o (i + 1) z:=by
 rcases h with ⟨h1,h2⟩ | ⟨b,hb,h1,h2,h3,h4⟩
 ·refine .inl ⟨h1,fun x hx => ?_⟩
  rw [List.take_succ_eq_append_getElem hi] at hx
  rcases List.mem_append.1 hx with hx | hx
  ·exact h2 x hx
  ·rw [List.mem_singleton.1 hx]; exact hu
 ·refine .inr ⟨b,hb,h1,by omega,h3,fun x hx hn => ?_⟩
  rw [List.take_succ_eq_append_getElem hi] at hx
  rcases List.mem_append.1 hx with hx | hx
  ·exact h4 x hx hn
  ·rw [List.mem_singleton.1 hx] at hn; exact absurd hu hn
theorem Best.first {K:List Fact} {lang:Int} {o:List Int} {i:Nat} {z:Int} (hi:i < (statesL K).length) (hu:(statesL K)[i] ∉ o) (hz:z < 0) (h:Best K lang o i z):Best K lang o (i + 1) (i:Nat):=by
 rcases h with ⟨h1,h2⟩ | ⟨b,hb,h1,_⟩
 ·refine .inr ⟨i,hi,rfl,Nat.lt_succ_self _,hu,fun x hx hn => ?_⟩
  rw [List.take_succ_eq_append_getElem hi] at hx
  rcases List.mem_append.1 hx with hx | hx
  ·exact absurd (h2 x hx) hn
  ·exact .inl (List.mem_singleton.1 hx)
 ·omega
theorem Best.better {K:List Fact} {lang:Int} {o:List Int} {i b:Nat} {z:Int} (hi:i < (statesL K).length) (hb:b < (statesL K).length) (hu:(statesL K)[i] ∉ o) (hz:z = b) (hah:aheadB K lang (statesL K)[i] (statesL K)[b] = true) (h:Best K lang o i z):Best K lang o (i + 1) (i:Nat):=by
 rcases h with ⟨h1,_⟩ | ⟨b',hb',h1,h2,h3,h4⟩
 ·omega
 ·have:b' = b:=by omega
  subst this
  refine .inr ⟨i,hi,rfl,Nat.lt_succ_self _,hu,fun x hx hn => ?_⟩
  rw [List.take_succ_eq_append_getElem hi] at hx
  rcases List.mem_append.1 hx with hx | hx
  ·rcases h4 x hx hn with rfl | h5
   ·exact .inr hah
   ·exact .inr (aheadB_trans hah h5)
  ·exact .inl (List.mem_singleton.1 hx)
theorem Best.worse {K:List Fact} {lang:Int} {o:List Int} {i b:Nat} {z:Int} (hi:i < (statesL K).length) (hb:b < (statesL K).length) (hz:z = b) (hah:aheadB K lang (statesL K)[i] (statesL K)[b] = false) (h:Best K lang o i z):Best K lang o (i + 1) z:=by
 rcases h with ⟨h1,_⟩ | ⟨b',hb',h1,h2,h3,h4⟩
 ·omega
 ·have:b' = b:=by omega
  subst this
  refine .inr ⟨b',hb',h1,by omega,h3,fun x hx hn => ?_⟩
  rw [List.take_succ_eq_append_getElem hi] at hx
  rcases List.mem_append.1 hx with hx | hx
  ·exact h4 x hx hn
  ·rw [List.mem_singleton.1 hx]
   by_cases he:(statesL K)[i] = (statesL K)[b']
   ·exact .inl he
   ·rcases aheadB_total (c:=K) (lang:=lang) he with h5 | h5
    ·rw [hah] at h5; cases h5
    ·exact .inr h5
theorem Picked.next {K:List Fact} {lang:Int} {o:List Int} {z:Int} (h:Picked K lang o) (hlt:o.length < (statesL K).length) (hb:Best K lang o (statesL K).length z):∃ b:Nat,∃ hb:b < (statesL K).length,z = b ∧ Picked K lang (o ++ [(statesL K)[b]]):=by
 rcases hb with ⟨h1,h2⟩ | ⟨b,hb,h1,h2,h3,h4⟩
 ·rw [List.take_length] at h2
  have:=nodup_length_le (statesL_nodup K) h2
  omega
 ·rw [List.take_length] at h4
  refine ⟨b,hb,h1,?_,fun x hx => ?_,fun x hx y hy hn => ?_⟩
  ·refine List.pairwise_append.2 ⟨h.sorted,List.pairwise_singleton _ _,fun x hx y hy => ?_⟩
   rw [List.mem_singleton.1 hy]
   exact h.rest x hx _ (List.getElem_mem hb) h3
  ·rcases List.mem_append.1 hx with hx | hx
   ·exact h.sub x hx
   ·rw [List.mem_singleton.1 hx]; exact List.getElem_mem hb
  ·have hn1:y ∉ o:=fun e => hn (List.mem_append_left _ e)
   have hn2:y ≠ (statesL K)[b]:=fun e => hn (List.mem_append_right _ (by rw [e]; simp))
   rcases List.mem_append.1 hx with hx | hx
   ·exact h.rest x hx y hy hn1
   ·rw [List.mem_singleton.1 hx]
    exact (h4 y hy hn1).resolve_left hn2
theorem from_two (lot:Int) {n:Nat} (hn:0 < n):(lot.tmod n < 0 -> lot.tmod n + n = ((lot.emod n).toNat:Int)) ∧ (¬ lot.tmod n < 0 -> lot.tmod n = ((lot.emod n).toNat:Int)):=by
 obtain ⟨h1,h2,h3⟩:=from_eq lot hn
 refine ⟨fun h => ?_,fun h => ?_⟩
 ·have h4:=Int.tmod_eq_of_lt (a:=lot.tmod n + n) (b:=n) (by omega) (by omega)
  rw [h4] at h1; exact h1
 ·have h4:=Int.tmod_eq_emod_of_nonneg (a:=lot.tmod n + n) (b:=n) (by omega)
  rw [h4,Int.add_emod_right,Int.emod_eq_of_lt (by omega) h3] at h1; exact h1
set_option maxRecDepth 100000 in
set_option maxHeartbeats 2000000 in
theorem refAlphabet_spec {w:World} {A:Option Addr} {l:List Fact} {c:Nat} (h:HF w A l c) (hl:l.length <= 2 ^ 20) (k day lang lot:Int) :
  CallsV C.P 93 #[.slice A l.length c,.int .i64 k,.int .i64 day,.int .i64 lang,.int .i64 lot] w fun v w' => NewInts w.heap.size w' v (alphaL (atL k day l) lang lot) ∧ Ext w w':=by
 refine callsV_of C_ok (args:=[_,_,_,_,_]) (plans:=plans93) Tryz.func93 rfl Tryz.ntmps93 (by kernel_rfl) (Nat.le_of_ble_eq_true rfl) ?_
 refine (refStates_spec h hl k day).mono ?_
 rintro v0 w1 ⟨ho1,e1⟩
 have hK:=atL_length k day l
 have hN:(statesL (atL k day l)).length <= 2 ^ 20:=Nat.le_trans (sortF_length (p:=fun y => decide (y.kind = 1)) (f:=Fact.who)) (by omega)
 have hname:∀ {w':World} (s0:Int),Ext w1 w' -> CallsV C.P 151 #[.slice A l.length c,.int .i64 k,.int .i64 day,.int .i64 s0,.int .i64 lang] w' fun v w'' => v = .string (nameL (atL k day l) s0 lang) ∧ Ext w' w'':=fun s0 e => refName_spec (h.ext (e1.trans e)) hl k day s0 lang
 generalize atL k day l = K at *
 obtain ⟨AS,cS,rfl,hrS,_⟩:=NewInts.slice ho1
 refine loopE C_ok (fun (s:Value × List Int) => [(0,.slice A l.length c),(1,.int .i64 k),(2,.int .i64 day),(3,.int .i64 lang),(4,.int .i64 lot),(11,.slice AS (statesL K).length cS),(12,s.1)])
  (fun s w' => Ext w1 w' ∧ NewInts w1.heap.size w' s.1 s.2 ∧ Picked K lang s.2) (fun s => (statesL K).length - s.2.length) (.slice none 0 0,[])
  ⟨rfl,rfl,rfl,rfl,rfl,rfl,rfl,trivial⟩ ⟨Ext.refl _,newInts_nil _ _,⟨List.Pairwise.nil,(fun x hx => (by cases hx)),(fun x hx => (by cases hx))⟩⟩ ?_
 rintro ⟨v,o⟩ w2 ⟨e2',ho2',hp'⟩
 have e2:Ext w1 w2:=e2'
 have ho2:NewInts w1.heap.size w2 v o:=ho2'
 have hp:Picked K lang o:=hp'
 clear e2' ho2' hp'
 have hol:=hp.length
 obtain ⟨AO,cO,rfl,hrO,_⟩:=NewInts.slice ho2
 refine brE_dec (fun hlt2 => ?_) (fun hge => ?_)
 ·have hlt:o.length < (statesL K).length:=by have:(o.length:Int) < ((statesL K).length:Nat):=hlt2; omega
  clear hlt2
  refine loopE C_ok (fun (s:Nat × Int) => [(0,.slice A l.length c),(1,.int .i64 k),(2,.int .i64 day),(3,.int .i64 lang),(4,.int .i64 lot),(11,.slice AS (statesL K).length cS),(12,.slice AO o.length cO),(13,.int .i64 s.2),(14,.int .i64 s.1)])
   (fun s w' => s.1 <= (statesL K).length ∧ Ext w2 w' ∧ Best K lang o s.1 s.2) (fun s => (statesL K).length - s.1) (0,-1)
   ⟨rfl,rfl,rfl,rfl,rfl,rfl,rfl,rfl,rfl,trivial⟩ ⟨Nat.zero_le _,Ext.refl _,.inl ⟨rfl,fun x hx => by simp at hx⟩⟩ ?_
  rintro ⟨i,z⟩ w3 ⟨hi',e3',hb'⟩
  have hi:i <= (statesL K).length:=hi'
  have e3:Ext w2 w3:=e3'
  have hb:Best K lang o i z:=hb'
  clear hi' e3' hb'
  refine brE_dec (fun hil2 => ?_) (fun hil => ?_)
  ·have hil:i < (statesL K).length:=by have:(i:Int) < ((statesL K).length:Nat):=hil2; omega
   clear hil2
   have next:IntKind.i64.wrap ((i:Int) + 1) = ((i + 1:Nat):Int):=fit ⟨by omega,by omega⟩
   refine loopE C_ok (fun (s:Nat × Bool) => [(0,.slice A l.length c),(1,.int .i64 k),(2,.int .i64 day),(3,.int .i64 lang),(4,.int .i64 lot),(11,.slice AS (statesL K).length cS),(12,.slice AO o.length cO),(13,.int .i64 z),(14,.int .i64 i),(15,.bool s.2),(16,.int .i64 s.1)])
    (fun s w' => w' = w3 ∧ s.1 <= o.length ∧ s.2 = decide ((statesL K)[i] ∈ o.take s.1)) (fun s => o.length - s.1) (0,false)
    ⟨rfl,rfl,rfl,rfl,rfl,rfl,rfl,rfl,rfl,rfl,rfl,trivial⟩ ⟨rfl,Nat.zero_le _,by simp⟩ ?_
   rintro ⟨j,u⟩ w4 ⟨rfl,hj',hu'⟩
   have hj:j <= o.length:=hj'
   have hu:u = decide ((statesL K)[i] ∈ o.take j):=hu'
   clear hj' hu'
   obtain ⟨bS,oS,hAS,hcS⟩:=Reads.int (hrS.ext (e2.trans e3)) hil
   refine brE_dec (fun hjl2 => ?_) (fun hjl => ?_)
   ·have hjl:j < o.length:=by have:(j:Int) < (o.length:Nat):=hjl2; omega
    clear hjl2
    have next2:IntKind.i64.wrap ((j:Int) + 1) = ((j + 1:Nat):Int):=fit ⟨by omega,by omega⟩
    have hst:decide ((statesL K)[i] ∈ o.take (j + 1)) = (u || decide (o[j] = (statesL K)[i])):=by
     rw [hu,List.take_succ_eq_append_getElem hjl,Bool.eq_iff_iff,decide_eq_true_eq,Bool.or_eq_true,decide_eq_true_eq,decide_eq_true_eq,List.mem_append,List.mem_singleton]
     exact or_congr Iff.rfl ⟨Eq.symm,Eq.symm⟩
    cases u with
    | true =>
     refine ⟨_,next2,?_⟩
     exact ⟨(j + 1,true),⟨rfl,rfl,rfl,rfl,rfl,rfl,rfl,rfl,rfl,rfl,rfl,trivial⟩,⟨rfl,hjl,by rw [hst]; rfl⟩,by show o.length - (j + 1) < o.length - j; omega⟩
    | false =>
     obtain ⟨bO,oO,hAO,hcO⟩:=Reads.int (hrO.ext e3) hjl
     refine ⟨j,bO,oO,rfl,hjl,hAO,?_⟩
     refine ⟨_,by simpa using hcO,?_⟩
     refine ⟨i,bS,oS,rfl,hil,hAS,?_⟩
     refine ⟨_,by simpa using hcS,?_⟩
     refine ⟨_,next2,?_⟩
     exact ⟨(j + 1,decide (o[j] = (statesL K)[i])),⟨rfl,rfl,rfl,rfl,rfl,rfl,rfl,rfl,rfl,rfl,rfl,trivial⟩,⟨rfl,hjl,by rw [hst]; rfl⟩,by show o.length - (j + 1) < o.length - j; omega⟩
   ·have:j = o.length:=by have:¬ (j:Int) < (o.length:Nat):=hjl; omega
    rw [this,List.take_length] at hu
    subst hu
    refine brE_dec (fun hu => ?_) (fun hu => ?_)
    ·refine ⟨_,next,?_⟩
     exact ⟨(i + 1,z),⟨rfl,rfl,rfl,rfl,rfl,rfl,rfl,rfl,rfl,trivial⟩,⟨hil,e3,hb.used hil hu⟩,by show (statesL K).length - (i + 1) < (statesL K).length - i; omega⟩
    refine brE_dec (fun hz => ?_) (fun hz => ?_)
    ·have hz:z < 0:=hz
     refine ⟨_,next,?_⟩
     exact ⟨(i + 1,(i:Nat)),⟨rfl,rfl,rfl,rfl,rfl,rfl,rfl,rfl,rfl,trivial⟩,⟨hil,e3,hb.first hil hu hz⟩,by show (statesL K).length - (i + 1) < (statesL K).length - i; omega⟩
    have hz:¬ z < 0:=hz
    obtain ⟨b,hbl,rfl⟩:∃ b:Nat,b < (statesL K).length ∧ z = b:=by
     rcases hb with ⟨h1,_⟩ | ⟨b,hbl,h1,_⟩
     ·omega
     ·exact ⟨b,hbl,h1⟩
    refine ⟨i,bS,oS,rfl,hil,hAS,?_⟩
    refine ⟨_,by simpa using hcS,?_⟩
    refine (hname (statesL K)[i] (e2.trans e3)).mono ?_
    rintro _ w5 ⟨rfl,e5⟩
    obtain ⟨bB,oB,hAB,hcB⟩:=Reads.int (hrS.ext ((e2.trans e3).trans e5)) hbl
    refine ⟨b,bB,oB,rfl,hbl,hAB,?_⟩
    refine ⟨_,by simpa using hcB,?_⟩
    refine (hname (statesL K)[b] ((e2.trans e3).trans e5)).mono ?_
    rintro _ w6 ⟨rfl,e6⟩
    have e26:=(e3.trans e5).trans e6
    obtain ⟨bS,oS,hAS,hcS⟩:=Reads.int (hrS.ext (e2.trans e26)) hil
    obtain ⟨bB,oB,hAB,hcB⟩:=Reads.int (hrS.ext (e2.trans e26)) hbl
    refine ⟨i,bS,oS,rfl,hil,hAS,?_⟩
    refine ⟨_,by simpa using hcS,?_⟩
    refine ⟨b,bB,oB,rfl,hbl,hAB,?_⟩
    refine ⟨_,by simpa using hcB,?_⟩
    refine (ahead_spec (statesL K)[i] _ (statesL K)[b] _ w6).mono ?_
    rintro _ w7 ⟨rfl,rfl⟩
    refine brE_mk (fun hah => ?_) (fun hah => ?_)
    ·refine ⟨_,next,?_⟩
     exact ⟨(i + 1,(i:Nat)),⟨rfl,rfl,rfl,rfl,rfl,rfl,rfl,rfl,rfl,trivial⟩,⟨hil,e26,hb.better hil hbl hu rfl hah⟩,by show (statesL K).length - (i + 1) < (statesL K).length - i; omega⟩
    ·refine ⟨_,next,?_⟩
     exact ⟨(i + 1,(b:Nat)),⟨rfl,rfl,rfl,rfl,rfl,rfl,rfl,rfl,rfl,trivial⟩,⟨hil,e26,hb.worse hil hbl rfl hah⟩,by show (statesL K).length - (i + 1) < (statesL K).length - i; omega⟩
  ·have:i = (statesL K).length:=by have:¬ (i:Int) < ((statesL K).length:Nat):=hil; omega
   subst this
   obtain ⟨b,hbl,rfl,hnext⟩:=hp.next hlt hb
   obtain ⟨bB,oB,hAB,hcB⟩:=Reads.int (hrS.ext (e2.trans e3)) hbl
   refine ⟨b,bB,oB,rfl,hbl,hAB,?_⟩
   refine ⟨_,by simpa using hcB,?_⟩
   intro g4 w4 h4
   have e4:=(e2.trans e3).trans h4.ext
   have ho4:=ho2.ext (e3.trans h4.ext)
   refine ⟨rfl,rfl,rfl,w1.heap.size,_,_,[.int .i64 (statesL K)[b]],ho4,e4.size,Nat.le_of_ble_eq_true rfl,rfl,rfl,.inr ⟨g4,0,rfl,Rd.of_block h4.here⟩,rfl,rfl,by omega,by simp only [maxLen]; omega,?_⟩
   intro v5 w5 ho5 hg5 _
   have hll:(o ++ [(statesL K)[b]]).length = o.length + 1:=by simp
   exact ⟨(v5,o ++ [(statesL K)[b]]),⟨rfl,rfl,rfl,rfl,rfl,rfl,rfl,trivial⟩,⟨app_ext e4 ho4 hg5,newInts_snoc ho5,hnext⟩,by show (statesL K).length - (o ++ [(statesL K)[b]]).length < (statesL K).length - o.length; omega⟩
 ·have hge:(statesL K).length <= o.length:=by have:¬ (o.length:Int) < ((statesL K).length:Nat):=hge; omega
  have hoe:=hp.all hge
  unfold alphaL
  simp only
  rw [<-hoe]
  clear hoe hp ho2
  have e02:=e1.trans e2
  refine loopE C_ok (fun (t:Nat × Value) => [(4,.int .i64 lot),(12,.slice AO o.length cO),(20,.int .i64 o.length),(21,t.2),(22,.int .i64 t.1)])
   (fun t w' => t.1 <= o.length ∧ Ext w2 w' ∧ NewInts w2.heap.size w' t.2 ((List.range t.1).map fun i => o.getD (((lot.emod o.length).toNat + i) % o.length) 0)) (fun t => o.length - t.1) (0,.slice none 0 0)
   ⟨rfl,rfl,rfl,rfl,rfl,trivial⟩ ⟨Nat.zero_le _,Ext.refl _,newInts_nil _ _⟩ ?_
  rintro ⟨i,v⟩ w5 ⟨hi',e5',ho'⟩
  have hi:i <= o.length:=hi'
  have e5:Ext w2 w5:=e5'
  have ho5:NewInts w2.heap.size w5 v ((List.range i).map fun i => o.getD (((lot.emod o.length).toNat + i) % o.length) 0):=ho'
  clear hi' ho' e5'
  refine brE_dec (fun hlt2 => ?_) (fun hge => ?_)
  ·have hlt:i < o.length:=by have:(i:Int) < (o.length:Nat):=hlt2; omega
   clear hlt2
   have next:IntKind.i64.wrap ((i:Int) + 1) = ((i + 1:Nat):Int):=fit ⟨by omega,by omega⟩
   have hn:0 < o.length:=by omega
   have h0:¬ (o.length:Int) = 0:=by omega
   obtain ⟨t1,t2⟩:=from_two lot hn
   obtain ⟨_,b1,b2⟩:=from_eq lot hn
   have hfr:(lot.emod o.length).toNat < o.length:=by
    have h':lot.emod o.length < o.length:=Int.emod_lt_of_pos lot (show (0:Int) < o.length by omega)
    have h'':0 <= lot.emod o.length:=Int.emod_nonneg lot (by omega)
    omega
   generalize (lot.emod o.length).toNat = fr at *
   have hj:(fr + i) % o.length < o.length:=Nat.mod_lt _ hn
   have hlen:((List.range i).map fun i => o.getD ((fr + i) % o.length) 0).length <= o.length:=by rw [List.length_map,List.length_range]; omega
   have hget:o.getD ((fr + i) % o.length) 0 = o[(fr + i) % o.length]:=by
    rw [List.getD_eq_getElem?_getD,List.getElem?_eq_getElem hj]; rfl
   by_cases hneg:lot.tmod o.length < 0
   case' pos =>
    refine ⟨h0,_,rfl,?_⟩
    refine brE_dec (fun _ => ?_) (fun hh => absurd hneg hh)
    refine ⟨(fr:Int),by rw [fit ⟨by omega,by omega⟩]; exact t1 hneg,?_⟩
   case' neg =>
    refine ⟨h0,(fr:Int),t2 hneg,?_⟩
   all_goals
    refine ⟨((fr + i:Nat):Int),by rw [fit ⟨by omega,by omega⟩]; omega,?_⟩
    refine ⟨h0,(((fr + i) % o.length:Nat):Int),by rw [Int.tmod_eq_emod_of_nonneg (by omega)]; omega,?_⟩
    obtain ⟨b,oo,hA,hc⟩:=Reads.int (hrO.ext e5) hj
    refine ⟨(fr + i) % o.length,b,oo,rfl,hj,hA,?_⟩
    refine ⟨_,by simpa using hc,?_⟩
    intro g7 w7 h7
    have ho7:=ho5.ext h7.ext
    have e7:=e5.trans h7.ext
    refine ⟨rfl,rfl,rfl,w2.heap.size,_,_,[.int .i64 o[(fr + i) % o.length]],ho7,e7.size,Nat.le_of_ble_eq_true rfl,rfl,rfl,.inr ⟨g7,0,rfl,Rd.of_block h7.here⟩,rfl,rfl,by omega,by simp only [maxLen]; omega,?_⟩
    intro v8 w8 ho8 hg8 _
    refine ⟨_,next,?_⟩
    refine ⟨(i + 1,v8),⟨rfl,rfl,rfl,rfl,rfl,trivial⟩,⟨hlt,app_ext e7 ho7 hg8,?_⟩,by show o.length - (i + 1) < o.length - i; omega⟩
    show NewInts w2.heap.size w8 v8 ((List.range (i + 1)).map fun i => o.getD ((fr + i) % o.length) 0)
    rw [List.range_succ,List.map_append,List.map_cons,List.map_nil,hget]
    exact newInts_snoc ho8
  ·have:i = o.length:=by have:¬ (i:Int) < (o.length:Nat):=hge; omega
   subst this
   exact ⟨NewInts.base ho5 e02.size,e02.trans e5⟩
set_option maxRecDepth 100000 in
theorem refLetter_spec {w:World} {A:Option Addr} {l:List Fact} {c:Nat} (h:HF w A l c) (hl:l.length <= 2 ^ 20) (k day lang lot s0:Int) :
  CallsV C.P 92 #[.slice A l.length c,.int .i64 k,.int .i64 day,.int .i64 lang,.int .i64 lot,.int .i64 s0] w fun v w' => v = .tuple #[.int .i64 (letterL (atL k day l) lang lot s0).1,.bool (letterL (atL k day l) lang lot s0).2] ∧ Ext w w':=by
 refine callsV_of C_ok (args:=[_,_,_,_,_,_]) (plans:=[]) Tryz.func92 rfl Tryz.ntmps92 (by kernel_rfl) (Nat.le_of_ble_eq_true rfl) ?_
 refine (refAlphabet_spec h hl k day lang lot).mono ?_
 rintro v0 w1 ⟨ho1,e1⟩
 have hll:(alphaL (atL k day l) lang lot).length <= 2 ^ 20:=by
  have hK:=atL_length k day l
  have hN:(statesL (atL k day l)).length <= (atL k day l).length:=sortF_length (p:=fun y => decide (y.kind = 1)) (f:=Fact.who)
  have:=(orderL_perm (atL k day l) lang).length_eq
  unfold alphaL
  simp only [List.length_map,List.length_range]
  omega
 unfold letterL
 generalize alphaL (atL k day l) lang lot = xs at *
 obtain ⟨AX,cX,rfl,hrX,_⟩:=NewInts.slice ho1
 refine loopE C_ok (fun (i:Nat) => [(5,.int .i64 s0),(14,.slice AX xs.length cX),(15,.int .i64 i)])
  (fun i w' => w' = w1 ∧ i <= xs.length ∧ ∀ j (hj:j < xs.length),j < i -> ¬ xs[j] = s0) (fun i => xs.length - i) 0 ⟨rfl,rfl,rfl,trivial⟩ ⟨rfl,Nat.zero_le _,fun j hj hji => absurd hji (Nat.not_lt_zero _)⟩ ?_
 rintro i w2 ⟨rfl,hi,hall⟩
 refine brE_dec (fun hlt2 => ?_) (fun hge => ?_)
 ·have hlt:i < xs.length:=by have:(i:Int) < (xs.length:Nat):=hlt2; omega
  obtain ⟨b,o,hA,hc⟩:=Reads.int hrX hlt
  refine ⟨i,b,o,rfl,hlt,hA,?_⟩
  refine ⟨_,by simpa using hc,?_⟩
  refine brE_dec (fun h2 => ?_) (fun h2 => ?_)
  ·have h2:xs[i] = s0:=h2
   have:xs.findIdx? (fun x => decide (x = s0)) = some i:=by
    rw [List.findIdx?_eq_some_iff_getElem]
    exact ⟨hlt,decide_eq_true h2,fun j hj => by simpa using hall j (by omega) hj⟩
   exact ⟨by rw [this],e1⟩
  ·have h2:¬ xs[i] = s0:=h2
   refine ⟨((i + 1:Nat):Int),fit ⟨by omega,by omega⟩,?_⟩
   refine ⟨i + 1,⟨rfl,rfl,rfl,trivial⟩,⟨rfl,hlt,fun j hj hji => ?_⟩,by omega⟩
   rcases Nat.lt_or_ge j i with h | h
   ·exact hall j hj h
   ·obtain rfl:j = i:=by omega
    exact h2
 ·have:i = xs.length:=by have:¬ (i:Int) < (xs.length:Nat):=hge; omega
  subst this
  have:xs.findIdx? (fun x => decide (x = s0)) = none:=by
   rw [List.findIdx?_eq_none_iff]
   intro x hx
   obtain ⟨j,hj,rfl⟩:=List.getElem_of_mem hx
   exact decide_eq_false (hall j hj hj)
  exact ⟨by rw [this],e1⟩
end Go.Proofs.YtdpdjcopkehdjaaGreat
