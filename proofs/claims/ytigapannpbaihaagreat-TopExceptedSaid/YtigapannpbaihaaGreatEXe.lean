/- a part of the proof: steps, walks and plain laws that the law below stands on; no condition. -/
import Derived.Test.YtigapannpbaihaaGreatEXa
import Derived.Test.YtigapannpbaihaaGreatEXb
import Derived.Test.YtigapannpbaihaaGreatEXc
import Derived.Test.YtigapannpbaihaaGreatEXd
import Derived.WalkSpells
import Derived.Maps.RangeRun
set_option linter.unusedVariables false
set_option linter.unusedSimpArgs false
set_option linter.unnecessarySimpa false
set_option linter.unusedSectionVars false
namespace Go.Proofs.YtigapannpbaihaaGreat
open Go.Eng Go.RowKit
theorem underFs:Tryz.prog.underlying 22 = some (.slice 180):=by kernel_rfl
theorem eqNilF (x y:Operand) (A:Option Addr) (n c:Nat):EqIs C.P .eql 22 x y (.slice A n c) (.slice none 0 0) A.isNone:=by
 intro w
 have hu:C.P.underlying 22 = some (.slice 180):=underFs
 have h1:(eqGuard .eql 22 x y (.slice A n c) (.slice none 0 0)).run C.P w = .ok () w:=by simp [eqGuard]
 rw [Sem.run_bind,h1]
 simp only [Result.andThen_ok]
 exact Lib.run_eql_slice_nil w _ _ A n c _ _ hu
theorem Clone_spec {w:World} {A:Option Addr} {l:List Fact} {c:Nat} (h:Reads w A (fcells l)) (hl:l.length <= 2 ^ 20) :
  CallsV C.P 99 #[.slice A l.length c] w fun v w' => NewF w.heap.size w' v l ∧ Ext w w':=by
 refine callsV_of C_ok (args:=[_]) (plans:=[]) Tryz.func99 rfl Tryz.ntmps99 (by kernel_rfl) (Nat.le_of_ble_eq_true rfl) ?_
 refine ⟨_,eqNilF _ _ _ _ _,?_⟩
 refine brE_mk (fun hn => ?_) (fun hn => ?_)
 ·have hl0:l = []:=by
   rcases h with h | ⟨b,o,hA,_⟩
   ·have:=congrArg List.length h
    rw [fcells_length] at this
    have:l.length * 9 = 0:=this
    exact List.length_eq_zero_iff.1 (by omega)
   ·rw [hA] at hn; cases hn
  subst hl0
  exact ⟨newF_nil _ _,Ext.refl _⟩
 ·intro g w1 h1
  have ho:w1.ownsRow w.heap.size 180 9 (.slice (some ⟨g,0,none⟩) 0 0) 0 []:=owns_block (cs:=[]) h1.here (by rw [h1.new]; exact Nat.le_refl _) rfl (Nat.zero_le _)
  have hd:fcells l = [] ∨ ∃ b o,A = some ⟨b,o,none⟩ ∧ Rd w1 b o (fcells l):=h.ext h1.ext
  have hs:A.isSome = true:=by cases A with
   | none => cases hn
   | some a => rfl
  have h1c:(fcells l).all (·.oneCell') = true:=by
   rw [List.all_eq_true]
   intro v hv
   obtain ⟨x,_,hx⟩:=List.mem_flatMap.1 hv
   simp [Fact.cells] at hx
   rcases hx with rfl | rfl | rfl | rfl | rfl | rfl | rfl | rfl | rfl <;> rfl
  refine ⟨rfl,rfl,rfl,w.heap.size,0,[],fcells l,ho,h1.ext.size,Nat.le_of_ble_eq_true rfl,rfl,fcells_length l,hd,by rw [hs]; rfl,h1c,by omega,by simp only [maxLen]; omega,?_⟩
  intro v2 w2 ho2 hg2 _
  refine ⟨?_,app_ext h1.ext ho hg2⟩
  show w2.ownsRow _ _ _ v2 _ _
  rw [Nat.zero_add,List.nil_append] at ho2
  exact ho2
theorem knownL_all {k:Int}:∀ {l:List Fact},(∀ j (h:j < l.length),l[j].known <= k) -> knownL k l = l
 | [],_ => rfl
 | x :: r,h => by
  have h0:=h 0 (by simp)
  unfold knownL
  rw [List.takeWhile_cons,if_pos (by simpa using h0)]
  exact congrArg (x :: ·) (knownL_all (l:=r) fun j hj => h (j + 1) (by simpa using hj))
theorem knownL_stop {k:Int}:∀ {l:List Fact} {i:Nat} (hi:i < l.length),(∀ j (h:j < l.length),j < i -> l[j].known <= k) -> ¬ l[i].known <= k -> knownL k l = l.take i
 | x :: r,0,_,_,h => by
  unfold knownL
  rw [List.takeWhile_cons,if_neg (by simpa using h)]; rfl
 | x :: r,i + 1,hi,ha,h => by
  have h0:=ha 0 (by simp) (Nat.succ_pos _)
  unfold knownL
  rw [List.takeWhile_cons,if_pos (by simpa using h0),List.take_succ_cons]
  exact congrArg (x :: ·) (knownL_stop (l:=r) (i:=i) (by simpa using hi) (fun j hj hji => ha (j + 1) (by simpa using hj) (by omega)) (by simpa using h))
theorem knownL_length (k:Int) (l:List Fact):(knownL k l).length <= l.length:=(List.takeWhile_sublist _).length_le
theorem knownL_sub {k:Int} {l:List Fact}:∀ x ∈ knownL k l,x ∈ l:=fun _ h => (List.takeWhile_sublist _).subset h
theorem Reads.front {w:World} {A:Option Addr} {l:List Fact} {c i:Nat} (h:Reads w A (fcells l)):Reads w (if c = 0 then A else A.map (·.add (0 * 9))) (fcells (l.take i)):=by
 have e:(if c = 0 then A else A.map (·.add (0 * 9))) = A:=by
  split
  ·rfl
  ·cases A <;> rfl
 rw [e]
 rcases h with h | ⟨b,o,hA,hr⟩
 ·left
  have:=congrArg List.length h
  rw [fcells_length] at this
  have:l.length * 9 = 0:=this
  have:l = []:=List.length_eq_zero_iff.1 (by omega)
  subst this; simp [fcells]
 ·refine .inr ⟨b,o,hA,fun j v hv => hr j v ?_⟩
  have e:fcells l = fcells (l.take i) ++ fcells (l.drop i):=by rw [<-fcells_append,List.take_append_drop]
  rw [e,List.getElem?_append_left (List.getElem?_eq_some_iff.1 hv).1]
  exact hv
theorem Known_spec {w:World} {A:Option Addr} {l:List Fact} {c:Nat} (h:HF w A l c) (hl:l.length <= 2 ^ 20) (k:Int) :
  CallsV C.P 41 #[.slice A l.length c,.int .i64 k] w fun v w' => NewF w.heap.size w' v (knownL k l) ∧ Ext w w':=by
 have hcap:=h.len
 refine callsV_of C_ok (args:=[_,_]) (plans:=[]) Tryz.func41 rfl Tryz.ntmps41 (by kernel_rfl) (Nat.le_of_ble_eq_true rfl) ?_
 refine loopE C_ok (fun (i:Nat) => [(0,.slice A l.length c),(1,.int .i64 k),(7,.slice A l.length c),(8,.int .i64 l.length),(9,.int .i64 i)])
  (fun i w' => i <= l.length ∧ Ext w w' ∧ ∀ j (h:j < l.length),j < i -> l[j].known <= k) (fun i => l.length - i) 0
  ⟨rfl,rfl,rfl,rfl,rfl,trivial⟩ ⟨Nat.zero_le _,Ext.refl _,fun _ _ h => absurd h (Nat.not_lt_zero _)⟩ ?_
 rintro i w1 ⟨hi,e1,hall⟩
 refine brE_dec (fun hlt => ?_) (fun hge => ?_)
 ·have hlt:i < l.length:=by have:(i:Int) < (l.length:Nat):=hlt; omega
  obtain ⟨b,o,hA,hc⟩:=Reads.fact (h.reads.ext e1) hlt
  refine ⟨i,b,o,rfl,hlt,hA,?_⟩
  refine ⟨l[i].cells,rfl,hc,?_⟩
  intro g w2 h2
  refine ⟨rfl,_,_,h2.here,Nat.le_of_ble_eq_true rfl,rfl,?_⟩
  intro w3 h3
  have e13:Ext w1 w3:=h3.ext_of h2.ext (by rw [h2.new]; exact Nat.le_refl _)
  refine ⟨_,cell_of_block (i:=1) h3.here rfl,?_⟩
  refine brE_dec (fun hk => ?_) (fun hk => ?_)
  ·have hk:l[i].known > k:=hk
   refine ⟨0,i,rfl,rfl,Nat.zero_le _,by omega,?_⟩
   have hr:=Reads.front (c:=c) (i:=i) (h.reads.ext (e1.trans e13))
   have hlen:(l.take i).length = i:=by rw [List.length_take]; omega
   have:=Clone_spec (c:=c - 0) hr (by omega)
   rw [hlen] at this
   refine this.mono ?_
   rintro v w4 ⟨hn,e4⟩
   rw [knownL_stop hlt hall (by omega)]
   exact ⟨hn.base (e1.trans e13).size,(e1.trans e13).trans e4⟩
  ·have hk:¬ l[i].known > k:=hk
   refine ⟨((i + 1:Nat):Int),fit ⟨by omega,by omega⟩,?_⟩
   refine ⟨i + 1,⟨rfl,rfl,rfl,rfl,rfl,trivial⟩,⟨hlt,e1.trans e13,fun j hj hji => ?_⟩,by omega⟩
   rcases Nat.lt_or_ge j i with h | h
   ·exact hall j hj h
   ·obtain rfl:j = i:=by omega
    omega
 ·have:i = l.length:=by have:¬ (i:Int) < (l.length:Nat):=hge; omega
  subst this
  refine (Clone_spec (h.reads.ext e1) hl).mono ?_
  rintro v w4 ⟨hn,e4⟩
  rw [knownL_all fun j hj => hall j hj hj]
  exact ⟨hn.base e1.size,e1.trans e4⟩
end Go.Proofs.YtigapannpbaihaaGreat
namespace Go.Proofs.YtigapannpbaihaaGreat
open Go.Eng Go.RowKit
theorem backL_step {acc:List Fact} {K:List Fact} {n:Nat} (hn:n < K.length):backL acc (K.take (n + 1)).reverse = if voidedBy acc K[n].id = true then backL acc (K.take n).reverse else backL (acc ++ [K[n]]) (K.take n).reverse:=by
 rw [List.take_succ_eq_append_getElem hn,List.reverse_append]
 rfl
theorem backL_length:∀ (K acc:List Fact),(backL acc K).length <= acc.length + K.length
 | [],acc => by simp [backL]
 | x :: r,acc => by
  unfold backL
  split
  ·have:=backL_length r acc; simp; omega
  ·have:=backL_length r (acc ++ [x]); simp at this ⊢; omega
theorem backL_sub:∀ {K acc:List Fact} {x:Fact},x ∈ backL acc K -> x ∈ acc ∨ x ∈ K
 | [],acc,x,h => .inl h
 | y :: r,acc,x,h => by
  unfold backL at h
  split at h
  ·rcases backL_sub h with h | h
   ·exact .inl h
   ·exact .inr (by simp [h])
  ·rcases backL_sub h with h | h
   ·simp at h
    rcases h with h | rfl
    ·exact .inl h
    ·exact .inr (by simp)
   ·exact .inr (by simp [h])
theorem countL_length (k:Int) (l:List Fact):(countL k l).length <= l.length:=by
 unfold countL
 rw [List.length_reverse]
 have h1:=backL_length (knownL k l).reverse []
 have h2:=knownL_length k l
 simp at h1; omega
theorem countL_sub {k:Int} {l:List Fact} {x:Fact} (h:x ∈ countL k l):x ∈ l:=by
 unfold countL at h
 rw [List.mem_reverse] at h
 rcases backL_sub h with h | h
 ·cases h
 ·exact knownL_sub x (List.mem_reverse.1 h)
theorem atL_length (k day:Int) (l:List Fact):(atL k day l).length <= l.length:=Nat.le_trans (List.length_filter_le _ _) (countL_length k l)
theorem atL_sub {k day:Int} {l:List Fact} {x:Fact} (h:x ∈ atL k day l):x ∈ l:=countL_sub (List.mem_filter.1 h).1
end Go.Proofs.YtigapannpbaihaaGreat
namespace Go.Proofs.YtigapannpbaihaaGreat
open Go.Eng Go.RowKit
def lastP (p:Fact -> Bool) (c:List Fact):Option Fact:=(c.filter p).getLast?
theorem lastP_snoc (p:Fact -> Bool) (c:List Fact) (x:Fact):lastP p (c ++ [x]) = if p x = true then some x else lastP p c:=by
 unfold lastP
 rw [List.filter_append,List.filter_cons,List.filter_nil]
 by_cases h:p x = true
 ·rw [if_pos h,if_pos h,List.getLast?_append]; rfl
 ·rw [if_neg h,if_neg h,List.append_nil]
theorem lastP_take {p:Fact -> Bool} {c:List Fact} {i:Nat} (hi:i < c.length):lastP p (c.take (i + 1)) = if p c[i] = true then some c[i] else lastP p (c.take i):=by
 rw [List.take_succ_eq_append_getElem hi,lastP_snoc]
theorem lastP_some {p:Fact -> Bool} {c:List Fact} {x:Fact} (h:lastP p c = some x):x ∈ c ∧ p x = true:=by
 have:=List.mem_of_getLast? h
 exact ⟨(List.mem_filter.1 this).1,(List.mem_filter.1 this).2⟩
def deathB (n:Int) (x:Fact):Bool:=decide (x.kind = 10 ∧ x.who = n)
def deadB (c:List Fact) (n:Int):Bool:=c.any (deathB n)
def livesB (c:List Fact) (k s cl:Int) (x:Fact):Bool:=decide (x.kind = k ∧ x.what = s ∧ x.other = cl) && !deadB c x.who
def livingL (c:List Fact) (k s cl:Int):List Int:=sortD ((c.filter (livesB c k s cl)).map Fact.who)
def isNm (s lang:Int) (x:Fact):Bool:=decide (x.kind = 1 ∧ x.who = s ∧ x.other = lang)
def nameL (c:List Fact) (s lang:Int):ByteArray:=((lastP (isNm s lang) c).getD factZ).name
def statesL (c:List Fact):List Int:=sortD (whos c)
def mournB (s:Int) (x:Fact):Bool:=decide (x.kind = 7 ∧ x.who = s)
def recogB (host s p:Int) (x:Fact):Bool:=decide (x.kind = 4 ∧ x.who = host ∧ x.what = s ∧ x.other = p)
def chosenL (c:List Fact) (host s:Int):List Int:=if 1 < (livingL c 2 s 1).length then (livingL c 2 s 1).filter fun p => c.any (recogB host s p) else livingL c 2 s 1
def recogL (c:List Fact) (host s:Int):Int × Bool:=match chosenL c host s with
 | [p] => (p,true)
 | _ => (0,false)
def heldB (c:List Fact) (host p s cl:Int):Bool:=if cl = 1 then decide (recogL c host s = (p,true)) else decide (p ∈ livingL c 2 s cl)
def actsB (c:List Fact) (p s cl:Int):Bool:=decide (p ∈ livingL c 3 s cl)
def classAt (c:List Fact) (host p s:Int):List Int -> Int × Bool
 | [] => (5,false)
 | cl :: r => if (heldB c host p s cl || actsB c p s cl) = true then (cl,!heldB c host p s cl) else classAt c host p s r
def classL (c:List Fact) (host p s:Int):Int × Bool:=classAt c host p s [1,2,3,4]
def leastAt (c:List Fact) (p s:Int):List Int -> Int
 | [] => 5
 | cl :: r => if (decide (p ∈ livingL c 2 s cl) || actsB c p s cl) = true then cl else leastAt c p s r
def leastL (c:List Fact) (p s:Int):Int:=leastAt c p s [1,2,3,4]
def credB (p s:Int) (x:Fact):Bool:=decide (x.kind = 5 ∧ x.who = p ∧ x.what = s)
def credL (c:List Fact) (p s:Int):Int:=match lastP (credB p s) c with
 | some x => x.since
 | none => 100001
def visitB (p s:Int) (x:Fact):Bool:=decide (x.kind = 8 ∧ x.who = p ∧ x.what = s)
def visitAt (p s:Int):Int × Bool -> List Fact -> Int × Bool
 | a,[] => a
 | a,x :: r => visitAt p s (if (visitB p s x && (!a.2 || decide (x.other < a.1))) = true then (x.other,true) else a) r
def visitL (c:List Fact) (p s:Int):Int:=(visitAt p s (0,false) c).1
theorem visitAt_snoc (p s:Int) (x:Fact):∀ (c:List Fact) (a:Int × Bool),visitAt p s a (c ++ [x]) = if (visitB p s x && (!(visitAt p s a c).2 || decide (x.other < (visitAt p s a c).1))) = true then (x.other,true) else visitAt p s a c
 | [],a => rfl
 | y :: r,a => visitAt_snoc p s x r _
def marriedB (p:Int) (x:Fact):Bool:=decide (x.kind = 6 ∧ (x.who = p ∨ x.other = p))
def spouseL (c:List Fact) (p:Int):Int × Bool:=match lastP (marriedB p) c with
 | none => (0,false)
 | some x => if (deadB c x.who || deadB c x.other) = true then (0,false) else if x.who = p then (x.other,true) else (x.who,true)
def deputyB (p:Int) (x:Fact):Bool:=decide (x.kind = 9 ∧ x.who = p)
def nextL (c:List Fact) (p:Int):Option Int:=(lastP (deputyB p) c).map Fact.other
def princAt (c:List Fact):Nat -> List Int -> Int -> Int × Bool
 | 0,_,_ => (0,false)
 | n + 1,met,at_ => if at_ ∈ met then (0,false) else match nextL c at_ with
  | none => if met.length = 0 then (0,false) else (at_,true)
  | some q => princAt c n (met ++ [at_]) q
def princL (c:List Fact) (p:Int):Int × Bool:=princAt c (c.length + 2) [] p
end Go.Proofs.YtigapannpbaihaaGreat
namespace Go.Proofs.YtigapannpbaihaaGreat
open Go.Eng Go.RowKit
structure Opn where
 kind:Int
 x:Entry
deriving DecidableEq
def opnZ:Opn:=⟨0,entryZ⟩
instance:Inhabited Opn:=⟨opnZ⟩
def Opn.cells (o:Opn):List Value:=.int .u8 o.kind :: o.x.cells
def sgF (f:List Fact) (w:Waiv):Int:=if (chkF f).2 ≠ 0 then (chkF f).2 else if leastL (atL w.day w.day f) w.signer w.giver <= 2 then 0 else 60
def doF (f:List Fact) (es:List Entry) (x:Entry):Int:=doE (sgF f x.w) es x
def rateE (day c n:Int):Entry:=⟨1,day,waivZ,giftZ,c,0,n⟩
def ceilE (day s n:Int):Entry:=⟨2,day,waivZ,giftZ,s,0,n⟩
def grantE (es:List Entry) (w:Waiv):Entry:=⟨3,w.day,{ w with id:=(((waivL es).length + 1:Nat):Int) },giftZ,0,0,0⟩
def endE (day id:Int):Entry:=⟨4,day,{ waivZ with id:=id },giftZ,0,0,0⟩
def offerE (es:List Entry) (day frm to cur n returns:Int):Entry:=⟨5,day,waivZ,⟨(((giftL es).length + 1:Nat):Int),day,frm,to,cur,n,0,0,0,returns⟩,0,0,0⟩
def takeE (day id:Int):Entry:=⟨6,day,waivZ,{ giftZ with id:=id },0,0,0⟩
def refuseE (day id:Int):Entry:=⟨7,day,waivZ,{ giftZ with id:=id },0,0,0⟩
def opK (o:Opn):Int:=o.kind % 8
def opE (es:List Entry) (o:Opn):Entry :=
 if opK o = 1 then grantE es o.x.w else if opK o = 2 then offerE es o.x.day o.x.g.frm o.x.g.to o.x.g.cur o.x.g.n o.x.g.returns else if opK o = 3 then rateE o.x.day o.x.g.cur o.x.n
 else if opK o = 4 then ceilE o.x.day o.x.a o.x.n else if opK o = 5 then endE o.x.day o.x.w.id else if opK o = 6 then takeE o.x.day o.x.g.id else if opK o = 7 then refuseE o.x.day o.x.g.id else o.x
def addL (e:Int) (es:List Entry) (x:Entry):List Entry:=if e = 0 then es ++ [x] else es
theorem add_length (e:Int) (es:List Entry) (x:Entry):(addL e es x).length <= es.length + 1:=by
 unfold addL; split <;> simp
theorem waivL_length:∀ (es:List Entry),(waivL es).length <= es.length:=by
 intro es
 unfold waivL
 suffices h:∀ (es:List Entry) (l:List Waiv),(es.foldl waivS l).length <= l.length + es.length from by simpa using h es []
 intro es
 induction es with
 | nil => intro l; simp
 | cons x r ih =>
  intro l
  have h1:(waivS l x).length <= l.length + 1:=by
   unfold waivS
   split
   ·simp
   ·split
    ·rw [updAt_length]; omega
    ·omega
  have:=ih (waivS l x)
  rw [List.foldl_cons,List.length_cons]
  omega
def asOfL (es:List Entry) (day:Int):List Entry:=es.filter fun x => decide (x.day <= day)
theorem asOf_take {es:List Entry} (h:es.Pairwise fun a b => a.day <= b.day) (day:Int):∃ n,asOfL es day = es.take n:=by
 induction es with
 | nil => exact ⟨0,rfl⟩
 | cons x r ih =>
  obtain ⟨h1,h2⟩:=List.pairwise_cons.1 h
  unfold asOfL at ih ⊢
  by_cases hx:x.day <= day
  ·obtain ⟨n,hn⟩:=ih h2
   exact ⟨n + 1,by rw [List.filter_cons,if_pos (decide_eq_true hx),hn]; rfl⟩
  ·refine ⟨0,?_⟩
   rw [List.filter_cons,if_neg (by simpa using hx),List.take_zero,List.filter_eq_nil_iff]
   intro y hy
   have:=h1 y hy
   simp; omega
theorem acc_asOf {es:List Entry} (h:Acc es) (day:Int):Acc (asOfL es day):=by
 obtain ⟨n,hn⟩:=asOf_take (acc_ok h).days day
 rw [hn]; exact acc_front h n
theorem asOf_snoc (es:List Entry) (x:Entry) (day:Int):asOfL (es ++ [x]) day = asOfL es day ++ if x.day <= day then [x] else []:=by
 unfold asOfL
 rw [List.filter_append,List.filter_cons,List.filter_nil]
 by_cases h:x.day <= day
 ·rw [if_pos (decide_eq_true h),if_pos h]
 ·rw [if_neg (by simpa using h),if_neg h]
theorem asOf_all {es:List Entry} {day:Int} (h:∀ x ∈ es,x.day <= day):asOfL es day = es:=by
 unfold asOfL
 rw [List.filter_eq_self]
 intro x hx
 exact decide_eq_true (h x hx)
def forceB (day:Int) (w:Waiv):Bool:=decide (w.since <= day) && decide (day < w.til)
def waiversAt (es:List Entry) (day:Int):List Waiv:=(waivL (asOfL es day)).filter (forceB day)
structure Guest where
 person:Int
 state:Int
deriving DecidableEq
def guestZ:Guest:=⟨0,0⟩
instance:Inhabited Guest:=⟨guestZ⟩
def Guest.cells (g:Guest):List Value:=[.int .i64 g.person,.int .i64 g.state]
def Guest.val (g:Guest):Value:=.agg g.cells.toArray
def coversB (w:Waiv) (u o:Guest):Bool:=decide (w.giver = u.state) && (decide (w.taker = o.state) && ((decide (w.under = 0) || decide (w.under = u.person)) && (decide (w.over = 0) || decide (w.over = o.person))))
def coversAt (es:List Entry) (u o:Guest) (day:Int):Bool:=(waiversAt es day).any fun w => coversB w u o
structure IPair where
 a:Int
 b:Int
deriving DecidableEq
def pairZ:IPair:=⟨0,0⟩
instance:Inhabited IPair:=⟨pairZ⟩
def IPair.cells (p:IPair):List Value:=[.int .i64 p.a,.int .i64 p.b]
def IPair.val (p:IPair):Value:=.agg p.cells.toArray
def rowPairs (ws:List Waiv) (g:List Guest) (a:Nat):List IPair:=(List.range g.length).flatMap fun b => if ws.any (fun w => coversB w (g.getD a guestZ) (g.getD b guestZ)) = true then [⟨(a:Int),(b:Int)⟩] else []
def pairsL (ws:List Waiv) (g:List Guest):List IPair:=(List.range g.length).flatMap fun a => rowPairs ws g a
def pairsAt (es:List Entry) (g:List Guest) (day:Int):List IPair:=if g.length > 24 then [] else pairsL (waiversAt es day) g
def dueLt (a b:Due):Bool:=decide (a.cred < b.cred) || (decide (a.cred = b.cred) && decide (a.debt < b.debt))
def insDue (d:Due):List Due -> List Due
 | [] => [d]
 | x :: r => if dueLt d x = true then d :: x :: r else x :: insDue d r
def sortDue (l:List Due):List Due:=l.foldl (fun acc d => insDue d acc) []
def duesAt (es:List Entry) (day:Int):List Due:=sortDue (dueL (asOfL es day))
def debtB (g:Gift):Bool:=decide (g.returns = 0) && decide (g.state = 2)
def debtW (gs:List Gift) (frm to:Int) (g:Gift):Int:=if debtB g = true ∧ g.frm = to ∧ g.to = frm then max 0 (g.worth - metL gs g.id) else 0
def debtL (gs:List Gift) (frm to:Int):Int:=(gs.map (debtW gs frm to)).sum
def debtAt (es:List Entry) (frm to day:Int):Int:=debtL (giftL (asOfL es day)) frm to
def overdueAt (es:List Entry) (day:Int):List Gift:=(giftL (asOfL es day)).filter fun g => debtB g && decide (day > g.answered + 365)
end Go.Proofs.YtigapannpbaihaaGreat
namespace Go.Proofs.YtigapannpbaihaaGreat
open Go.Eng Go.RowKit
theorem mem_rowPairs {ws:List Waiv} {g:List Guest} {a:Nat} {p:IPair}:p ∈ rowPairs ws g a <-> ∃ b,∃ hb:b < g.length,p = ⟨(a:Int),(b:Int)⟩ ∧ ws.any (fun w => coversB w (g.getD a guestZ) g[b]) = true:=by
 unfold rowPairs
 rw [List.mem_flatMap]
 constructor
 ·rintro ⟨b,hb,h⟩
  have hb:=List.mem_range.1 hb
  split at h
  ·rename_i hc
   rw [List.getD_eq_getElem?_getD (l:=g) (i:=b),List.getElem?_eq_getElem hb] at hc
   exact ⟨b,hb,List.mem_singleton.1 h,hc⟩
  ·cases h
 ·rintro ⟨b,hb,rfl,h⟩
  refine ⟨b,List.mem_range.2 hb,?_⟩
  rw [if_pos (by rw [List.getD_eq_getElem?_getD (l:=g) (i:=b),List.getElem?_eq_getElem hb]; exact h)]
  simp
theorem mem_pairsL {ws:List Waiv} {g:List Guest} {p:IPair}:p ∈ pairsL ws g <-> ∃ a,∃ ha:a < g.length,∃ b,∃ hb:b < g.length,p = ⟨(a:Int),(b:Int)⟩ ∧ ws.any (fun w => coversB w g[a] g[b]) = true:=by
 unfold pairsL
 rw [List.mem_flatMap]
 constructor
 ·rintro ⟨a,ha,h⟩
  have ha:=List.mem_range.1 ha
  obtain ⟨b,hb,e,h⟩:=mem_rowPairs.1 h
  rw [List.getD_eq_getElem?_getD,List.getElem?_eq_getElem ha] at h
  exact ⟨a,ha,b,hb,e,h⟩
 ·rintro ⟨a,ha,b,hb,e,h⟩
  exact ⟨a,List.mem_range.2 ha,mem_rowPairs.2 ⟨b,hb,e,by rw [List.getD_eq_getElem?_getD,List.getElem?_eq_getElem ha]; exact h⟩⟩
theorem pairs_has {ws:List Waiv} {g:List Guest} {a b:Nat} (ha:a < g.length) (hb:b < g.length):(pairsL ws g).any (fun p => decide (p = ⟨(a:Int),(b:Int)⟩)) = ws.any fun w => coversB w g[a] g[b]:=by
 rw [Bool.eq_iff_iff,List.any_eq_true]
 constructor
 ·rintro ⟨p,hp,e⟩
  have e:=of_decide_eq_true e
  subst e
  obtain ⟨a',ha',b',hb',e,h⟩:=mem_pairsL.1 hp
  injection e with e1 e2
  have:a' = a:=by omega
  subst this
  have:b' = b:=by omega
  subst this
  exact h
 ·intro h
  exact ⟨_,mem_pairsL.2 ⟨a,ha,b,hb,rfl,h⟩,decide_eq_true rfl⟩
end Go.Proofs.YtigapannpbaihaaGreat
namespace Go.Proofs.YtigapannpbaihaaGreat
open Go.Eng Go.RowKit
theorem sum_filter {α:Type} {p:α -> Bool} {f:α -> Int}:∀ {l:List α},(∀ x ∈ l,p x = false -> f x = 0) -> ((l.filter p).map f).sum = (l.map f).sum
 | [],_ => rfl
 | x :: r,h => by
  have ih:=sum_filter (p:=p) (f:=f) (l:=r) fun y hy => h y (by simp [hy])
  rw [List.filter_cons]
  by_cases hp:p x = true
  ·rw [if_pos hp,List.map_cons,List.sum_cons,List.map_cons,List.sum_cons,ih]
  ·rw [if_neg hp,ih,List.map_cons,List.sum_cons,h x (by simp) (by simpa using hp)]; omega
end Go.Proofs.YtigapannpbaihaaGreat
namespace Go.Proofs.YtigapannpbaihaaGreat
open Go.Eng Go.RowKit
theorem gift_plain {es:List Entry} {x:Entry} (h5:x.kind ≠ 5) (h6:x.kind ≠ 6) (h7:x.kind ≠ 7):giftL (es ++ [x]) = giftL es:=by
 rw [giftL_snoc]
 unfold giftS meetS baseS
 rw [if_neg h6,if_neg h5,if_neg h6,if_neg h7]
end Go.Proofs.YtigapannpbaihaaGreat
namespace Go.Proofs.YtigapannpbaihaaGreat
open Go.Eng Go.RowKit
theorem gift_take {es:List Entry} {x:Entry} (hk:x.kind = 6) {k:Nat} (hl:k < (giftL es).length) (hid:x.g.id = ((k + 1:Nat):Int)) :
  giftL (es ++ [x]) = (let gs:=(giftL es).set k (takeG x.day (giftL es)[k]); let r:=(giftL es)[k].returns; if r = 0 then gs else if (atN gs r).worth <= metL gs r then updAt gs r backG else gs):=by
 rw [giftL_snoc]
 unfold giftS meetS baseS
 simp only [hk,Int.reduceEq,if_true,if_false,hid]
 rw [updAt_eq hl]
 have hks:k < ((giftL es).set k (takeG x.day (giftL es)[k])).length:=by simpa using hl
 have hat:atN ((giftL es).set k (takeG x.day (giftL es)[k])) ((k + 1:Nat):Int) = takeG x.day (giftL es)[k]:=by rw [atN_get hks]; simp
 simp only [hat]
 rfl
theorem gift_refuse {es:List Entry} {x:Entry} (hk:x.kind = 7) {k:Nat} (hl:k < (giftL es).length) (hid:x.g.id = ((k + 1:Nat):Int)) :
  giftL (es ++ [x]) = (giftL es).set k (refuseG x.day (giftL es)[k]):=by
 rw [giftL_snoc]
 unfold giftS baseS meetS
 rw [if_neg (by omega),if_neg (by omega),if_pos hk,if_neg (by omega),hid,updAt_eq hl]
theorem ans_parts {sg:Int} {es:List Entry} {x:Entry} (hk:x.kind = 6 ∨ x.kind = 7) (hx:doE sg es x = 0):∃ k,∃ hl:k < (giftL es).length,x.g.id = ((k + 1:Nat):Int) ∧ (giftL es)[k].state = 1:=by
 obtain ⟨hf,hl,hr⟩:=do_zero hx
 obtain ⟨hok,_,_⟩:=form_okE hf
 unfold refusedE at hr
 rw [if_neg (by omega),if_neg (by omega),if_neg (by omega),if_pos hk] at hr
 have hid:1 <= x.g.id:=by
  unfold okE at hok
  rw [if_neg (by omega),if_neg (by omega),if_neg (by omega),if_neg (by omega),if_neg (by omega),if_pos hk,decide_eq_true_eq] at hok
  omega
 exact gift_answered (x:=x) hid hr
theorem offer_gift {sg:Int} {es:List Entry} {x:Entry} (hk:x.kind = 5) (hx:doE sg es x = 0):giftL (es ++ [x]) = giftL es ++ [{ x.g with worth:=x.g.n * rateL es x.g.cur,state:=1 }] ∧ x.g.id = (((giftL es).length + 1:Nat):Int):=by
 obtain ⟨hf,hl,hr⟩:=do_zero hx
 refine ⟨?_,?_⟩
 ·rw [giftL_snoc]
  unfold giftS baseS meetS
  rw [if_pos hk,if_neg (by omega)]
 ·unfold refusedE at hr
  rw [if_neg (by omega),if_neg (by omega),if_pos hk] at hr
  unfold offeredE at hr
  split at hr
  ·cases hr
  split at hr
  ·cases hr
  rename_i r2
  have:=Decidable.not_not.1 r2
  omega
end Go.Proofs.YtigapannpbaihaaGreat
namespace Go.Eng
open Go.RowKit
theorem Keep.grown {D:Nat -> Prop} {a b c:World} {row:Option Nat} (h:Keep D a b) (hg:b.grownBy c row) (hne:∀ k,row = some k -> ¬ D k):Keep D a c :=
 ⟨hg.os.trans h.os,hg.tape.trans h.tape,hg.output.trans h.output,Nat.le_trans h.size hg.size,fun k hD hk => (hg.block k (Nat.lt_of_lt_of_le hk h.size) (fun e => hne k e.symm hD)).trans (h.block k hD hk)⟩
theorem splice_in {a e b vs:List Value} {c:Nat} (hc:c + vs.length <= e.length):splice (a ++ (e ++ b)) (a.length + c) vs = a ++ (splice e c vs ++ b):=by
 unfold splice
 have h1:(a ++ (e ++ b)).take (a.length + c) = a ++ e.take c:=by
  rw [List.take_append,List.take_of_length_le (by omega),show a.length + c - a.length = c by omega,List.take_append_of_le_length (by omega)]
 have h2:(a ++ (e ++ b)).drop (a.length + c + vs.length) = e.drop (c + vs.length) ++ b:=by
  rw [List.drop_append,List.drop_eq_nil_of_le (by omega),show a.length + c + vs.length - a.length = c + vs.length by omega,List.drop_append_of_le_length (by omega),List.nil_append]
 rw [h1,h2]
 simp
theorem flat_field {α:Type} {enc:α -> List Value} {k:Nat} (hk:∀ x,(enc x).length = k) {l:List α} {i:Nat} (hi:i < l.length) {y:α} {c:Nat} {vs:List Value} (h:splice (enc l[i]) c vs = enc y) (hc:c + vs.length <= k) :
  splice (l.flatMap enc) (i * k + c) vs = (l.set i y).flatMap enc:=by
 have e1:l.flatMap enc = (l.take i).flatMap enc ++ (enc l[i] ++ (l.drop (i + 1)).flatMap enc):=by
  conv => lhs; rw [<-List.take_append_drop i l,List.drop_eq_getElem_cons hi]
  rw [List.flatMap_append,List.flatMap_cons]
 have hl:((l.take i).flatMap enc).length = i * k:=by
  have:∀ m:List α,(m.flatMap enc).length = m.length * k:=by
   intro m
   induction m with
   | nil => simp
   | cons x r ih => rw [List.flatMap_cons,List.length_append,hk,ih,List.length_cons,Nat.add_mul,Nat.one_mul,Nat.add_comm]
  rw [this,List.length_take,Nat.min_eq_left (Nat.le_of_lt hi)]
 have e2:(l.set i y).flatMap enc = (l.take i).flatMap enc ++ (enc y ++ (l.drop (i + 1)).flatMap enc):=by
  rw [List.set_eq_take_append_cons_drop,if_pos hi,List.flatMap_append,List.flatMap_cons]
 rw [e1,e2,<-hl,splice_in (by rw [hk]; exact hc),h]
end Go.Eng
namespace Go.Eng
open Go.RowKit
open Go.Maps (Keyed)
def MapL (P:Program) (k:Nat) (w:World) (b:Nat) (D:List (Value × Value)):Prop :=
 ∃ es clk,w.heap[b]? = some (.map es clk) ∧ (∀ e ∈ es.toList,∃ l,keyOf P k e.key = some l) ∧ (es.toList.map MapEntry.key).Nodup ∧ (∀ e ∈ es.toList,e.born < clk) ∧ (es.toList.map MapEntry.born).Nodup ∧
  (es.toList.map fun e => (e.key,e.val)).Perm D
theorem MapL.ext {P:Program} {k:Nat} {w w':World} {b:Nat} {D:List (Value × Value)} (h:MapL P k w b D) (e:Ext w w'):MapL P k w' b D :=
 let ⟨es,clk,h1,h2⟩:=h
 ⟨es,clk,e.heap h1,h2⟩
theorem MapL.same {P:Program} {k:Nat} {w w':World} {b:Nat} {D:List (Value × Value)} (h:MapL P k w b D) (e:w'.heap[b]? = w.heap[b]?):MapL P k w' b D :=
 let ⟨es,clk,h1,h2⟩:=h
 ⟨es,clk,e.trans h1,h2⟩
theorem MapL.empty {P:Program} {k:Nat} {w:World} {b:Nat} (h:w.heap[b]? = some (.map #[] 0)):MapL P k w b [] :=
 ⟨#[],0,h,fun _ h => by simp at h,by simp,fun _ h => by simp at h,by simp,by simp⟩
theorem MapL.lt {P:Program} {k:Nat} {w:World} {b:Nat} {D:List (Value × Value)} (h:MapL P k w b D):b < w.heap.size:=by
 obtain ⟨es,clk,h1,_⟩:=h
 exact lt_of_heap h1
section
variable {C:Cfg}
theorem mapLGet (hC:C.Ok) {o:Oper} {t:Nat} {m ix:Operand} {l:Env} {w:World} {b k e:Nat} {x v:Value} {lx:Lit} {ti te:TI} {D:List (Value × Value)} {ok:Bool} (hkey:keyOf C.P k x = some lx) (hM:MapL C.P k w b D) (K:Keyed C.P k)
  (ho:o.op = .lookup t m ix true) (hm:evo l m = some (.map (some b))) (hx:evo l ix = some x) (hti:C.ti t = some ti) (hd:ti.d = .map k e) (hte:C.ti e = some te)
  (hv:(ok = true ∧ (x,v) ∈ D) ∨ (ok = false ∧ v = te.zero ∧ ∀ u,(x,u) ∉ D)):QuietRun C o l w (.tuple #[v,.bool ok]):=by
 intro ρ hρ w' hw
 obtain ⟨es,clk,hb,hgood,hnd,_,_,hp⟩:=hM.ext hw
 have hu:=(hC.ti hti).isMap hd
 unfold execOp
 rw [ho]
 have hchk:∀ em,(Instr.checkKey em 10000 k x).run C.P w' = .ok () w':=fun em => K.check w' em hkey
 rcases K.find w' hkey es.toList hgood with ⟨h1,h2⟩ | ⟨j,e0,h1,h2,h3⟩
 ·have hno:∀ u,(x,u) ∉ D:=fun u hu => by
   obtain ⟨e1,he1,e2⟩:=List.mem_map.1 (hp.mem_iff.2 hu)
   injection e2 with e2 _
   exact h2 e1 he1 e2
  rcases hv with ⟨_,hv⟩ | ⟨rfl,rfl,_⟩
  ·exact absurd hv (hno v)
  ·simp only [hρ _ _ hm,hρ _ _ hx]
   simp [Instr.lookup,run_underlying hu,MapKept.run_getObj_map hb,hchk,h1,(hC.ti hte).run_zero]
 ·have hmem:(x,e0.val) ∈ D:=hp.mem_iff.1 (List.mem_map.2 ⟨e0,List.mem_of_getElem? h2,by rw [h3]⟩)
  have huniq:∀ u,(x,u) ∈ D -> u = e0.val:=fun u hu => by
   obtain ⟨e1,he1,e2⟩:=List.mem_map.1 (hp.mem_iff.2 hu)
   injection e2 with e2 e2'
   obtain ⟨i,hi⟩:=List.mem_iff_getElem?.1 he1
   have a1:(es.toList.map MapEntry.key)[i]? = some x:=by rw [List.getElem?_map,hi,<-e2]; rfl
   have a2:(es.toList.map MapEntry.key)[j]? = some x:=by rw [List.getElem?_map,h2,<-h3]; rfl
   have hlt:i < (es.toList.map MapEntry.key).length:=(List.getElem?_eq_some_iff.1 a1).1
   have:=(List.getElem?_inj hlt hnd).1 (a1.trans a2.symm)
   subst this
   rw [hi] at h2
   injection h2 with h2
   rw [<-e2',h2]
  rcases hv with ⟨rfl,hv⟩ | ⟨_,_,hv⟩
  ·have:=huniq v hv
   subst this
   simp only [hρ _ _ hm,hρ _ _ hx]
   simp [Instr.lookup,run_underlying hu,MapKept.run_getObj_map hb,hchk,h1]
  ·exact absurd hmem (hv _)
theorem mapLPut (hC:C.Ok) {o:Oper} {t:Nat} {m ix xv:Operand} {l:Env} {w:World} {b k e:Nat} {x v:Value} {lx:Lit} {ti:TI} {D:List (Value × Value)} (hkey:keyOf C.P k x = some lx) (hM:MapL C.P k w b D) (K:Keyed C.P k)
  (ho:o.op = .mapUpdate t m ix xv) (hm:evo l m = some (.map (some b))) (hx:evo l ix = some x) (hv:evo l xv = some v) (hti:C.ti t = some ti) (hd:ti.d = .map k e) (hno:∀ u,(x,u) ∉ D)
  {Q:Value -> World -> Prop} (h:∀ o' w',Put w b o' w' -> MapL C.P k w' b (D ++ [(x,v)]) -> Q undef w'):LoudRun C o l w Q:=by
 intro ρ hρ w₁ hs
 obtain ⟨es,clk,hb,hgood,hnd,hborn,hbn,hp⟩:=hM
 have hb1:w₁.heap[b]? = some (.map es clk):=by rw [hs.heap]; exact hb
 have hu:=(hC.ti hti).isMap hd
 have hchk:∀ em,(Instr.checkKey em 10000 k x).run C.P w₁ = .ok () w₁:=fun em => K.check w₁ em hkey
 rcases K.find w₁ hkey es.toList hgood with ⟨h1,h2⟩ | ⟨j,e0,h1,h2,h3⟩
 ·refine ⟨undef,_,_,.inr ⟨?_,rfl⟩,h _ _ (put_setObj hs (o':=.map (es.push ⟨x,v,clk⟩) (clk + 1)) hb) ?_,Same.refl _⟩
  ·unfold execOp
   rw [ho]
   simp [hρ _ _ hm,hρ _ _ hx,hρ _ _ hv,Instr.mapUpdate,run_underlying hu,MapKept.run_getObj_map hb1,hchk,h1,MapKept.run_setObj_map _ hb1]
  ·refine ⟨_,_,(put_setObj hs hb).here,?_,?_,?_,?_,?_⟩
   ·intro e he
    simp only [Array.toList_push,List.mem_append,List.mem_singleton] at he
    rcases he with he | rfl
    ·exact hgood e he
    ·exact ⟨_,hkey⟩
   ·rw [Array.toList_push,List.map_append,List.nodup_append]
    refine ⟨hnd,by simp,?_⟩
    intro a ha c hc
    obtain ⟨e,he,rfl⟩:=List.mem_map.1 ha
    have hc:c = x:=by simpa using hc
    subst hc
    exact h2 e he
   ·intro e he
    simp only [Array.toList_push,List.mem_append,List.mem_singleton] at he
    rcases he with he | rfl
    ·exact Nat.lt_succ_of_lt (hborn e he)
    ·exact Nat.lt_succ_self _
   ·rw [Array.toList_push,List.map_append,List.nodup_append]
    refine ⟨hbn,by simp,?_⟩
    intro a ha c hc
    obtain ⟨e,he,rfl⟩:=List.mem_map.1 ha
    have hc:c = clk:=by simpa using hc
    subst hc
    exact Nat.ne_of_lt (hborn e he)
   ·rw [Array.toList_push,List.map_append]
    exact hp.append_right _
 ·exact absurd (hp.mem_iff.1 (List.mem_map.2 ⟨e0,List.mem_of_getElem? h2,by rw [h3]⟩)) (hno e0.val)
open Classical in
noncomputable def dropK (x:Value) (D:List (Value × Value)):List (Value × Value):=D.filter fun p => !decide (p.1 = x)
theorem eraseIdx_keys {l:List MapEntry} {j:Nat} {e0:MapEntry} {x:Value} (hnd:(l.map MapEntry.key).Nodup) (h2:l[j]? = some e0) (h3:e0.key = x):((l.eraseIdx j).map fun e => (e.key,e.val)) = dropK x (l.map fun e => (e.key,e.val)):=by
 classical
 induction l generalizing j with
 | nil => simp at h2
 | cons a r ih =>
  rw [List.map_cons,List.nodup_cons] at hnd
  cases j with
  | zero =>
   simp at h2
   subst h2
   have hr:∀ e ∈ r,e.key ≠ x:=fun e he hk => hnd.1 (List.mem_map.2 ⟨e,he,by rw [hk,h3]⟩)
   unfold dropK
   rw [List.eraseIdx_cons_zero,List.map_cons,List.filter_cons,if_neg (by simp [h3])]
   symm
   rw [List.filter_eq_self]
   intro p hp
   obtain ⟨e,he,rfl⟩:=List.mem_map.1 hp
   simpa using hr e he
  | succ j =>
   have h2':r[j]? = some e0:=by simpa using h2
   have hak:a.key ≠ x:=fun hk => hnd.1 (List.mem_map.2 ⟨e0,List.mem_of_getElem? h2',by rw [h3,hk]⟩)
   have:=ih hnd.2 h2'
   unfold dropK at this ⊢
   rw [List.eraseIdx_cons_succ,List.map_cons,List.map_cons,List.filter_cons,if_pos (by simpa using hak),this]
theorem mapLDel (hC:C.Ok) {o:Oper} {t kt:Nat} {m ix:Operand} {l:Env} {w:World} {b k e:Nat} {x:Value} {lx:Lit} {ti:TI} {D:List (Value × Value)} (hkey:keyOf C.P k x = some lx) (hM:MapL C.P k w b D) (K:Keyed C.P k)
  (ho:o.op = .call ⟨.builtin .delete,#[m,ix],#[t,kt]⟩) (hm:evo l m = some (.map (some b))) (hx:evo l ix = some x) (hti:C.ti t = some ti) (hd:ti.d = .map k e)
  {Q:Value -> World -> Prop} (h:∀ o' w',Put w b o' w' -> MapL C.P k w' b (dropK x D) -> Q (.tuple #[]) w'):LoudRun C o l w Q:=by
 classical
 intro ρ hρ w₁ hs
 obtain ⟨es,clk,hb,hgood,hnd,hborn,hbn,hp⟩:=hM
 have hb1:w₁.heap[b]? = some (.map es clk):=by rw [hs.heap]; exact hb
 have hu:=(hC.ti hti).isMap hd
 have hchk:∀ em,(Instr.checkKey em 10000 k x).run C.P w₁ = .ok () w₁:=fun em => K.check w₁ em hkey
 have hfil:(dropK x (es.toList.map fun e => (e.key,e.val))).Perm (dropK x D):=hp.filter _
 rcases K.find w₁ hkey es.toList hgood with ⟨h1,h2⟩ | ⟨j,e0,h1,h2,h3⟩
 ·refine ⟨.tuple #[],_,_,.inl ?_,h _ _ (put_setObj hs (o':=.map es clk) hb) ?_,Same.refl _⟩
  ·unfold execOp
   rw [ho]
   simp [resolve,invoke,builtin,hρ _ _ hm,hρ _ _ hx,Builtin.delete_,run_underlying hu,MapKept.run_getObj_map hb1,hchk,h1,MapKept.run_setObj_map _ hb1]
  ·refine ⟨_,_,(put_setObj hs hb).here,hgood,hnd,hborn,hbn,?_⟩
   refine List.Perm.trans ?_ hfil
   have:dropK x (es.toList.map fun e => (e.key,e.val)) = es.toList.map fun e => (e.key,e.val):=by
    unfold dropK
    rw [List.filter_eq_self]
    intro p hp
    obtain ⟨e,he,rfl⟩:=List.mem_map.1 hp
    simpa using h2 e he
   rw [this]
 ·have hjl:j < es.toList.length:=(List.getElem?_eq_some_iff.1 h2).1
  have hel:(es.eraseIdxIfInBounds j).toList = es.toList.eraseIdx j:=by
   unfold Array.eraseIdxIfInBounds
   rw [dif_pos (by simpa using hjl)]
   simp
  have hsub:(es.eraseIdxIfInBounds j).toList.Sublist es.toList:=by rw [hel]; exact List.eraseIdx_sublist _ _
  refine ⟨.tuple #[],_,_,.inl ?_,h _ _ (put_setObj hs (o':=.map (es.eraseIdxIfInBounds j) clk) hb) ?_,Same.refl _⟩
  ·unfold execOp
   rw [ho]
   simp [resolve,invoke,builtin,hρ _ _ hm,hρ _ _ hx,Builtin.delete_,run_underlying hu,MapKept.run_getObj_map hb1,hchk,h1,MapKept.run_setObj_map _ hb1]
  ·refine ⟨_,_,(put_setObj hs hb).here,fun e he => hgood e (hsub.subset he),(hsub.map _).nodup hnd,fun e he => hborn e (hsub.subset he),(hsub.map _).nodup hbn,?_⟩
   rw [hel,eraseIdx_keys hnd h2 h3]
   exact hfil
end
end Go.Eng
namespace Go.Proofs.YtigapannpbaihaaGreat
open Go.Eng Go.RowKit
theorem part_agg {t:Nat} {ti:TI} (ht:C.ti t = some ti) (ha:ti.d.agg = true) (i:Nat) (cs:Array Value) (w:World):(part t cs i).run C.P w = .ok (.agg (cs.extract i (i + ti.size))) w:=by
 have h1:=(C_ok.ti ht).run_agg
 have h2:=(C_ok.ti ht).run_size
 simp [part,h1,h2,ha]
theorem Waiv.len (x:Waiv):x.cells.length = 9:=rfl
theorem fieldsW:Tryz.prog.fieldsOf 124 = #[⟨ "Id",3,0,false, "", "",0⟩,⟨ "Day",3,1,false, "", "",8⟩,⟨ "Signer",3,2,false, "", "",16⟩,⟨ "Giver",3,3,false, "", "",24⟩,⟨ "Taker",3,4,false, "", "",32⟩,⟨ "Under",3,5,false, "", "",40⟩,⟨ "Over",3,6,false, "", "",48⟩,⟨ "Since",3,7,false, "", "",56⟩,⟨ "Until",3,8,false, "", "",64⟩]:=by kernel_rfl
theorem underW:Tryz.prog.underlying 124 = some (.struct #[⟨ "Id",3,0,false, "", "",0⟩,⟨ "Day",3,1,false, "", "",8⟩,⟨ "Signer",3,2,false, "", "",16⟩,⟨ "Giver",3,3,false, "", "",24⟩,⟨ "Taker",3,4,false, "", "",32⟩,⟨ "Under",3,5,false, "", "",40⟩,⟨ "Over",3,6,false, "", "",48⟩,⟨ "Since",3,7,false, "", "",56⟩,⟨ "Until",3,8,false, "", "",64⟩]):=by kernel_rfl
def sameW (p q:Waiv) (o:Nat):Bool:=match o with
 | 0 => decide (p.id = q.id)
 | 1 => decide (p.day = q.day)
 | 2 => decide (p.signer = q.signer)
 | 3 => decide (p.giver = q.giver)
 | 4 => decide (p.taker = q.taker)
 | 5 => decide (p.under = q.under)
 | 6 => decide (p.over = q.over)
 | 7 => decide (p.since = q.since)
 | _ => decide (p.til = q.til)
set_option maxRecDepth 10000 in
theorem eqInW (d:Nat) (p q:Waiv) (w:World):(Op.equalIn (d + 2) 124 p.val q.val).run C.P w = .ok (decide (p = q)) w:=by
 have hs:C.P.stoodInHeld 124 = false:=by kernel_rfl
 have hu:C.P.underlying 124 = some (.struct (C.P.fieldsOf 124)):=by show Tryz.prog.underlying _ = some (.struct (Tryz.prog.fieldsOf _)); rw [fieldsW]; exact underW
 have h3:C.P.underlying 3 = some (.int .i64):=under3
 have h5:C.P.underlying 5 = some (.int .u8):=under5
 have p3:=part_plain (t:=3) (ti:=ty3) rfl rfl
 have p5:=part_plain (t:=5) (ti:=ty5) rfl rfl
 rw [Waiv.val,Waiv.val,run_equalIn_struct w (d + 1) 124 _ _ hu hs]
 show ((Op.eqFields (d + 1) _ _ (Tryz.prog.fieldsOf 124).toList).run C.P w) = _
 rw [fieldsW]
 rw [eqFields_run (f:=fun x => sameW p q x.offset)]
 ·obtain ⟨a0,a1,a2,a3,a4,a5,a6,a7,a8⟩:=p
  obtain ⟨b0,b1,b2,b3,b4,b5,b6,b7,b8⟩:=q
  congr 1
  rw [Bool.eq_iff_iff]
  simp [sameW]
 ·intro f hf
  simp only [List.mem_cons,List.not_mem_nil,or_false] at hf
  rcases hf with rfl | rfl | rfl | rfl | rfl | rfl | rfl | rfl | rfl
  ·exact ⟨by decide,_,_,p3 0 _ (.int .i64 p.id) w rfl,p3 0 _ (.int .i64 q.id) w rfl,eqInt_run h3 w (d) .i64 p.id q.id⟩
  ·exact ⟨by decide,_,_,p3 1 _ (.int .i64 p.day) w rfl,p3 1 _ (.int .i64 q.day) w rfl,eqInt_run h3 w (d) .i64 p.day q.day⟩
  ·exact ⟨by decide,_,_,p3 2 _ (.int .i64 p.signer) w rfl,p3 2 _ (.int .i64 q.signer) w rfl,eqInt_run h3 w (d) .i64 p.signer q.signer⟩
  ·exact ⟨by decide,_,_,p3 3 _ (.int .i64 p.giver) w rfl,p3 3 _ (.int .i64 q.giver) w rfl,eqInt_run h3 w (d) .i64 p.giver q.giver⟩
  ·exact ⟨by decide,_,_,p3 4 _ (.int .i64 p.taker) w rfl,p3 4 _ (.int .i64 q.taker) w rfl,eqInt_run h3 w (d) .i64 p.taker q.taker⟩
  ·exact ⟨by decide,_,_,p3 5 _ (.int .i64 p.under) w rfl,p3 5 _ (.int .i64 q.under) w rfl,eqInt_run h3 w (d) .i64 p.under q.under⟩
  ·exact ⟨by decide,_,_,p3 6 _ (.int .i64 p.over) w rfl,p3 6 _ (.int .i64 q.over) w rfl,eqInt_run h3 w (d) .i64 p.over q.over⟩
  ·exact ⟨by decide,_,_,p3 7 _ (.int .i64 p.since) w rfl,p3 7 _ (.int .i64 q.since) w rfl,eqInt_run h3 w (d) .i64 p.since q.since⟩
  ·exact ⟨by decide,_,_,p3 8 _ (.int .i64 p.til) w rfl,p3 8 _ (.int .i64 q.til) w rfl,eqInt_run h3 w (d) .i64 p.til q.til⟩
theorem Gift.len (x:Gift):x.cells.length = 10:=rfl
theorem fieldsG:Tryz.prog.fieldsOf 132 = #[⟨ "Id",3,0,false, "", "",0⟩,⟨ "Day",3,1,false, "", "",8⟩,⟨ "From",3,2,false, "", "",16⟩,⟨ "To",3,3,false, "", "",24⟩,⟨ "Currency",5,4,false, "", "",32⟩,⟨ "N",3,5,false, "", "",40⟩,⟨ "Worth",3,6,false, "", "",48⟩,⟨ "State",5,7,false, "", "",56⟩,⟨ "Answered",3,8,false, "", "",64⟩,⟨ "Returns",3,9,false, "", "",72⟩]:=by kernel_rfl
theorem underG:Tryz.prog.underlying 132 = some (.struct #[⟨ "Id",3,0,false, "", "",0⟩,⟨ "Day",3,1,false, "", "",8⟩,⟨ "From",3,2,false, "", "",16⟩,⟨ "To",3,3,false, "", "",24⟩,⟨ "Currency",5,4,false, "", "",32⟩,⟨ "N",3,5,false, "", "",40⟩,⟨ "Worth",3,6,false, "", "",48⟩,⟨ "State",5,7,false, "", "",56⟩,⟨ "Answered",3,8,false, "", "",64⟩,⟨ "Returns",3,9,false, "", "",72⟩]):=by kernel_rfl
def sameG (p q:Gift) (o:Nat):Bool:=match o with
 | 0 => decide (p.id = q.id)
 | 1 => decide (p.day = q.day)
 | 2 => decide (p.frm = q.frm)
 | 3 => decide (p.to = q.to)
 | 4 => decide (p.cur = q.cur)
 | 5 => decide (p.n = q.n)
 | 6 => decide (p.worth = q.worth)
 | 7 => decide (p.state = q.state)
 | 8 => decide (p.answered = q.answered)
 | _ => decide (p.returns = q.returns)
set_option maxRecDepth 10000 in
theorem eqInG (d:Nat) (p q:Gift) (w:World):(Op.equalIn (d + 2) 132 p.val q.val).run C.P w = .ok (decide (p = q)) w:=by
 have hs:C.P.stoodInHeld 132 = false:=by kernel_rfl
 have hu:C.P.underlying 132 = some (.struct (C.P.fieldsOf 132)):=by show Tryz.prog.underlying _ = some (.struct (Tryz.prog.fieldsOf _)); rw [fieldsG]; exact underG
 have h3:C.P.underlying 3 = some (.int .i64):=under3
 have h5:C.P.underlying 5 = some (.int .u8):=under5
 have p3:=part_plain (t:=3) (ti:=ty3) rfl rfl
 have p5:=part_plain (t:=5) (ti:=ty5) rfl rfl
 rw [Gift.val,Gift.val,run_equalIn_struct w (d + 1) 132 _ _ hu hs]
 show ((Op.eqFields (d + 1) _ _ (Tryz.prog.fieldsOf 132).toList).run C.P w) = _
 rw [fieldsG]
 rw [eqFields_run (f:=fun x => sameG p q x.offset)]
 ·obtain ⟨a0,a1,a2,a3,a4,a5,a6,a7,a8,a9⟩:=p
  obtain ⟨b0,b1,b2,b3,b4,b5,b6,b7,b8,b9⟩:=q
  congr 1
  rw [Bool.eq_iff_iff]
  simp [sameG]
 ·intro f hf
  simp only [List.mem_cons,List.not_mem_nil,or_false] at hf
  rcases hf with rfl | rfl | rfl | rfl | rfl | rfl | rfl | rfl | rfl | rfl
  ·exact ⟨by decide,_,_,p3 0 _ (.int .i64 p.id) w rfl,p3 0 _ (.int .i64 q.id) w rfl,eqInt_run h3 w (d) .i64 p.id q.id⟩
  ·exact ⟨by decide,_,_,p3 1 _ (.int .i64 p.day) w rfl,p3 1 _ (.int .i64 q.day) w rfl,eqInt_run h3 w (d) .i64 p.day q.day⟩
  ·exact ⟨by decide,_,_,p3 2 _ (.int .i64 p.frm) w rfl,p3 2 _ (.int .i64 q.frm) w rfl,eqInt_run h3 w (d) .i64 p.frm q.frm⟩
  ·exact ⟨by decide,_,_,p3 3 _ (.int .i64 p.to) w rfl,p3 3 _ (.int .i64 q.to) w rfl,eqInt_run h3 w (d) .i64 p.to q.to⟩
  ·exact ⟨by decide,_,_,p5 4 _ (.int .u8 p.cur) w rfl,p5 4 _ (.int .u8 q.cur) w rfl,eqInt_run h5 w (d) .u8 p.cur q.cur⟩
  ·exact ⟨by decide,_,_,p3 5 _ (.int .i64 p.n) w rfl,p3 5 _ (.int .i64 q.n) w rfl,eqInt_run h3 w (d) .i64 p.n q.n⟩
  ·exact ⟨by decide,_,_,p3 6 _ (.int .i64 p.worth) w rfl,p3 6 _ (.int .i64 q.worth) w rfl,eqInt_run h3 w (d) .i64 p.worth q.worth⟩
  ·exact ⟨by decide,_,_,p5 7 _ (.int .u8 p.state) w rfl,p5 7 _ (.int .u8 q.state) w rfl,eqInt_run h5 w (d) .u8 p.state q.state⟩
  ·exact ⟨by decide,_,_,p3 8 _ (.int .i64 p.answered) w rfl,p3 8 _ (.int .i64 q.answered) w rfl,eqInt_run h3 w (d) .i64 p.answered q.answered⟩
  ·exact ⟨by decide,_,_,p3 9 _ (.int .i64 p.returns) w rfl,p3 9 _ (.int .i64 q.returns) w rfl,eqInt_run h3 w (d) .i64 p.returns q.returns⟩
theorem Entry.len (x:Entry):x.cells.length = 24:=rfl
theorem fieldsE:Tryz.prog.fieldsOf 134 = #[⟨ "Kind",5,0,false, "", "",0⟩,⟨ "Day",3,1,false, "", "",8⟩,⟨ "Waiver",124,2,false, "", "",16⟩,⟨ "Gift",132,11,false, "", "",88⟩,⟨ "A",3,21,false, "", "",168⟩,⟨ "B",3,22,false, "", "",176⟩,⟨ "N",3,23,false, "", "",184⟩]:=by kernel_rfl
theorem underE:Tryz.prog.underlying 134 = some (.struct #[⟨ "Kind",5,0,false, "", "",0⟩,⟨ "Day",3,1,false, "", "",8⟩,⟨ "Waiver",124,2,false, "", "",16⟩,⟨ "Gift",132,11,false, "", "",88⟩,⟨ "A",3,21,false, "", "",168⟩,⟨ "B",3,22,false, "", "",176⟩,⟨ "N",3,23,false, "", "",184⟩]):=by kernel_rfl
def sameE (p q:Entry) (o:Nat):Bool:=match o with
 | 0 => decide (p.kind = q.kind)
 | 1 => decide (p.day = q.day)
 | 2 => decide (p.w = q.w)
 | 11 => decide (p.g = q.g)
 | 21 => decide (p.a = q.a)
 | 22 => decide (p.b = q.b)
 | _ => decide (p.n = q.n)
set_option maxRecDepth 10000 in
theorem eqInE (d:Nat) (p q:Entry) (w:World):(Op.equalIn (d + 3) 134 p.val q.val).run C.P w = .ok (decide (p = q)) w:=by
 have hs:C.P.stoodInHeld 134 = false:=by kernel_rfl
 have hu:C.P.underlying 134 = some (.struct (C.P.fieldsOf 134)):=by show Tryz.prog.underlying _ = some (.struct (Tryz.prog.fieldsOf _)); rw [fieldsE]; exact underE
 have h3:C.P.underlying 3 = some (.int .i64):=under3
 have h5:C.P.underlying 5 = some (.int .u8):=under5
 have p3:=part_plain (t:=3) (ti:=ty3) rfl rfl
 have p5:=part_plain (t:=5) (ti:=ty5) rfl rfl
 rw [Entry.val,Entry.val,run_equalIn_struct w (d + 2) 134 _ _ hu hs]
 show ((Op.eqFields (d + 2) _ _ (Tryz.prog.fieldsOf 134).toList).run C.P w) = _
 rw [fieldsE]
 rw [eqFields_run (f:=fun x => sameE p q x.offset)]
 ·obtain ⟨a0,a1,a2,a3,a4,a5,a6⟩:=p
  obtain ⟨b0,b1,b2,b3,b4,b5,b6⟩:=q
  congr 1
  rw [Bool.eq_iff_iff]
  simp [sameE]
 ·intro f hf
  simp only [List.mem_cons,List.not_mem_nil,or_false] at hf
  rcases hf with rfl | rfl | rfl | rfl | rfl | rfl | rfl
  ·exact ⟨by decide,_,_,p5 0 _ (.int .u8 p.kind) w rfl,p5 0 _ (.int .u8 q.kind) w rfl,eqInt_run h5 w (d + 1) .u8 p.kind q.kind⟩
  ·exact ⟨by decide,_,_,p3 1 _ (.int .i64 p.day) w rfl,p3 1 _ (.int .i64 q.day) w rfl,eqInt_run h3 w (d + 1) .i64 p.day q.day⟩
  ·exact ⟨by decide,p.w.val,q.w.val,part_agg (ti:=ty124) rfl rfl 2 _ w,part_agg (ti:=ty124) rfl rfl 2 _ w,eqInW d p.w q.w w⟩
  ·exact ⟨by decide,p.g.val,q.g.val,part_agg (ti:=ty132) rfl rfl 11 _ w,part_agg (ti:=ty132) rfl rfl 11 _ w,eqInG d p.g q.g w⟩
  ·exact ⟨by decide,_,_,p3 21 _ (.int .i64 p.a) w rfl,p3 21 _ (.int .i64 q.a) w rfl,eqInt_run h3 w (d + 1) .i64 p.a q.a⟩
  ·exact ⟨by decide,_,_,p3 22 _ (.int .i64 p.b) w rfl,p3 22 _ (.int .i64 q.b) w rfl,eqInt_run h3 w (d + 1) .i64 p.b q.b⟩
  ·exact ⟨by decide,_,_,p3 23 _ (.int .i64 p.n) w rfl,p3 23 _ (.int .i64 q.n) w rfl,eqInt_run h3 w (d + 1) .i64 p.n q.n⟩
theorem eqE (x y:Operand) (p q:Entry):EqIs C.P .eql 134 x y p.val q.val (decide (p = q)):=by
 intro w
 have hm:C.P.eqGuardType C.P.depth 134 = false:=by kernel_rfl
 rw [Sem.run_bind,Entry.val,Entry.val,run_eqGuard_agg w .eql 134 x y _ _ hm]
 simp only [Result.andThen_ok]
 rw [run_eql_struct]
 have:=eqInE 9997 p q w
 rw [Entry.val,Entry.val] at this
 rw [this]
 rfl
theorem IPair.len (x:IPair):x.cells.length = 2:=rfl
theorem fieldsP:Tryz.prog.fieldsOf 128 = #[⟨ "A",3,0,false, "", "",0⟩,⟨ "B",3,1,false, "", "",8⟩]:=by kernel_rfl
theorem underP:Tryz.prog.underlying 128 = some (.struct #[⟨ "A",3,0,false, "", "",0⟩,⟨ "B",3,1,false, "", "",8⟩]):=by kernel_rfl
def sameP (p q:IPair) (o:Nat):Bool:=match o with
 | 0 => decide (p.a = q.a)
 | _ => decide (p.b = q.b)
set_option maxRecDepth 10000 in
theorem eqInP (d:Nat) (p q:IPair) (w:World):(Op.equalIn (d + 2) 128 p.val q.val).run C.P w = .ok (decide (p = q)) w:=by
 have hs:C.P.stoodInHeld 128 = false:=by kernel_rfl
 have hu:C.P.underlying 128 = some (.struct (C.P.fieldsOf 128)):=by show Tryz.prog.underlying _ = some (.struct (Tryz.prog.fieldsOf _)); rw [fieldsP]; exact underP
 have h3:C.P.underlying 3 = some (.int .i64):=under3
 have h5:C.P.underlying 5 = some (.int .u8):=under5
 have p3:=part_plain (t:=3) (ti:=ty3) rfl rfl
 have p5:=part_plain (t:=5) (ti:=ty5) rfl rfl
 rw [IPair.val,IPair.val,run_equalIn_struct w (d + 1) 128 _ _ hu hs]
 show ((Op.eqFields (d + 1) _ _ (Tryz.prog.fieldsOf 128).toList).run C.P w) = _
 rw [fieldsP]
 rw [eqFields_run (f:=fun x => sameP p q x.offset)]
 ·obtain ⟨a0,a1⟩:=p
  obtain ⟨b0,b1⟩:=q
  congr 1
  rw [Bool.eq_iff_iff]
  simp [sameP]
 ·intro f hf
  simp only [List.mem_cons,List.not_mem_nil,or_false] at hf
  rcases hf with rfl | rfl
  ·exact ⟨by decide,_,_,p3 0 _ (.int .i64 p.a) w rfl,p3 0 _ (.int .i64 q.a) w rfl,eqInt_run h3 w (d) .i64 p.a q.a⟩
  ·exact ⟨by decide,_,_,p3 1 _ (.int .i64 p.b) w rfl,p3 1 _ (.int .i64 q.b) w rfl,eqInt_run h3 w (d) .i64 p.b q.b⟩
theorem eqP (x y:Operand) (p q:IPair):EqIs C.P .eql 128 x y p.val q.val (decide (p = q)):=by
 intro w
 have hm:C.P.eqGuardType C.P.depth 128 = false:=by kernel_rfl
 rw [Sem.run_bind,IPair.val,IPair.val,run_eqGuard_agg w .eql 128 x y _ _ hm]
 simp only [Result.andThen_ok]
 rw [run_eql_struct]
 have:=eqInP 9998 p q w
 rw [IPair.val,IPair.val] at this
 rw [this]
 rfl
structure HL {α:Type} (enc:α -> List Value) (w:World) (A:Option Addr) (l:List α) (c:Nat):Prop where
 reads:Reads w A (l.flatMap enc)
 len:l.length <= c
 cap:l.length <= 9223372036854775807
theorem HL.ext {α:Type} {enc:α -> List Value} {w w':World} {A:Option Addr} {l:List α} {c:Nat} (h:HL enc w A l c) (e:Ext w w'):HL enc w' A l c:=⟨h.reads.ext e,h.len,h.cap⟩
def NewL {α:Type} (enc:α -> List Value) (T k:Nat) (B:Nat) (w:World) (v:Value) (l:List α):Prop:=w.ownsRow B T k v l.length (l.flatMap enc)
theorem NewL.base {α:Type} {enc:α -> List Value} {T k B B':Nat} {w:World} {v:Value} {l:List α} (h:NewL enc T k B' w v l) (hb:B <= B'):NewL enc T k B w v l:=ownsRow_base h hb
theorem NewL.ext {α:Type} {enc:α -> List Value} {T k B:Nat} {w w':World} {v:Value} {l:List α} (h:NewL enc T k B w v l) (e:Ext w w'):NewL enc T k B w' v l:=ownsRow_ext h e
theorem newL_nil {α:Type} {enc:α -> List Value} {T k B:Nat} {w:World}:NewL enc T k B w (.slice none 0 0) ([]:List α):=World.ownsRow_nil _ _ _ _
theorem NewL.hl {α:Type} {enc:α -> List Value} {T k B:Nat} {w:World} {v:Value} {l:List α} (h:NewL enc T k B w v l):∃ A c,v = .slice A l.length c ∧ HL enc w A l c:=by
 obtain ⟨A,c,rfl,hr,hc⟩:=reads_of_owns h
 exact ⟨A,c,rfl,hr,hc,ownsRow_len h⟩
theorem HL.at {α:Type} {enc:α -> List Value} {w:World} {A:Option Addr} {l:List α} {c k:Nat} (h:HL enc w A l c) (hk:∀ x,(enc x).length = k) (k0:0 < k) {i:Nat} (hi:i < l.length):∃ b o,A = some ⟨b,o,none⟩ ∧ Rd w b (o + i * k) (enc l[i]):=Reads.elem hk k0 h.reads hi
end Go.Proofs.YtigapannpbaihaaGreat
namespace Go.Proofs.YtigapannpbaihaaGreat.Rk
open Go.Eng Go.RowKit
structure Prof where
 cls:Int
 visit:Int
 host:Bool
 dep:Bool
 mourn:Bool
 cred:Int
 letter:Int
deriving DecidableEq
def profZ:Prof:=⟨0,0,false,false,false,0,0⟩
instance:Inhabited Prof:=⟨profZ⟩
def Prof.cells (p:Prof):List Value:=[.int .i64 p.cls,.int .i64 p.visit,.bool p.host,.bool p.dep,.bool p.mourn,.int .i64 p.cred,.int .i64 p.letter]
def Prof.val (p:Prof):Value:=.agg p.cells.toArray
end Go.Proofs.YtigapannpbaihaaGreat.Rk
