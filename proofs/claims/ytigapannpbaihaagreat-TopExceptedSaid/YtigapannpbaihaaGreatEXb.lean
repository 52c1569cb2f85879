/- a part of the proof: steps, walks and plain laws that the law below stands on; no condition. -/
import Derived.Test.YtigapannpbaihaaGreatEXa
import Derived.Deep.LoopGhost
set_option linter.unusedVariables false
set_option linter.unusedSimpArgs false
set_option linter.unnecessarySimpa false
set_option linter.unusedSectionVars false
namespace Go.Eng
open Go.RowKit
section
variable {P:Program} {ops:Array Oper} {Q:Exit -> Act -> World -> Prop} {md:Region.Mode} {R:Nat -> World -> World -> Prop}
def wpAnyX (P:Program) (md:Region.Mode) (ops:Array Oper) (Q:Exit -> Act -> World -> Prop) (R:Nat -> World -> World -> Prop):Nat -> Array Bool -> Act -> World -> Prop
 | 0,listed,a,w => Region.ready md ops listed = [] ∧ Q .normal a w
 | fuel + 1,listed,a,w =>
  (Region.ready md ops listed = [] -> Q .normal a w) ∧
  ∀ i ∈ Region.ready md ops listed,wpOp P ops Q i (fun a' w' => R i w w' ∧ wpAnyX P md ops Q R fuel (listed.setIfInBounds i true) a' w') a w
theorem wpAny_of_X:∀ (fuel:Nat) (listed:Array Bool) (a:Act) (w:World),wpAnyX P md ops Q R fuel listed a w -> wpAny P md ops Q fuel listed a w
 | 0,_,_,_,h => h
 | fuel + 1,_,_,_,h => ⟨h.1,fun i hi => wpOp_mono (fun a' w' h' => wpAny_of_X fuel _ a' w' h'.2) (h.2 i hi)⟩
def waits (md:Region.Mode) (ops:Array Oper):Nat -> Nat -> Nat -> Bool
 | 0,_,_ => false
 | f + 1,j,i => match ops[j]? with
  | some o => o.after.any fun e => Region.binds md e && (e.on == i || waits md ops f e.on i)
  | none => false
def Closed (md:Region.Mode) (ops:Array Oper) (listed:Array Bool):Prop :=
 ∀ j oj,ops[j]? = some oj -> listed.getD j false = true -> ∀ e ∈ oj.after,Region.binds md e = true -> listed.getD e.on false = true
theorem Closed.set {listed:Array Bool} (hc:Closed md ops listed) {i:Nat} (hi:i ∈ Region.ready md ops listed):Closed md ops (listed.setIfInBounds i true):=by
 obtain ⟨_,oi,hoi,hall⟩:=mem_ready.1 hi
 intro j oj hj hl e he hb
 by_cases hij:i = j
 ·subst hij
  have:oj = oi:=Option.some.inj (hj.symm.trans hoi)
  subst this
  exact getD_set_true (hall e he hb)
 ·rw [getD_set_ne false hij] at hl
  exact getD_set_true (hc j oj hj hl e he hb)
theorem waits_listed {listed:Array Bool} (hc:Closed md ops listed) {i:Nat}:∀ (f j:Nat),waits md ops f j i = true -> (j ∈ Region.ready md ops listed ∨ listed.getD j false = true) -> listed.getD i false = true
 | 0,_,h,_ => by simp [waits] at h
 | f + 1,j,h,hj => by
  unfold waits at h
  split at h
  ·rename_i o ho
   obtain ⟨e,he,hb⟩:=Array.any_eq_true'.1 h
   simp only [Bool.and_eq_true,Bool.or_eq_true,beq_iff_eq] at hb
   have hl:listed.getD e.on false = true:=by
    rcases hj with hj | hj
    ·obtain ⟨_,o',ho',hall⟩:=mem_ready.1 hj
     have:o' = o:=Option.some.inj (ho'.symm.trans ho)
     subst this
     exact hall e he hb.1
    ·exact hc j o ho hj e he hb.1
   rcases hb.2 with h1 | h1
   ·rw [<-h1]; exact hl
   ·exact waits_listed hc f e.on h1 (.inr hl)
  ·simp at h
theorem getD_false_of_true {listed:Array Bool} {i:Nat} (h:listed.getD i true = false):listed.getD i false = false:=by
 rcases Nat.lt_or_ge i listed.size with h' | h'
 ·simp [h'] at h ⊢; exact h
 ·simp [Array.getElem?_eq_none h'] at h
theorem wpAnyX_first {S:World -> Prop} {ex:Nat -> Bool} {i:Nat} {oi:Oper} {v:Value} (hi:ops[i]? = some oi) (hsel:∀ (j:Nat) (o:Oper) cs b,ops[j]? = some o -> o.op ≠ .select cs b)
  (hQ:∀ c a w,Q (.panic c) (a.put oi.dst v) w -> Q (.panic c) a w) (hR:∀ w,R i w w) (hS:∀ j w w',ex j = false -> R j w w' -> S w -> S w') :
  ∀ (fuel:Nat) (listed:Array Bool) (a:Act) (w:World),Closed md ops listed →
   (∀ j oj,ops[j]? = some oj -> j ≠ i -> listed.getD j true = false -> (∀ e ∈ oj.after,Region.binds md e = true -> e.on ≠ i) -> oi.apart ops oj = true) →
   (∀ j,ex j = true -> j ≠ i -> listed.getD j true = false -> ∃ f,waits md ops f j i = true) →
   i ∈ Region.ready md ops listed -> YieldsIf P ops S oi v a -> S w →
   wpAnyX P md ops Q R fuel (listed.setIfInBounds i true) (a.put oi.dst v) w -> wpAnyX P md ops Q R (fuel + 1) listed a w:=by
 intro fuel
 induction fuel with
 | zero =>
  intro listed a w _ _ _ hr hy hw H
  refine ⟨fun h => (by rw [h] at hr; cases hr),fun j hj => ?_⟩
  by_cases hji:j = i
  ·subst hji; exact hy.wpOp hi hw ⟨hR w,H⟩
  ·have:=ready_mono hj hji
   rw [H.1] at this
   cases this
 | succ fuel ih =>
  intro listed a w hcl hfree hbar hr hy hw H
  refine ⟨fun h => (by rw [h] at hr; cases hr),fun j hj => ?_⟩
  by_cases hji:j = i
  ·subst hji; exact hy.wpOp hi hw ⟨hR w,H⟩
  ·have h1:=H.2 j (ready_mono hj hji)
   obtain ⟨hjun,oj,hoj,hall⟩:=mem_ready.1 hj
   have hiun:=getD_false_of_true (mem_ready.1 hr).1
   have hnot:∀ e ∈ oj.after,Region.binds md e = true -> e.on ≠ i:=fun e he hb heq => by
    have h1:=hall e he hb
    rw [heq,hiun] at h1
    cases h1
   have hbj:ex j = false:=by
    cases hb:ex j with
    | false => rfl
    | true =>
     obtain ⟨f,hf⟩:=hbar j hb hji hjun
     have:=waits_listed hcl f j hf (.inl hj)
     rw [hiun] at this; cases this
   have h2:=wpOp_putIf hoj (hfree j oj hoj hji hjun hnot) (fun cs b => hsel i oi cs b hi) (fun cs b => hsel j oj cs b hoj) hQ hy h1
   have hfree':∀ k ok,ops[k]? = some ok -> k ≠ i -> (listed.setIfInBounds j true).getD k true = false →
     (∀ e ∈ ok.after,Region.binds md e = true -> e.on ≠ i) -> oi.apart ops ok = true:=fun k ok hk hki hun hno => by
    refine hfree k ok hk hki ?_ hno
    by_cases hjk:j = k
    ·subst hjk; exact hjun
    ·rw [getD_set_ne true hjk] at hun; exact hun
   have hbar':∀ k,ex k = true -> k ≠ i -> (listed.setIfInBounds j true).getD k true = false -> ∃ f,waits md ops f k i = true:=fun k hk hki hun => by
    refine hbar k hk hki ?_
    by_cases hjk:j = k
    ·subst hjk; exact hjun
    ·rw [getD_set_ne true hjk] at hun; exact hun
   refine wpOp_mono (fun a' w' h3 => ⟨h3.2.1,ih (listed.setIfInBounds j true) a' w' (hcl.set hj) hfree' hbar' (ready_mono hr (Ne.symm hji)) h3.1 (hS j w w' hbj h3.2.1 hw) ?_⟩) h2
   rw [Array.setIfInBounds_comm _ _ hji]
   exact h3.2.2
end
def dstOf (all:List Oper) (i:Nat):Option Nat:=match all[i]? with
 | some o => o.dst
 | none => none
def guardE (all:List Oper) (o:Oper) (l:Env) (yes no:Env -> Prop):Prop:=match o.guard with
 | none => yes l
 | some (j,want) => withO (dstOf all j) fun d => withO (look l d) fun v => match v with
  | .bool b => match want with
   | true => brE b (yes ((d,.bool true) :: l)) (no ((d,.bool false) :: l))
   | false => brE b (no ((d,.bool true) :: l)) (yes ((d,.bool false) :: l))
  | _ => no l
def isLoud:Op -> Bool
 | .alloc _ | .box .. | .buildSlice .. | .makeSlice .. | .store .. | .makeMap .. | .mapUpdate .. | .insert .. | .entryStore .. | .mapEntry .. | .range .. | .next .. | .panic _ => true
 | .call ⟨.builtin .len,_,_⟩ | .call ⟨.builtin .cap,_,_⟩ | .call ⟨.builtin .min,_,_⟩ | .call ⟨.builtin .max,_,_⟩ => false
 | .call _ => true
 | _ => false
def opE (C:Cfg) (o:Oper) (l:Env) (w:World) (K:Value -> World -> Prop):Prop:=match isLoud o.op with
 | true => opL C o l w K
 | false => opQ C o l w fun v => K v w
abbrev RunT:=Env -> World -> (Env -> World -> Prop) -> Prop
noncomputable def runL (C:Cfg) (all:List Oper) (os:List Oper):RunT :=
 List.rec (motive:=fun _ => RunT) (fun l w K => K l w)
  (fun o _ ih l w K => guardE all o l (fun l => opE C o l w fun v w' => ih (bindv o.dst v l) w' K) (fun l => ih (bindv o.dst undef l) w K)) os
theorem runL_cons (C:Cfg) (all:List Oper) (o:Oper) (r:List Oper) (l:Env) (w:World) (K:Env -> World -> Prop) :
  runL C all (o :: r) l w K = guardE all o l (fun l => opE C o l w fun v w' => runL C all r (bindv o.dst v l) w' K) (fun l => runL C all r (bindv o.dst undef l) w K):=rfl
structure Keep (D:Nat -> Prop) (a b:World):Prop where
 os:b.os = a.os
 tape:b.tape = a.tape
 output:b.output = a.output
 size:a.heap.size <= b.heap.size
 block:∀ k,D k -> k < a.heap.size -> b.heap[k]? = a.heap[k]?
theorem Keep.refl (D:Nat -> Prop) (w:World):Keep D w w:=⟨rfl,rfl,rfl,Nat.le_refl _,fun _ _ _ => rfl⟩
theorem Keep.ext {D:Nat -> Prop} {a b c:World} (h:Keep D a b) (e:Ext b c):Keep D a c :=
 ⟨e.os.trans h.os,e.tape.trans h.tape,e.output.trans h.output,Nat.le_trans h.size e.size,fun k hD hk => (e.block k (Nat.lt_of_lt_of_le hk h.size)).trans (h.block k hD hk)⟩
theorem Keep.heap {D:Nat -> Prop} {w w':World} (h:Keep D w w') {k:Nat} (hD:D k) {o:Obj} (hv:w.heap[k]? = some o):w'.heap[k]? = some o:=by
 have hk:k < w.heap.size:=(Array.getElem?_eq_some_iff.1 hv).1
 rw [h.block k hD hk]; exact hv
theorem Keep.cell {D:Nat -> Prop} {w w':World} (h:Keep D w w') {p:Addr} (hD:D p.block) {v:Value} (hv:w.cell? p = some v):w'.cell? p = some v:=by
 rw [<-hv]
 exact World.cell?_of_block (w:=w) (h.block _ hD (block_lt_of_cell hv))
theorem Keep.rd {D:Nat -> Prop} {w w':World} (h:Keep D w w') {b o:Nat} (hD:D b) {cs:List Value} (hr:Rd w b o cs):Rd w' b o cs:=fun i v hv => h.cell hD (hr i v hv)
def stepD (C:Cfg) (D:Nat -> Prop) (w₀:World) (o:Oper) (k:Nat) (l:Env) (w:World) (K:Value -> World -> Prop):Prop:=match k with
 | 0 => opQ C o l w fun v => K v w
 | 3 => opQ C o l w fun v => K v w
 | 4 => ∃ v,(∀ u,Keep D w₀ u -> opQ C o l u fun x => x = v) ∧ K v w
 | 1 => opL C o l w fun v w' => Ext w w' ∧ K v w'
 | 5 => opL C o l w fun v w' => Keep D w₀ w' ∧ K v w'
 | _ => opL C o l w fun v w' => K v w'
inductive PlanT where
 | done
 | op (i k:Nat) (r:PlanT)
 | fork (p q:PlanT)
noncomputable def runD (C:Cfg) (D:Nat -> Prop) (w₀:World) (all:List Oper) (plan:PlanT):RunT :=
 PlanT.rec (motive:=fun _ => RunT) (fun l w K => K l w)
  (fun i k _ ih l w K => withO all[i]? fun o => guardE all o l (fun l => stepD C D w₀ o k l w fun v w' => ih (bindv o.dst v l) w' K) (fun l => ih (bindv o.dst undef l) w K))
  (fun _ _ ihp ihq l w K => ihp l w K ∧ ihq l w K) plan
theorem runD_cons (C:Cfg) (D:Nat -> Prop) (w₀:World) (all:List Oper) (i k:Nat) (r:PlanT) (l:Env) (w:World) (K:Env -> World -> Prop) :
  runD C D w₀ all (.op i k r) l w K = withO all[i]? fun o => guardE all o l (fun l => stepD C D w₀ o k l w fun v w' => runD C D w₀ all r (bindv o.dst v l) w' K) (fun l => runD C D w₀ all r (bindv o.dst undef l) w K):=rfl
theorem runD_fork (C:Cfg) (D:Nat -> Prop) (w₀:World) (all:List Oper) (p q:PlanT) (l:Env) (w:World) (K:Env -> World -> Prop):runD C D w₀ all (.fork p q) l w K = (runD C D w₀ all p l w K ∧ runD C D w₀ all q l w K):=rfl
def hasMid:PlanT -> Bool
 | .done => false
 | .op _ 5 _ => true
 | .op _ _ r => hasMid r
 | .fork p q => hasMid p || hasMid q
def thenE (Q:Exit -> Env -> World -> Prop) (K:Env -> World -> Prop):Exit -> Env -> World -> Prop
 | .normal,l,w => K l w
 | e,l,w => Q e l w
def blockE (id:Nat) (Q:Exit -> Env -> World -> Prop):Exit -> Env -> World -> Prop
 | .exit id',l,w => match Nat.beq id' id with
  | true => Q .normal l w
  | false => Q (.exit id') l w
 | e,l,w => Q e l w
abbrev Dr (C:Cfg) (d:Nat) (w:World):Prop:=C.dr = true -> d <= w.drawn
theorem Dr.step {C:Cfg} {d:Nat} {w w':World} (h:Dr C d w) (k:C.dr = true -> w.drawn <= w'.drawn):Dr C d w':=fun hb => Nat.le_trans (h hb) (k hb)
def Lift (C:Cfg) (n d:Nat) (Q:Exit -> Env -> World -> Prop) (e:Exit) (a:Act) (w:World):Prop:=∃ l w',Q e l w' ∧ Rep n C.df a l ∧ Same w' w ∧ Dr C d w
def Snd (C:Cfg) (n:Nat) (c:Code) (l:Env) (w:World) (Q:Exit -> Env -> World -> Prop):Prop :=
 ∀ d a w₁,Rep n C.df a l -> Same w w₁ -> Dr C d w₁ -> c.wp C.P (Lift C n d Q) a w₁
def bars:PlanT -> List Nat
 | .done => []
 | .op i k r => if k = 2 then i :: bars r else bars r
 | .fork p q => bars p ++ bars q
def mids:PlanT -> List Nat
 | .done => []
 | .op i k r => if k = 5 then i :: mids r else mids r
 | .fork p q => mids p ++ mids q
def PlanT.len:PlanT -> Nat
 | .done => 0
 | .op _ _ r => r.len + 1
 | .fork p _ => p.len
def starts:PlanT -> List Nat
 | .done => []
 | .op i _ _ => [i]
 | .fork p q => starts p ++ starts q
def maskOf (acc:List Nat) (o:Oper):Nat:=o.after.toList.foldl (fun m e => if Region.binds .any e then m ||| (2 ^ e.on ||| acc.getD e.on 0) else m) 0
def masks:List Oper -> List Nat -> List Nat
 | [],acc => acc
 | o :: r,acc => masks r (acc ++ [maskOf acc o])
theorem maskOf_spec {acc:List Nat} {o:Oper} {i:Nat} (h:(maskOf acc o).testBit i = true):∃ e ∈ o.after,Region.binds .any e = true ∧ (e.on = i ∨ (acc.getD e.on 0).testBit i = true):=by
 have key:∀ (es:List Edge) (m:Nat),(es.foldl (fun m e => if Region.binds .any e then m ||| (2 ^ e.on ||| acc.getD e.on 0) else m) m).testBit i = true →
   m.testBit i = true ∨ ∃ e ∈ es,Region.binds .any e = true ∧ (e.on = i ∨ (acc.getD e.on 0).testBit i = true):=by
  intro es
  induction es with
  | nil => intro m h; exact .inl h
  | cons e es ih =>
   intro m h
   rw [List.foldl_cons] at h
   rcases ih _ h with h | ⟨e',he',hb⟩
   ·by_cases hb:Region.binds .any e = true
    ·rw [if_pos hb] at h
     simp only [Nat.testBit_or,Bool.or_eq_true] at h
     rcases h with h | h | h
     ·exact .inl h
     ·rw [Nat.testBit_two_pow] at h
      exact .inr ⟨e,List.mem_cons_self,hb,.inl (by simpa using h)⟩
     ·exact .inr ⟨e,List.mem_cons_self,hb,.inr h⟩
    ·rw [if_neg hb] at h
     exact .inl h
   ·exact .inr ⟨e',List.mem_cons_of_mem _ he',hb⟩
 rcases key o.after.toList 0 h with h | ⟨e,he,hb⟩
 ·simp at h
 ·exact ⟨e,by simpa using he,hb⟩
theorem masks_spec {ops:Array Oper}:∀ (r:List Oper) (acc:List Nat),(∀ j,r[j]? = ops[acc.length + j]?) -> (∀ j i,(acc.getD j 0).testBit i = true -> ∃ f,waits .any ops f j i = true) →
  ∀ j i,((masks r acc).getD j 0).testBit i = true -> ∃ f,waits .any ops f j i = true
 | [],acc,_,h => h
 | o :: r,acc,hl,h => by
  refine masks_spec r (acc ++ [maskOf acc o]) (fun j => by have:=hl (j + 1); simpa [Nat.add_assoc,Nat.add_comm 1 j] using this) ?_
  intro j i hb
  rw [List.getD_eq_getElem?_getD] at hb
  rcases Nat.lt_trichotomy j acc.length with hj | hj | hj
  ·rw [List.getElem?_append_left hj] at hb
   exact h j i (by rw [List.getD_eq_getElem?_getD]; exact hb)
  ·subst hj
   rw [List.getElem?_append_right (Nat.le_refl _)] at hb
   simp at hb
   obtain ⟨e,he,hbn,hor⟩:=maskOf_spec hb
   have ho:ops[acc.length]? = some o:=by simpa using (hl 0).symm
   rcases hor with hi | hi
   ·exact ⟨1,by simp only [waits,ho]; exact Array.any_eq_true'.2 ⟨e,he,by simp [hbn,hi]⟩⟩
   ·obtain ⟨f,hf⟩:=h e.on i hi
    exact ⟨f + 1,by simp only [waits,ho]; exact Array.any_eq_true'.2 ⟨e,he,by simp [hbn,hf]⟩⟩
  ·rw [List.getElem?_eq_none (by simp; omega)] at hb
   simp at hb
def planGo (ops:Array Oper) (ms:List Nat) (bs cs:List Nat):Bool -> PlanT -> Array Bool -> Bool
 | top,.done,listed => top && (Region.ready .any ops listed).isEmpty
 | top,.op i 0 r,listed => top && (Region.ready .any ops listed).contains i && Region.free .any ops listed i && !bs.contains i && !cs.contains i &&
   (bs ++ cs).all (fun j => listed.getD j true || (ms.getD j 0).testBit i) && planGo ops ms bs cs true r (listed.setIfInBounds i true)
 | top,.op i 3 r,listed => top && (Region.ready .any ops listed).contains i && Region.free .any ops listed i && (match ops[i]? with | some o => isPure o.op | none => false) && planGo ops ms bs cs true r (listed.setIfInBounds i true)
 | top,.op i 4 r,listed => top && (Region.ready .any ops listed).contains i && Region.free .any ops listed i && !bs.contains i && !cs.contains i &&
   bs.all (fun j => (ms.getD j 0).testBit i) && planGo ops ms bs cs true r (listed.setIfInBounds i true)
 | top,.op i 1 r,listed => !bs.contains i && !cs.contains i && (Region.ready .any ops listed).contains i && (!top || (Region.ready .any ops listed).all (· == i)) && planGo ops ms bs cs true r (listed.setIfInBounds i true)
 | top,.op i 5 r,listed => !bs.contains i && cs.contains i && (Region.ready .any ops listed).contains i && (!top || (Region.ready .any ops listed).all (· == i)) && planGo ops ms bs cs true r (listed.setIfInBounds i true)
 | top,.op i 2 r,listed => bs.contains i && (Region.ready .any ops listed).contains i && (!top || (Region.ready .any ops listed).all (· == i)) && planGo ops ms bs cs true r (listed.setIfInBounds i true)
 | _,.op ..,_ => false
 | top,.fork p q,listed => Nat.beq p.len q.len && (!top || (Region.ready .any ops listed).all fun x => (starts p ++ starts q).contains x) && planGo ops ms bs cs false p listed && planGo ops ms bs cs false q listed
def planOk (ops:Array Oper) (plan:PlanT):Bool :=
 Region.noSelect ops && plan.len == ops.size && planGo ops (masks ops.toList []) (bars plan) (mids plan) true plan (Array.replicate ops.size false)
def lookP:List (Nat × PlanT) -> Nat -> Option PlanT
 | [],_ => none
 | (k,v) :: l,t => match Nat.beq k t with
  | true => some v
  | false => lookP l t
def dstsOk (n:Nat) (ops:Array Oper):Bool:=ops.all fun o => match o.dst with
 | some d => decide (d < n)
 | none => true
def codeOk (n:Nat) (plans:List (Nat × PlanT)):Code -> Bool
 | .region id ops draw => dstsOk n ops && (!draw || match lookP plans id with | some p => planOk ops p | none => false)
 | .seq x y => codeOk n plans x && codeOk n plans y
 | .cond _ x y => codeOk n plans x && codeOk n plans y
 | .block _ c => codeOk n plans c
 | .loop c => codeOk n plans c
 | .scope c => codeOk n plans c
 | _ => true
def LoopE (C:Cfg) (n:Nat) (plans:List (Nat × PlanT)) (c:Code) (l:Env) (w:World) (Q:Exit -> Env -> World -> Prop):Prop :=
 codeOk n plans c = true -> Snd C n (.loop c) l w Q
def ScopeE (C:Cfg) (n:Nat) (plans:List (Nat × PlanT)) (c:Code) (l:Env) (w:World) (Q:Exit -> Env -> World -> Prop):Prop :=
 codeOk n plans c = true -> Snd C n (.scope c) l w Q
abbrev CodeT:=Env -> World -> (Exit -> Env -> World -> Prop) -> Prop
noncomputable def codeE (C:Cfg) (n:Nat) (plans:List (Nat × PlanT)) (c:Code):CodeT :=
 Code.rec (motive:=fun _ => CodeT)
  (fun l w Q => Q .normal l w)
  (fun id ops draw l w Q => match draw with
   | false => runL C ops.toList ops.toList l w (Q .normal)
   | true => withO (lookP plans id) fun p => match hasMid p with
    | false => runD C (fun _ => True) w ops.toList p l w (Q .normal)
    | true => ∃ D:Nat -> Prop,runD C D w ops.toList p l w (Q .normal))
  (fun _ _ x y l w Q => x l w (thenE Q fun l w => y l w Q))
  (fun c _ _ x y l w Q => withO (evo l c) fun v => match v with
   | .bool b => brE b (x l w Q) (y l w Q)
   | _ => False)
  (fun id _ x l w Q => x l w (blockE id Q))
  (fun c _ l w Q => LoopE C n plans c l w Q)
  (fun _ _ _ _ _ _ _ _ _ => False)
  (fun id l w Q => Q (.exit id) l w)
  (fun c _ l w Q => ScopeE C n plans c l w Q)
  (fun _ l w Q => Q .normal l w)
  (fun k l w Q => Q (.goto k) l w)
  (fun l w Q => Q .ret l w)
  (fun _ _ _ _ => False) c
section
variable {C:Cfg} {n:Nat}
def Fin (C:Cfg) (n d:Nat) (K:Env -> World -> Prop):Exit -> Act -> World -> Prop
 | .normal,a,w => ∃ l w',K l w' ∧ Rep n C.df a l ∧ Same w' w ∧ Dr C d w
 | _,_,_ => False
theorem yielded_look {all:List Oper} {Dd:List Deferred} {a:Act} {l:Env} (h:Rep n Dd a l) {j d:Nat} {v:Value} (hd:dstOf all j = some d) (hv:look l d = some v) :
  yielded all.toArray a.tmps j = match v with | .bool b => some b | _ => none:=by
 have h1:=h.get d v hv
 unfold dstOf at hd
 cases ho:all[j]? with
 | none => simp [ho] at hd
 | some o =>
  simp only [ho] at hd
  have:all.toArray[j]? = some o:=by simpa using ho
  unfold yielded
  simp only [this,Option.bind_some,hd,h1]
  cases v <;> rfl
theorem guard_sound {all:List Oper} {o:Oper} {l:Env} {yes no:Env -> Prop} (h:guardE all o l yes no) {Dd:List Deferred} {a:Act} (hr:Rep n Dd a l) :
  (Region.wanted o (yielded all.toArray a.tmps) = true ∧ ∃ l',Rep n Dd a l' ∧ yes l') ∨ (Region.wanted o (yielded all.toArray a.tmps) = false ∧ ∃ l',Rep n Dd a l' ∧ no l'):=by
 unfold guardE at h
 cases hg:o.guard with
 | none => rw [hg] at h; exact .inl ⟨by simp [Region.wanted,hg],l,hr,h⟩
 | some g =>
  obtain ⟨j,want⟩:=g
  rw [hg] at h
  simp only at h
  obtain ⟨d,hd,h⟩:=withO_iff h
  obtain ⟨v,hv,h⟩:=withO_iff h
  have hy:=yielded_look hr hd hv
  have more:∀ b,v = .bool b -> Rep n Dd a ((d,.bool b) :: l):=fun b hb => ⟨hr.size,hr.defers,fun t u hu => by
   rw [look_cons] at hu
   by_cases ht:d = t
   ·subst ht; simp at hu; subst hu; exact hr.get d _ (hb ▸ hv)
   ·simp [ht] at hu; exact hr.get t u hu⟩
  cases v with
  | bool b =>
   simp only at h hy
   cases want <;> cases b
   ·exact .inl ⟨by simp [Region.wanted,hg,hy],_,more false rfl,h⟩
   ·exact .inr ⟨by simp [Region.wanted,hg,hy],_,more true rfl,h⟩
   ·exact .inr ⟨by simp [Region.wanted,hg,hy],_,more false rfl,h⟩
   ·exact .inl ⟨by simp [Region.wanted,hg,hy],_,more true rfl,h⟩
  | _ => exact .inr ⟨by simp only at hy; simp [Region.wanted,hg,hy],l,hr,h⟩
theorem dstsOk_spec {ops:Array Oper} (h:dstsOk n ops = true) {o:Oper} (ho:o ∈ ops):∀ t,o.dst = some t -> t < n:=by
 intro t ht
 have:=Array.all_eq_true_iff_forall_mem.1 h o ho
 simpa [ht] using this
theorem runL_sound (hC:C.Ok) {d:Nat} {all:List Oper} (hd:dstsOk n all.toArray = true) {K:Env -> World -> Prop}:∀ (r:List Oper) (k:Nat) (l:Env) (w:World) (a:Act) (w₁:World),
  (∀ j,r[j]? = all[k + j]?) -> runL C all r l w K -> Rep n C.df a l -> Same w w₁ -> Dr C d w₁ -> wpOps C.P all.toArray (Fin C n d K) (List.range' k r.length) a w₁
 | [],k,l,w,a,w₁,_,h,hr,hs,hdw => by simpa [wpOps] using ⟨l,w,h,hr,hs,hdw⟩
 | o :: r,k,l,w,a,w₁,hl,h,hr,hs,hdw => by
  have h0:all[k]? = some o:=by simpa using (hl 0).symm
  have h0':all.toArray[k]? = some o:=by simpa using h0
  have hdst:=dstsOk_spec hd (Array.mem_of_getElem? h0')
  have hnext:∀ j,r[j]? = all[k + 1 + j]?:=fun j => by have:=hl (j + 1); simpa [Nat.add_assoc,Nat.add_comm 1 j] using this
  simp only [List.length_cons,List.range'_succ,wpOps,h0']
  rw [runL_cons] at h
  rcases guard_sound h hr with ⟨hw,l',hr',h⟩ | ⟨hw,l',hr',h⟩
  ·simp only [hw,if_true]
   refine .inl ?_
   unfold opE at h
   cases hloud:isLoud o.op with
   | true =>
    simp only [hloud] at h
    exact opL_sound hC h (fun x u hx => hr'.evo hx) hs fun v w' w'' hk hw' hd' => runL_sound hC hd r (k + 1) _ w' _ w'' hnext hk (hr'.bindv hdst v) hw' (hdw.step hd')
   | false =>
    simp only [hloud] at h
    obtain ⟨v,hk,hrun⟩:=opQ_sound hC h
    have:=hrun a.eval (fun x u hx => hr'.evo hx) w₁ (.inr hs.ext)
    unfold Oper.wp
    rw [this]
    exact runL_sound hC hd r (k + 1) _ w _ w₁ hnext hk (hr'.bindv hdst v) hs hdw
  ·simp only [hw,Bool.false_eq_true,if_false]
   exact runL_sound hC hd r (k + 1) _ w _ w₁ hnext h (hr'.bindv hdst undef) hs hdw
theorem wp_runL (hC:C.Ok) {id:Nat} {ops:Array Oper} (hd:dstsOk n ops = true) {l:Env} {w:World} {Q:Exit -> Env -> World -> Prop} (h:runL C ops.toList ops.toList l w (Q .normal)):Snd C n (.region id ops false) l w Q:=by
 intro d a w₁ hr hs hdw
 refine wp_mono (Q:=Fin C n d (Q .normal)) (wp_region ?_) ?_
 ·have:=runL_sound hC (d:=d) (all:=ops.toList) (by simpa using hd) ops.toList 0 l w a w₁ (by simp) h hr hs hdw
  rw [List.range_eq_range']
  simpa using this
 ·intro e a w h
  cases e <;> first | exact h | exact h.elim
theorem planGo_len {ops:Array Oper} {ms bs cs:List Nat}:∀ (plan:PlanT) (top:Bool) (listed:Array Bool),planGo ops ms bs cs top plan listed = true -> top = false -> 0 < plan.len
 | .done,top,listed,h,ht => by subst ht; simp [planGo] at h
 | .op i k r,_,_,_,_ => Nat.succ_pos _
 | .fork p q,top,listed,h,ht => by
  subst ht
  simp only [planGo,Bool.and_eq_true] at h
  exact planGo_len p false listed h.1.2 rfl
def Prom (D:Nat -> Prop) (w₀:World) (bs cs:List Nat) (i:Nat) (w w':World):Prop :=
 (bs.contains i = false -> cs.contains i = false -> Ext w w') ∧ (bs.contains i = false -> Keep D w₀ w -> Keep D w₀ w')
theorem Prom.refl (D:Nat -> Prop) (w₀:World) (bs cs:List Nat) (i:Nat) (w:World):Prom D w₀ bs cs i w w:=⟨fun _ _ => Ext.refl w,fun _ h => h⟩
theorem Prom.same {D:Nat -> Prop} {w₀:World} {bs cs:List Nat} {i:Nat} {w w' u u':World} (h:Prom D w₀ bs cs i w w') (s:Same w u) (s':Same w' u'):Prom D w₀ bs cs i u u' :=
 ⟨fun a b => ((h.1 a b).same_left s).same_right s',fun a e => (h.2 a (e.ext s.symm.ext)).ext s'.ext⟩
def Still (D:Nat -> Prop) (w₀:World) (bs:List Nat) (listed:Array Bool) (w:World):Prop:=(∀ j,bs.contains j = true -> listed.getD j false = false) -> Keep D w₀ w
theorem unlisted_of_set {listed:Array Bool} {i j:Nat} (h:(listed.setIfInBounds i true).getD j false = false):listed.getD j false = false:=by
 cases hb:listed.getD j false with
 | false => rfl
 | true => rw [getD_set_true hb] at h; cases h
theorem Still.next {md:Region.Mode} {ops:Array Oper} {D:Nat -> Prop} {w₀:World} {bs cs:List Nat} {listed:Array Bool} {i:Nat} {w w':World} (h:Still D w₀ bs listed w) (hi:i ∈ Region.ready md ops listed) (hp:Prom D w₀ bs cs i w w'):Still D w₀ bs (listed.setIfInBounds i true) w':=by
 intro hall
 cases hb:bs.contains i with
 | true =>
  have h1:=hall i hb
  have h2:=(mem_ready.1 hi).1
  have hlt:i < listed.size:=by
   rcases Nat.lt_or_ge i listed.size with h' | h'
   ·exact h'
   ·simp [Array.getElem?_eq_none h'] at h2
  simp [hlt] at h1
 | false => exact hp.2 hb (h fun j hj => unlisted_of_set (hall j hj))
def Shows (C:Cfg) (n d:Nat) (all:List Oper) (D:Nat -> Prop) (w₀:World) (bs cs:List Nat) (K:Env -> World -> Prop) (m:Nat) (listed:Array Bool) (a:Act) (w₁:World) (i:Nat):Prop :=
 wpOp C.P all.toArray (Fin C n d K) i (fun a' w' => Prom D w₀ bs cs i w₁ w' ∧ wpAnyX C.P .any all.toArray (Fin C n d K) (Prom D w₀ bs cs) m (listed.setIfInBounds i true) a' w') a w₁
theorem planGo_sound (hC : C.Ok) {d : Nat} {all : List Oper} {ms : List Nat} (hms : ∀ j i, (ms.getD j 0).testBit i = true → ∃ f, waits .any all.toArray f j i = true) (hsel : Region.noSelect all.toArray = true) (hd : dstsOk n all.toArray = true) {D : Nat → Prop} {w₀ : World} {bs cs : List Nat} {K : Env → World → Prop} :
    ∀ (plan : PlanT) (listed : Array Bool) (l : Env) (w : World) (a : Act) (w₁ : World), Closed .any all.toArray listed → Still D w₀ bs listed w → runD C D w₀ all plan l w K → Rep n C.df a l → Same w w₁ → Dr C d w₁ →
    (planGo all.toArray ms bs cs true plan listed = true → wpAnyX C.P .any all.toArray (Fin C n d K) (Prom D w₀ bs cs) plan.len listed a w₁) ∧
    (planGo all.toArray ms bs cs false plan listed = true → ∀ i ∈ starts plan, i ∈ Region.ready .any all.toArray listed ∧ Shows C n d all D w₀ bs cs K (plan.len - 1) listed a w₁ i)
  | .done, listed, l, w, a, w₁, _, _, h, hr, hs, hdw => ⟨fun hp => ⟨by simpa [planGo] using hp, l, w, h, hr, hs, hdw⟩, fun hp => by simp [planGo] at hp⟩
  | .fork p q, listed, l, w, a, w₁, hcl, hst, h, hr, hs, hdw => by
    rw [runD_fork] at h
    have ihp := planGo_sound (bs := bs) (cs := cs) hC hms hsel hd p listed l w a w₁ hcl hst h.1 hr hs hdw
    have ihq := planGo_sound (bs := bs) (cs := cs) hC hms hsel hd q listed l w a w₁ hcl hst h.2 hr hs hdw
    have both : Nat.beq p.len q.len = true → planGo all.toArray ms bs cs false p listed = true → planGo all.toArray ms bs cs false q listed = true →
        ∀ i ∈ starts p ++ starts q, i ∈ Region.ready .any all.toArray listed ∧ Shows C n d all D w₀ bs cs K (p.len - 1) listed a w₁ i := by
      intro hlen hp hq i hi
      rcases List.mem_append.1 hi with hi | hi
      · exact ihp.2 hp i hi
      · rw [Nat.eq_of_beq_eq_true hlen]; exact ihq.2 hq i hi
    refine ⟨fun hp => ?_, fun hp => ?_⟩
    · simp only [planGo, Bool.and_eq_true, Bool.not_true, Bool.false_or] at hp
      obtain ⟨⟨⟨hlen, hall⟩, hp1⟩, hq1⟩ := hp
      have hb := both hlen hp1 hq1
      have hpos := planGo_len p false listed hp1 rfl
      obtain ⟨m, hm⟩ : ∃ m, p.len = m + 1 := ⟨p.len - 1, by omega⟩
      show wpAnyX _ _ _ _ _ p.len listed a w₁
      rw [hm] at hb ⊢
      refine ⟨fun h0 => ?_, fun j hj => ?_⟩
      · exfalso
        cases hst : starts p with
        | nil =>
          have key : ∀ (pl : PlanT) (listed : Array Bool), planGo all.toArray ms bs cs false pl listed = true → starts pl ≠ [] := by
            intro pl
            induction pl with
            | done => intro listed h; simp [planGo] at h
            | op i k r _ => intro _ _ h; simp [starts] at h
            | fork p q ihp _ =>
              intro listed h h2
              simp only [planGo, Bool.and_eq_true] at h
              simp only [starts, List.append_eq_nil_iff] at h2
              exact ihp listed h.1.2 h2.1
          exact key p listed hp1 hst
        | cons i r =>
          have := (hb i (by rw [hst]; simp)).1
          rw [h0] at this; cases this
      · have hin := List.all_eq_true.1 hall j hj
        exact (hb j (by simpa using hin)).2
    · simp only [planGo, Bool.and_eq_true, Bool.not_false, Bool.true_or] at hp
      obtain ⟨⟨⟨hlen, _⟩, hp1⟩, hq1⟩ := hp
      exact both hlen hp1 hq1
  | .op i k r, listed, l, w, a, w₁, hcl, hst, h, hr, hs, hdw => by
    rw [runD_cons] at h
    obtain ⟨o, ho, h⟩ := withO_iff h
    have ho' : all.toArray[i]? = some o := by simpa using ho
    have hdst := dstsOk_spec hd (Array.mem_of_getElem? ho')
    have hg0 := guard_sound h hr
    clear h
    -- a loud step
    have loud : ∀ KK : Env → Value → World → Prop, (∀ l' v w', KK l' v w' → Prom D w₀ bs cs i w w' ∧ runD C D w₀ all r (bindv o.dst v l') w' K) →
        i ∈ Region.ready .any all.toArray listed → planGo all.toArray ms bs cs true r (listed.setIfInBounds i true) = true →
        ((Region.wanted o (yielded all.toArray a.tmps) = true ∧ ∃ l', Rep n C.df a l' ∧ opL C o l' w (KK l')) ∨
          (Region.wanted o (yielded all.toArray a.tmps) = false ∧ ∃ l', Rep n C.df a l' ∧ runD C D w₀ all r (bindv o.dst undef l') w K)) →
        Shows C n d all D w₀ bs cs K r.len listed a w₁ i := by
      intro KK hKK hi hp' hg
      unfold Shows wpOp
      simp only [ho']
      rcases hg with ⟨hw, l', hr', h⟩ | ⟨hw, l', hr', h⟩
      · simp only [hw, if_true]
        refine .inl (opL_sound hC h (fun x u hx => hr'.evo hx) hs fun v w' w'' hk hw' hd' => ⟨(hKK _ _ _ hk).1.same hs hw', (planGo_sound hC hms hsel hd r _ _ w' _ w'' (hcl.set hi) (hst.next hi (hKK _ _ _ hk).1) (hKK _ _ _ hk).2 (hr'.bindv hdst v) hw' (hdw.step hd')).1 hp'⟩)
      · simp only [hw, Bool.false_eq_true, if_false]
        exact ⟨Prom.refl .., (planGo_sound hC hms hsel hd r _ _ w _ w₁ (hcl.set hi) (hst.next hi (Prom.refl D w₀ bs cs i w)) h (hr'.bindv hdst undef) hs hdw).1 hp'⟩
    have fin : ∀ {top : Bool}, (!top || (Region.ready .any all.toArray listed).all (· == i)) = true → i ∈ Region.ready .any all.toArray listed → Shows C n d all D w₀ bs cs K r.len listed a w₁ i →
        top = true → wpAnyX C.P .any all.toArray (Fin C n d K) (Prom D w₀ bs cs) (r.len + 1) listed a w₁ := by
      intro top hall hi hsh ht
      subst ht
      simp only [Bool.not_true, Bool.false_or] at hall
      refine ⟨fun h0 => (by rw [h0] at hi; cases hi), fun j hj => ?_⟩
      have := List.all_eq_true.1 hall j hj
      have hji : j = i := by simpa using this
      subst hji
      exact hsh
    -- a quiet step
    have quiet : ∀ (S : World → Prop) (ex : Nat → Bool), (∀ j w w', ex j = false → Prom D w₀ bs cs j w w' → S w → S w') → (∀ j, ex j = true → j ≠ i → listed.getD j true = false → (ms.getD j 0).testBit i = true) → S w₁ →
        i ∈ Region.ready .any all.toArray listed → Region.free .any all.toArray listed i = true → planGo all.toArray ms bs cs true r (listed.setIfInBounds i true) = true →
        ∀ v l', Rep n C.df a l' → YieldsIf C.P all.toArray S o v a → runD C D w₀ all r (bindv o.dst v l') w K →
          wpAnyX C.P .any all.toArray (Fin C n d K) (Prom D w₀ bs cs) (r.len + 1) listed a w₁ := by
      intro S ex hS hex hw1 hi hf hp' v l' hr' hy hk
      refine wpAnyX_first (S := S) (ex := ex) ho' (Region.noSelect_spec hsel) (fun c a w h => h) (fun w => Prom.refl ..) hS r.len listed a w₁ hcl (Region.free_spec ho' hf) (fun j hj hji hun => hms _ _ (hex j hj hji hun)) hi hy hw1 ?_
      exact (planGo_sound hC hms hsel hd r _ _ w _ w₁ (hcl.set hi) (hst.next hi (Prom.refl D w₀ bs cs i w)) hk (hr'.bindv hdst v) hs hdw).1 hp'
    match k, hg0, loud with
    | 0, hg, _ =>
      refine ⟨fun hp => ?_, fun hp => by simp [planGo] at hp⟩
      simp only [planGo, Bool.and_eq_true] at hp
      obtain ⟨⟨⟨⟨⟨⟨_, hr1⟩, hf⟩, hnb⟩, hnc⟩, hbar⟩, hp'⟩ := hp
      have hi : i ∈ Region.ready .any all.toArray listed := by simpa using hr1
      have q := quiet (Ext w₁) (fun j => bs.contains j || cs.contains j) (fun j w w' he hp hw => hw.trans (hp.1 (Bool.or_eq_false_iff.1 he).1 (Bool.or_eq_false_iff.1 he).2))
        (fun j hj hji hun => by
          have := List.all_eq_true.1 hbar j (by simpa using hj)
          simpa only [hun, Bool.false_or] using this) (Ext.refl _) hi hf hp'
      rcases hg with ⟨hw, l', hr', h⟩ | ⟨hw, l', hr', h⟩
      · obtain ⟨v, hk, hrun⟩ := opQ_sound hC h
        exact q v l' hr' (.inl ⟨hw, fun w' he => hrun a.eval (fun x u hx => hr'.evo hx) w' (.inr (he.same_left hs.symm))⟩) hk
      · exact q undef l' hr' (.inr ⟨hw, rfl⟩) h
    | 4, hg, _ =>
      refine ⟨fun hp => ?_, fun hp => by simp [planGo] at hp⟩
      simp only [planGo, Bool.and_eq_true] at hp
      obtain ⟨⟨⟨⟨⟨⟨_, hr1⟩, hf⟩, hnb⟩, hnc⟩, hbar⟩, hp'⟩ := hp
      have hi : i ∈ Region.ready .any all.toArray listed := by simpa using hr1
      have hun0 := getD_false_of_true (mem_ready.1 hi).1
      have hwait : ∀ j, bs.contains j = true → (ms.getD j 0).testBit i = true := fun j hj => List.all_eq_true.1 hbar j (by simpa using hj)
      have e0 : Keep D w₀ w := hst fun j hj => by
        cases hb : listed.getD j false with
        | false => rfl
        | true =>
          obtain ⟨f, hf⟩ := hms _ _ (hwait j hj)
          have := waits_listed hcl f j hf (.inr hb)
          rw [hun0] at this; cases this
      have q := quiet (Keep D w₀) (fun j => bs.contains j) (fun j w w' he hp hw => hp.2 he hw) (fun j hj _ _ => hwait j hj) (e0.ext hs.ext) hi hf hp'
      rcases hg with ⟨hw, l', hr', h⟩ | ⟨hw, l', hr', h⟩
      · obtain ⟨v, hall, hk⟩ := h
        refine q v l' hr' (.inl ⟨hw, fun w' he => ?_⟩) hk
        obtain ⟨v', rfl, hrun⟩ := opQ_sound hC (hall w' he)
        exact hrun a.eval (fun x u hx => hr'.evo hx) w' (.inr (Ext.refl w'))
      · exact q undef l' hr' (.inr ⟨hw, rfl⟩) h
    | 3, hg, _ =>
      refine ⟨fun hp => ?_, fun hp => by simp [planGo] at hp⟩
      simp only [planGo, Bool.and_eq_true] at hp
      obtain ⟨⟨⟨⟨_, hr1⟩, hf⟩, hpure⟩, hp'⟩ := hp
      rw [ho'] at hpure
      have hi : i ∈ Region.ready .any all.toArray listed := by simpa using hr1
      have q := quiet (fun _ => True) (fun _ => false) (fun j w w' he hp hw => trivial) (fun j hj => by cases hj) trivial hi hf hp'
      rcases hg with ⟨hw, l', hr', h⟩ | ⟨hw, l', hr', h⟩
      · obtain ⟨v, hk, hrun⟩ := opQ_sound hC h
        exact q v l' hr' (.inl ⟨hw, fun w' _ => hrun a.eval (fun x u hx => hr'.evo hx) w' (.inl hpure)⟩) hk
      · exact q undef l' hr' (.inr ⟨hw, rfl⟩) h
    | 1, hg, loud =>
      have go : ∀ {top : Bool}, planGo all.toArray ms bs cs top (.op i 1 r) listed = true → i ∈ Region.ready .any all.toArray listed ∧ (!top || (Region.ready .any all.toArray listed).all (· == i)) = true ∧ Shows C n d all D w₀ bs cs K r.len listed a w₁ i := by
        intro top hp
        simp only [planGo, Bool.and_eq_true] at hp
        obtain ⟨⟨⟨⟨hnb, hnc⟩, hr1⟩, hall⟩, hp'⟩ := hp
        have hi : i ∈ Region.ready .any all.toArray listed := by simpa using hr1
        exact ⟨hi, hall, loud (fun l' v w' => Ext w w' ∧ runD C D w₀ all r (bindv o.dst v l') w' K) (fun _ _ _ hk => ⟨⟨fun _ _ => hk.1, fun _ e => e.ext hk.1⟩, hk.2⟩) hi hp' hg⟩
      refine ⟨fun hp => ?_, fun hp j hj => ?_⟩
      · obtain ⟨hi, hall, hsh⟩ := go hp
        exact fin hall hi hsh rfl
      · obtain ⟨hi, _, hsh⟩ := go hp
        have hji : j = i := by simpa [starts] using hj
        subst hji
        exact ⟨hi, hsh⟩
    | 5, hg, loud =>
      have go : ∀ {top : Bool}, planGo all.toArray ms bs cs top (.op i 5 r) listed = true → i ∈ Region.ready .any all.toArray listed ∧ (!top || (Region.ready .any all.toArray listed).all (· == i)) = true ∧ Shows C n d all D w₀ bs cs K r.len listed a w₁ i := by
        intro top hp
        simp only [planGo, Bool.and_eq_true] at hp
        obtain ⟨⟨⟨⟨hnb, hnc⟩, hr1⟩, hall⟩, hp'⟩ := hp
        have hi : i ∈ Region.ready .any all.toArray listed := by simpa using hr1
        exact ⟨hi, hall, loud (fun l' v w' => Keep D w₀ w' ∧ runD C D w₀ all r (bindv o.dst v l') w' K) (fun _ _ _ hk => ⟨⟨fun _ hc => (by rw [hnc] at hc; cases hc), fun _ _ => hk.1⟩, hk.2⟩) hi hp' hg⟩
      refine ⟨fun hp => ?_, fun hp j hj => ?_⟩
      · obtain ⟨hi, hall, hsh⟩ := go hp
        exact fin hall hi hsh rfl
      · obtain ⟨hi, _, hsh⟩ := go hp
        have hji : j = i := by simpa [starts] using hj
        subst hji
        exact ⟨hi, hsh⟩
    | 2, hg, loud =>
      have go : ∀ {top : Bool}, planGo all.toArray ms bs cs top (.op i 2 r) listed = true → i ∈ Region.ready .any all.toArray listed ∧ (!top || (Region.ready .any all.toArray listed).all (· == i)) = true ∧ Shows C n d all D w₀ bs cs K r.len listed a w₁ i := by
        intro top hp
        simp only [planGo, Bool.and_eq_true] at hp
        obtain ⟨⟨⟨hnb, hr1⟩, hall⟩, hp'⟩ := hp
        have hi : i ∈ Region.ready .any all.toArray listed := by simpa using hr1
        exact ⟨hi, hall, loud (fun l' v w' => runD C D w₀ all r (bindv o.dst v l') w' K) (fun _ _ _ hk => ⟨⟨fun hb => (by rw [hnb] at hb; cases hb), fun hb => (by rw [hnb] at hb; cases hb)⟩, hk⟩) hi hp' hg⟩
      refine ⟨fun hp => ?_, fun hp j hj => ?_⟩
      · obtain ⟨hi, hall, hsh⟩ := go hp
        exact fin hall hi hsh rfl
      · obtain ⟨hi, _, hsh⟩ := go hp
        have hji : j = i := by simpa [starts] using hj
        subst hji
        exact ⟨hi, hsh⟩
    | k + 6, _, _ => exact ⟨fun hp => by simp [planGo] at hp, fun hp => by simp [planGo] at hp⟩
theorem wp_runD (hC:C.Ok) {id:Nat} {ops:Array Oper} (hd:dstsOk n ops = true) {plan:PlanT} (hp:planOk ops plan = true) {l:Env} {w:World} {Q:Exit -> Env -> World -> Prop} {D:Nat -> Prop} (h:runD C D w ops.toList plan l w (Q .normal)) :
  Snd C n (.region id ops true) l w Q:=by
 intro d a w₁ hr hs hdw
 simp only [planOk,Bool.and_eq_true,beq_iff_eq] at hp
 refine wp_mono (Q:=Fin C n d (Q .normal)) (wp_region_any hC.mixed ?_) ?_
 ·have:=(planGo_sound hC (d:=d) (all:=ops.toList) (ms:=masks ops.toList []) (D:=D) (w₀:=w) (bs:=bars plan) (cs:=mids plan) (by
    have:=masks_spec (ops:=ops) ops.toList [] (by simp) (by simp)
    simpa using this) (by simpa using hp.1.1) (by simpa using hd) plan (Array.replicate ops.size false) l w a { w₁ with drawn:=w₁.drawn + 1 }
   (fun j oj _ hl => by
    rcases Nat.lt_or_ge j ops.size with h' | h'
    ·simp [h'] at hl
    ·simp [h'] at hl) (fun _ => Keep.refl D w) h hr hs.drew (hdw.step fun _ => Nat.le_succ _)).1 (by simpa using hp.2)
  have:=wpAny_of_X _ _ _ _ this
  rw [hp.1.2] at this
  simpa using this
 ·intro e a w h
  cases e <;> first | exact h | exact h.elim
theorem codeE_sound (hC:C.Ok) {plans:List (Nat × PlanT)}:∀ (c:Code) (l:Env) (w:World) (Q:Exit -> Env -> World -> Prop),codeOk n plans c = true -> codeE C n plans c l w Q -> Snd C n c l w Q:=by
 intro c
 induction c with
 | skip => exact fun l w Q _ h d a w₁ hr hs hdw => wp_skip ⟨l,w,h,hr,hs,hdw⟩
 | region id ops draw =>
  intro l w Q hok h
  simp only [codeOk,Bool.and_eq_true] at hok
  cases draw with
  | false => exact wp_runL hC hok.1 h
  | true =>
   obtain ⟨p,hp,h⟩:=withO_iff (show withO _ _ from h)
   have hok2:=hok.2
   simp only [Bool.not_true,Bool.false_or,hp] at hok2
   cases hm:hasMid p with
   | false => rw [hm] at h; exact wp_runD hC hok.1 hok2 h
   | true =>
    rw [hm] at h
    obtain ⟨D,h⟩:=h
    exact wp_runD hC hok.1 hok2 h
 | seq x y ihx ihy =>
  intro l w Q hok h
  simp only [codeOk,Bool.and_eq_true] at hok
  intro d a w₁ hr hs hdw
  refine wp_seq (wp_mono (ihx l w _ hok.1 h d a w₁ hr hs hdw) ?_)
  rintro e a' w' ⟨l',w'',hq,hr',hs',hd'⟩
  cases e with
  | normal => exact ihy l' w'' Q hok.2 hq d a' w' hr' hs' hd'
  | _ => exact ⟨l',w'',hq,hr',hs',hd'⟩
 | cond c x y ihx ihy =>
  intro l w Q hok h
  simp only [codeOk,Bool.and_eq_true] at hok
  intro d a w₁ hr hs hdw
  obtain ⟨v,hv,h⟩:=withO_iff (show withO _ _ from h)
  have he:=hr.evo hv
  cases v with
  | bool b =>
   cases b with
   | true => exact wp_cond_true he (ihx l w Q hok.1 h d a w₁ hr hs hdw)
   | false => exact wp_cond_false he (ihy l w Q hok.2 h d a w₁ hr hs hdw)
  | _ => exact h.elim
 | block id c ih =>
  intro l w Q hok h d a w₁ hr hs hdw
  refine wp_block (wp_mono (ih l w _ hok h d a w₁ hr hs hdw) ?_)
  rintro e a' w' ⟨l',w'',hq,hr',hs',hd'⟩
  cases e with
  | exit id' =>
   simp only [blockE] at hq
   cases hb:Nat.beq id' id with
   | true =>
    rw [hb] at hq
    have:=Nat.eq_of_beq_eq_true hb
    subst this
    simp only [Exit.inBlock,if_true]
    exact ⟨l',w'',hq,hr',hs',hd'⟩
   | false =>
    rw [hb] at hq
    have:id' ≠ id:=fun e => by subst e; rw [Nat.beq_refl] at hb; cases hb
    simp only [Exit.inBlock,this,if_false]
    exact ⟨l',w'',hq,hr',hs',hd'⟩
  | _ => exact ⟨l',w'',hq,hr',hs',hd'⟩
 | loop c _ => exact fun l w Q hok h => h hok
 | scope c _ => exact fun l w Q hok h => h hok
 | exit id => exact fun l w Q _ h d a w₁ hr hs hdw => wp_exit ⟨l,w,h,hr,hs,hdw⟩
 | label k => exact fun l w Q _ h d a w₁ hr hs hdw => wp_label ⟨l,w,h,hr,hs,hdw⟩
 | goto k => exact fun l w Q _ h d a w₁ hr hs hdw => wp_goto ⟨l,w,h,hr,hs,hdw⟩
 | ret => exact fun l w Q _ h d a w₁ hr hs hdw => wp_ret ⟨l,w,h,hr,hs,hdw⟩
 | rangeFunc f ps a b _ _ => exact fun l w Q _ h => h.elim
 | refuse why => exact fun l w Q _ h => h.elim
theorem loopE (hC:C.Ok) {plans:List (Nat × PlanT)} {σ:Type} (E:σ -> Env) (I:σ -> World -> Prop) (μ:σ -> Nat) (s₀:σ) {c:Code} {l:Env} {w:World} {Q:Exit -> Env -> World -> Prop} (hcov:Cov l (E s₀)) (h0:I s₀ w)
  (step:∀ s w,I s w -> codeE C n plans c (E s) w (thenE Q fun l' w' => ∃ s',Cov l' (E s') ∧ I s' w' ∧ μ s' < μ s)):LoopE C n plans c l w Q:=by
 intro hok d a w₁ hr hs hdw
 refine wp_loop_ghost (fun m a w₁ => ∃ s w,μ s = m ∧ I s w ∧ Same w w₁ ∧ Rep n C.df a (E s) ∧ Dr C d w₁) (μ s₀) ⟨s₀,w,rfl,h0,hs,hr.sub hcov.sub,hdw⟩ ?_
 rintro m a w₁ ⟨s,w,rfl,hI,hs,hr,hdw⟩
 refine wp_mono (codeE_sound hC c (E s) w _ hok (step s w hI) d a w₁ hr hs hdw) ?_
 rintro e a' w' ⟨l',w'',hq,hr',hs',hd'⟩
 cases e with
 | normal =>
  obtain ⟨s',hc',hI',hlt⟩:=hq
  exact ⟨μ s',hlt,s',w'',rfl,hI',hs',hr'.sub hc'.sub,hd'⟩
 | _ => exact ⟨l',w'',hq,hr',hs',hd'⟩
def resOne (C:Cfg) (l:Env) (w:World) (r:ResultVar) (K:Value -> Prop):Prop:=match r with
 | .tmp t => withO (look l t) K
 | .cell x t => withO (look l x) fun v => match v with
  | .pointer (some ⟨b,o,none⟩) => withO (C.ti t) fun ti => loadE ti w b o K
  | _ => False
def resAll (C:Cfg) (l:Env) (w:World):List ResultVar -> (List Value -> Prop) -> Prop
 | [],K => K []
 | r :: rs,K => resOne C l w r fun v => resAll C l w rs fun vs => K (v :: vs)
def resE (C:Cfg) (rs:List ResultVar) (K:Value -> World -> Prop):Exit -> Env -> World -> Prop
 | .normal,l,w => resAll C l w rs fun vs => match vs with
  | [v] => K v w
  | vs => K (.tuple vs.toArray) w
 | .ret,l,w => resAll C l w rs fun vs => match vs with
  | [v] => K v w
  | vs => K (.tuple vs.toArray) w
 | _,_,_ => False
def envOf:Nat -> List Value -> Env
 | _,[] => []
 | k,v :: vs => (k,v) :: envOf (k + 1) vs
theorem look_envOf:∀ (vs:List Value) (k t:Nat) (v:Value),look (envOf k vs) t = some v -> ∃ j,t = k + j ∧ vs[j]? = some v
 | [],_,_,_,h => by simp [envOf,look] at h
 | u :: vs,k,t,v,h => by
  unfold envOf at h
  rw [look_cons] at h
  by_cases hk:k = t
  ·subst hk; simp at h; subst h; exact ⟨0,rfl,by simp⟩
  ·simp [hk] at h
   obtain ⟨j,rfl,hj⟩:=look_envOf vs (k + 1) t v h
   exact ⟨j + 1,by omega,by simpa using hj⟩
def resSem (tmps:Array Value) (r:ResultVar):Sem Value:=match r with
 | .tmp t => pure (tmps.getD t undef)
 | .cell a t => do loadVar t (<-asAddr (tmps.getD a undef))
theorem results_sem (fn:Func) (tmps:Array Value):results fn tmps = (do
  let vs <-List.toArray <$> fn.results.toList.mapM (resSem tmps)
  pure (if h:vs.size = 1 then vs[0] else .tuple vs)):=by
 rw [<-Array.mapM_eq_mapM_toList]
 rfl
theorem run_one (hC:C.Ok) {Dd:List Deferred} {a:Act} {l:Env} {w w₁:World} (hr:Rep n Dd a l) (hs:Same w w₁) {r:ResultVar} {K:Value -> Prop} (h:resOne C l w r K) :
  ∃ v,K v ∧ (resSem a.tmps r).run C.P w₁ = .ok v w₁:=by
 cases r with
 | tmp t =>
  obtain ⟨v,hv,hk⟩:=withO_iff (show withO _ _ from h)
  have:=hr.get t v hv
  exact ⟨v,hk,by simp [resSem,this]⟩
 | cell x t =>
  obtain ⟨v,hv,hk⟩:=withO_iff (show withO _ _ from h)
  have:=hr.get x v hv
  split at hk
  ·obtain ⟨ti,hti,hk⟩:=withO_iff hk
   obtain ⟨u,hu,hrun⟩:=run_load (hC.ti hti) hk
   exact ⟨u,hu,by simp [resSem,this,asAddr,hrun w₁ hs.ext]⟩
  ·exact hk.elim
theorem run_all (hC:C.Ok) {Dd:List Deferred} {a:Act} {l:Env} {w w₁:World} (hr:Rep n Dd a l) (hs:Same w w₁):∀ (rs:List ResultVar) (K:List Value -> Prop),resAll C l w rs K →
  ∃ vs,K vs ∧ (rs.mapM (resSem a.tmps)).run C.P w₁ = .ok vs w₁
 | [],K,h => ⟨[],h,by simp⟩
 | r :: rs,K,h => by
  obtain ⟨v,hv,h1⟩:=run_one hC hr hs h
  obtain ⟨vs,hvs,h2⟩:=run_all hC hr hs rs _ hv
  refine ⟨v :: vs,hvs,?_⟩
  simp only [List.mapM_cons,Sem.run_bind,h1,Result.andThen_ok,h2,Sem.run_pure]
theorem run_results (hC:C.Ok) {fn:Func} {Dd:List Deferred} {a:Act} {l:Env} {w w₁:World} (hr:Rep n Dd a l) (hs:Same w w₁) {K:Value -> World -> Prop}
  (h:resAll C l w fn.results.toList fun vs => match vs with | [v] => K v w | vs => K (.tuple vs.toArray) w):∃ v,K v w ∧ (results fn a.tmps).run C.P w₁ = .ok v w₁:=by
 obtain ⟨vs,hk,hrun⟩:=run_all hC hr hs fn.results.toList _ h
 rw [results_sem]
 match vs,hk,hrun with
 | [],hk,hrun => exact ⟨_,hk,by simp [hrun]⟩
 | [v],hk,hrun => exact ⟨_,hk,by simp [hrun]⟩
 | v :: u :: vs,hk,hrun => exact ⟨_,hk,by simp [hrun]⟩
theorem callsV_of (hC:C.Ok) {f:Nat} {fn:Func} {c:Code} {plans:List (Nat × PlanT)} (hf:C.P.funcs[f]? = some fn) (hb:fn.body = some c) (hn:fn.ntmps = n) (hok:codeOk n plans c = true)
  {args:List Value} (ha:args.length <= n) {w:World} {K:Value -> World -> Prop} (h:codeE C n plans c (envOf 0 args) w (resE C fn.results.toList K)) (hdf:C.df = []:=by rfl):CallsX C.dr C.P f args.toArray w K:=by
 intro w₁ hs
 refine calls_of_wp hf hb ?_
 have hr:Rep n C.df ({ tmps:=args.toArray ++ Array.replicate (fn.ntmps - args.toArray.size) undef,defers:=[] }:Act) (envOf 0 args):=by
  refine ⟨by simp [hn]; omega,hdf.symm,fun t v hv => ?_⟩
  obtain ⟨j,rfl,hj⟩:=look_envOf args 0 t v hv
  have hlt:j < args.length:=(List.getElem?_eq_some_iff.1 hj).1
  simp only [Nat.zero_add]
  rw [Array.getElem?_append_left (by simpa using hlt)]
  simpa using hj
 refine wp_mono (codeE_sound hC c _ w _ hok h w₁.drawn _ w₁ hr hs (fun _ => Nat.le_refl _)) ?_
 rintro e a' w' ⟨l',w'',hq,hr',hs',hd'⟩
 cases e with
 | normal =>
  obtain ⟨v,hv,hrun⟩:=run_results hC hr' hs' hq
  exact ⟨hr'.defers.trans hdf,v,hrun,⟨v,w'',rfl,hv,hs'⟩,hd'⟩
 | ret =>
  obtain ⟨v,hv,hrun⟩:=run_results hC hr' hs' hq
  exact ⟨hr'.defers.trans hdf,v,hrun,⟨v,w'',rfl,hv,hs'⟩,hd'⟩
 | _ => exact hq.elim
theorem Snd.weak {c:Code} {l E:Env} {w:World} {Q:Exit -> Env -> World -> Prop} (hc:Cov l E) (h:Snd C n c E w Q):Snd C n c l w Q:=fun d a w₁ hr hs hd => h d a w₁ (hr.sub hc.sub) hs hd
theorem Snd.fin (hC:C.Ok) {plans:List (Nat × PlanT)} {c:Code} {l:Env} {w:World} {Q:Exit -> Env -> World -> Prop} (hok:codeOk n plans c = true) (h:codeE C n plans c l w Q):Snd C n c l w Q:=codeE_sound hC c l w Q hok h
structure Rest (C:Cfg) (n:Nat) (y:Code) (l:Env) (w:World) (Q:Exit -> Env -> World -> Prop):Prop where
 snd:Snd C n y l w Q
theorem Snd.go (hC:C.Ok) (plans:List (Nat × PlanT)) {x y:Code} {l:Env} {w:World} {Q:Exit -> Env -> World -> Prop} (hok:codeOk n plans x = true) (h:codeE C n plans x l w (thenE Q fun l' w' => Rest C n y l' w' Q)):Snd C n (.seq x y) l w Q:=by
 intro d a w₁ hr hs hd
 refine wp_seq (wp_mono (codeE_sound hC x l w _ hok h d a w₁ hr hs hd) ?_)
 rintro e a' w' ⟨l',w'',hq,hr',hs',hd'⟩
 cases e with
 | normal => exact hq.snd d a' w' hr' hs' hd'
 | _ => exact ⟨l',w'',hq,hr',hs',hd'⟩
structure Joined {σ:Type} (E:σ -> Env) (I:σ -> World -> Prop) (l:Env) (w:World):Prop where
 ex:∃ s,Cov l (E s) ∧ I s w
theorem Snd.join (hC:C.Ok) (plans:List (Nat × PlanT)) {σ:Type} (E:σ -> Env) (I:σ -> World -> Prop) {x y:Code} {l:Env} {w:World} {Q:Exit -> Env -> World -> Prop} (hok:codeOk n plans x = true)
  (hx:codeE C n plans x l w (thenE Q fun l' w' => Joined E I l' w')) (hy:∀ s w',I s w' -> Snd C n y (E s) w' Q):Snd C n (.seq x y) l w Q:=by
 intro d a w₁ hr hs hd
 refine wp_seq (wp_mono (codeE_sound hC x l w _ hok hx d a w₁ hr hs hd) ?_)
 rintro e a' w' ⟨l',w'',hq,hr',hs',hd'⟩
 cases e with
 | normal =>
  obtain ⟨⟨s,hc,hI⟩⟩:=hq
  exact (hy s w'' hI).weak hc d a' w' hr' hs' hd'
 | _ => exact ⟨l',w'',hq,hr',hs',hd'⟩
theorem callsV_ofS {f:Nat} {fn:Func} {c:Code} (hf:C.P.funcs[f]? = some fn) (hb:fn.body = some c) (hn:fn.ntmps = n) (hC:C.Ok)
  {args:List Value} (ha:args.length <= n) {w:World} {K:Value -> World -> Prop} (h:Snd C n c (envOf 0 args) w (resE C fn.results.toList K)) (hdf:C.df = []:=by rfl):CallsX C.dr C.P f args.toArray w K:=by
 intro w₁ hs
 refine calls_of_wp hf hb ?_
 have hr:Rep n C.df ({ tmps:=args.toArray ++ Array.replicate (fn.ntmps - args.toArray.size) undef,defers:=[] }:Act) (envOf 0 args):=by
  refine ⟨by simp [hn]; omega,hdf.symm,fun t v hv => ?_⟩
  obtain ⟨j,rfl,hj⟩:=look_envOf args 0 t v hv
  have hlt:j < args.length:=(List.getElem?_eq_some_iff.1 hj).1
  simp only [Nat.zero_add]
  rw [Array.getElem?_append_left (by simpa using hlt)]
  simpa using hj
 refine wp_mono (h w₁.drawn _ w₁ hr hs (fun _ => Nat.le_refl _)) ?_
 rintro e a' w' ⟨l',w'',hq,hr',hs',hd'⟩
 cases e with
 | normal =>
  obtain ⟨v,hv,hrun⟩:=run_results hC hr' hs' hq
  exact ⟨hr'.defers.trans hdf,v,hrun,⟨v,w'',rfl,hv,hs'⟩,hd'⟩
 | ret =>
  obtain ⟨v,hv,hrun⟩:=run_results hC hr' hs' hq
  exact ⟨hr'.defers.trans hdf,v,hrun,⟨v,w'',rfl,hv,hs'⟩,hd'⟩
 | _ => exact hq.elim
end
end Go.Eng
