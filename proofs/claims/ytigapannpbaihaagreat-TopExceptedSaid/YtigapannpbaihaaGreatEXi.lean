/- a part of the proof: steps, walks and plain laws that the law below stands on; no condition. -/
import Derived.Test.YtigapannpbaihaaGreatEXa
import Derived.Test.YtigapannpbaihaaGreatEXb
import Derived.Test.YtigapannpbaihaaGreatEXc
import Derived.Test.YtigapannpbaihaaGreatEXd
import Derived.Test.YtigapannpbaihaaGreatEXe
import Derived.Test.YtigapannpbaihaaGreatEXf
import Derived.Test.YtigapannpbaihaaGreatEXg
import Derived.Test.YtigapannpbaihaaGreatEXh
import Derived.OrdersIn
import Derived.Recover
set_option linter.unusedVariables false
set_option linter.unusedSimpArgs false
set_option linter.unnecessarySimpa false
set_option linter.unusedSectionVars false
namespace Go.Eng
open Go.RowKit
def codeI (n:Nat) (plans:List (Nat × PlanT)):Code -> Bool
 | .region id ops draw => dstsOk n ops && noDefer ops.toList && (!draw || match lookP plans id with | some p => planOk ops p | none => false)
 | .seq x y => codeI n plans x && codeI n plans y
 | .cond _ x y => codeI n plans x && codeI n plans y
 | .block _ c => codeI n plans c
 | .loop _ => false
 | .scope _ => false
 | .rangeFunc .. => false
 | _ => true
section
variable {C:Cfg} {n:Nat}
def LiftD (C:Cfg) (n:Nat) (D:List Deferred) (d:Nat) (Q:Exit -> Env -> World -> Prop) (e:Exit) (a:Act) (w:World):Prop:=∃ l w',Q e l w' ∧ Rep n D a l ∧ Same w' w ∧ Dr C d w
theorem wpAnyIn_wide {F:Fence} (hF:Wide F) {nn:Nat} {P:Program} {md:Region.Mode} {ops:Array Oper} {Q:Exit -> Act -> World -> Prop} (hnd:∀ o ∈ ops.toList,∀ c,o.op ≠ .defer c) (hQ:¬ LetsOut Q) :
  ∀ (fuel:Nat) (listed:Array Bool) (a:Act) (w:World),wpAny P md ops Q fuel listed a w -> wpAnyIn F nn P md ops Q fuel listed a w
 | 0,_,_,_,h => h
 | fuel + 1,listed,a,w,h => by
  refine ⟨h.1,fun i hi => ?_⟩
  have h2:=h.2 i hi
  unfold wpOp at h2
  unfold wpOpIn
  cases ho:ops[i]? with
  | none => rw [ho] at h2; exact wpAnyIn_wide hF hnd hQ fuel _ _ _ h2
  | some o =>
   rw [ho] at h2
   have hmem:o ∈ ops.toList:=by
    have:=Array.mem_of_getElem? ho
    simpa using this
   simp only at h2 ⊢
   split
   ·rename_i hw
    rw [if_pos hw] at h2
    rcases h2 with h2 | h2
    ·refine op_wide hF (hnd o hmem) ?_
     exact Oper.wp_mono (fun a w hh => wpAnyIn_wide hF hnd hQ fuel _ a w hh) h2
    ·exact absurd h2.2 hQ
   ·rename_i hw
    rw [if_neg hw] at h2
    exact ⟨fun f _ => hF.fn f,wpAnyIn_wide hF hnd hQ fuel _ _ _ h2⟩
theorem wp_runDI (hC:C.Ok) {F:Fence} (hF:Wide F) {nn:Nat} {Dd:List Deferred} {id:Nat} {ops:Array Oper} (hd:dstsOk n ops = true) (hnd:noDefer ops.toList = true) {plan:PlanT} (hp:planOk ops plan = true) {l:Env} {w:World} {Q:Exit -> Env -> World -> Prop} {D:Nat -> Prop} (h:runD C D w ops.toList plan l w (Q .normal))
  {d:Nat} {a:Act} {w₁:World} (hr:Rep n Dd a l) (hs:Same w w₁) (hdw:Dr C d w₁):(Code.region id ops true).wpIn F nn C.P (LiftD C n Dd d Q) a w₁:=by
 simp only [planOk,Bool.and_eq_true,beq_iff_eq] at hp
 have hCd:({ C with df:=Dd }:Cfg).Ok:=⟨hC.mixed,hC.types,hC.funcs⟩
 have hnd':∀ o ∈ ops.toList.toArray.toList,∀ c,o.op ≠ .defer c:=by simpa using noDefer_spec hnd
 refine wpIn_mono (Q:=Fin { C with df:=Dd } n d (Q .normal)) (wpIn_region_any hC.mixed ?_) ?_
 ·have key:=(planGo_sound (C:={ C with df:=Dd }) hCd (d:=d) (all:=ops.toList) (ms:=masks ops.toList []) (D:=D) (w₀:=w) (bs:=bars plan) (cs:=mids plan) (by
    have:=masks_spec (ops:=ops) ops.toList [] (by simp) (by simp)
    simpa using this) (by simpa using hp.1.1) (by simpa using hd) plan (Array.replicate ops.size false) l w a { w₁ with drawn:=w₁.drawn + 1 }
   (fun j oj _ hl => by
    rcases Nat.lt_or_ge j ops.size with h' | h'
    ·simp [h'] at hl
    ·simp [h'] at hl) (fun _ => Keep.refl D w) h hr hs.drew (hdw.step fun _ => Nat.le_succ _)).1 (by simpa using hp.2)
  have key:=wpAnyIn_wide (F:=F) (nn:=nn) hF hnd' (by rintro ⟨a,w,h⟩; exact h) _ _ _ _ (wpAny_of_X _ _ _ _ key)
  rw [hp.1.2] at key
  simpa using key
 ·intro e a w h
  cases e <;> first | exact h | exact h.elim
theorem codeE_soundI (hC:C.Ok) {F:Fence} (hF:Wide F) {nn:Nat} {D:List Deferred} {plans:List (Nat × PlanT)}:∀ (c:Code) (l:Env) (w:World) (Q:Exit -> Env -> World -> Prop),codeI n plans c = true -> codeE C n plans c l w Q →
  ∀ d a w₁,Rep n D a l -> Same w w₁ -> Dr C d w₁ -> c.wpIn F nn C.P (LiftD C n D d Q) a w₁:=by
 intro c
 induction c with
 | skip => exact fun l w Q _ h d a w₁ hr hs hdw => wpIn_skip ⟨l,w,h,hr,hs,hdw⟩
 | region id ops draw =>
  intro l w Q hok h d a w₁ hr hs hdw
  simp only [codeI,Bool.and_eq_true] at hok
  obtain ⟨⟨hd,hnd⟩,hok⟩:=hok
  cases draw with
  | true =>
   obtain ⟨p,hp,h⟩:=withO_iff (show withO _ _ from h)
   simp only [Bool.not_true,Bool.false_or,hp] at hok
   cases hm:hasMid p with
   | false => rw [hm] at h; exact wp_runDI hC hF hd hnd hok h hr hs hdw
   | true =>
    rw [hm] at h
    obtain ⟨D',h⟩:=h
    exact wp_runDI hC hF hd hnd hok h hr hs hdw
  | false =>
  have hd':dstsOk n ops.toList.toArray = true:=by simpa using hd
  refine wpIn_region ?_
  have key:=runLI (F:=F) (nn:=nn) (d:=d) (D:=D) (all:=ops.toList) (K:=Q .normal) (Q:=LiftD C n D d Q) (rest:=[]) hC hF hd' (noDefer_spec hnd) ?_ ops.toList 0 l w a w₁ (fun j _ => by rw [Nat.zero_add]) h hr hs hdw
  ·rw [List.append_nil,Array.length_toList,<-List.range_eq_range'] at key
   simpa using key
  ·intro l2 w2 a2 w3 hk hr2 hs2 hd2
   exact ⟨l2,w2,hk,hr2,hs2,hd2⟩
 | seq x y ihx ihy =>
  intro l w Q hok h d a w₁ hr hs hdw
  simp only [codeI,Bool.and_eq_true] at hok
  refine wpIn_seq (wpIn_mono (ihx l w _ hok.1 h d a w₁ hr hs hdw) ?_)
  rintro e a' w' ⟨l',w'',hq,hr',hs',hd'⟩
  cases e with
  | normal => exact ihy l' w'' Q hok.2 hq d a' w' hr' hs' hd'
  | _ => exact ⟨l',w'',hq,hr',hs',hd'⟩
 | cond c x y ihx ihy =>
  intro l w Q hok h d a w₁ hr hs hdw
  simp only [codeI,Bool.and_eq_true] at hok
  obtain ⟨v,hv,h⟩:=withO_iff (show withO _ _ from h)
  have he:=hr.evo hv
  cases v with
  | bool b =>
   cases b with
   | true => exact wpIn_cond_true he (ihx l w Q hok.1 h d a w₁ hr hs hdw)
   | false => exact wpIn_cond_false he (ihy l w Q hok.2 h d a w₁ hr hs hdw)
  | _ => exact h.elim
 | block id c ih =>
  intro l w Q hok h d a w₁ hr hs hdw
  refine wpIn_block (wpIn_mono (ih l w _ hok h d a w₁ hr hs hdw) ?_)
  rintro e a' w' ⟨l',w'',hq,hr',hs',hd'⟩
  cases e with
  | exit id' =>
   simp only [blockE] at hq
   cases hb:Nat.beq id' id with
   | true =>
    rw [hb] at hq
    have:=Nat.eq_of_beq_eq_true hb
    subst this
    simp only [Exit.inBlock,if_true]
    exact ⟨l',w'',hq,hr',hs',hd'⟩
   | false =>
    rw [hb] at hq
    have:id' ≠ id:=fun e => by subst e; rw [Nat.beq_refl] at hb; cases hb
    simp only [Exit.inBlock,this,if_false]
    exact ⟨l',w'',hq,hr',hs',hd'⟩
  | _ => exact ⟨l',w'',hq,hr',hs',hd'⟩
 | loop c _ => exact fun l w Q hok => by cases hok
 | scope c _ => exact fun l w Q hok => by cases hok
 | exit id => exact fun l w Q _ h d a w₁ hr hs hdw => wpIn_exit ⟨l,w,h,hr,hs,hdw⟩
 | label k => exact fun l w Q _ h d a w₁ hr hs hdw => wpIn_label ⟨l,w,h,hr,hs,hdw⟩
 | goto k => exact fun l w Q _ h d a w₁ hr hs hdw => wpIn_goto ⟨l,w,h,hr,hs,hdw⟩
 | ret => exact fun l w Q _ h d a w₁ hr hs hdw => wpIn_ret ⟨l,w,h,hr,hs,hdw⟩
 | rangeFunc f ps a b _ _ => exact fun l w Q hok => by cases hok
 | refuse why => exact fun l w Q _ h => h.elim
abbrev mkD (b:Nat):Deferred:={ target:=.collected b,args:=#[] }
def SndB (C:Cfg) (n:Nat) (c:Code) (bs:List Nat) (l:Env) (w:World) (Q:Exit -> List Nat -> Env -> World -> Prop):Prop :=
 ∀ d a w₁,Rep n (bs.map mkD) a l -> Same w w₁ -> Dr C d w₁ -> c.wp C.P (fun e a w₁ => ∃ l w' bs',Q e bs' l w' ∧ Rep n (bs'.map mkD) a l ∧ Same w' w₁ ∧ Dr C d w₁) a w₁
abbrev Cfg.marks (C:Cfg) (bs:List Nat):Cfg:={ C with df:=bs.map mkD }
theorem Cfg.Ok.marks (hC:C.Ok) (bs:List Nat):(C.marks bs).Ok:=⟨hC.mixed,hC.types,hC.funcs⟩
theorem SndB.of {c:Code} {bs:List Nat} {l:Env} {w:World} {Q:Exit -> List Nat -> Env -> World -> Prop} (h:Snd (C.marks bs) n c l w fun e l w => Q e bs l w):SndB C n c bs l w Q :=
 fun d a w₁ hr hs hd => wp_mono (h d a w₁ hr hs hd) fun _ _ _ ⟨l,w',hq,hr',hs',hd'⟩ => ⟨l,w',bs,hq,hr',hs',hd'⟩
structure RestB (C:Cfg) (n:Nat) (y:Code) (Q:Exit -> List Nat -> Env -> World -> Prop) (bs:List Nat) (l:Env) (w:World):Prop where
 snd:SndB C n y bs l w Q
def thenB (Q:Exit -> List Nat -> Env -> World -> Prop) (K:List Nat -> Env -> World -> Prop):Exit -> List Nat -> Env -> World -> Prop
 | .normal,bs,l,w => K bs l w
 | e,bs,l,w => Q e bs l w
theorem SndB.seq {x y:Code} {bs:List Nat} {l:Env} {w:World} {Q:Exit -> List Nat -> Env -> World -> Prop} (h:SndB C n x bs l w (thenB Q (RestB C n y Q))):SndB C n (.seq x y) bs l w Q:=by
 intro d a w₁ hr hs hd
 refine wp_seq (wp_mono (h d a w₁ hr hs hd) ?_)
 rintro e a' w' ⟨l',w'',bs',hq,hr',hs',hd'⟩
 cases e with
 | normal => exact hq.snd d a' w' hr' hs' hd'
 | _ => exact ⟨l',w'',bs',hq,hr',hs',hd'⟩
def blockB (id:Nat) (Q:Exit -> List Nat -> Env -> World -> Prop):Exit -> List Nat -> Env -> World -> Prop
 | .exit id',bs,l,w => match Nat.beq id' id with
  | true => Q .normal bs l w
  | false => Q (.exit id') bs l w
 | e,bs,l,w => Q e bs l w
theorem SndB.block {id:Nat} {c:Code} {bs:List Nat} {l:Env} {w:World} {Q:Exit -> List Nat -> Env -> World -> Prop} (h:SndB C n c bs l w (blockB id Q)):SndB C n (.block id c) bs l w Q:=by
 intro d a w₁ hr hs hd
 refine wp_block (wp_mono (h d a w₁ hr hs hd) ?_)
 rintro e a' w' ⟨l',w'',bs',hq,hr',hs',hd'⟩
 cases e with
 | exit id' =>
  simp only [blockB] at hq
  cases hb:Nat.beq id' id with
  | true =>
   rw [hb] at hq
   have:=Nat.eq_of_beq_eq_true hb
   subst this
   simp only [Exit.inBlock,if_true]
   exact ⟨l',w'',bs',hq,hr',hs',hd'⟩
  | false =>
   rw [hb] at hq
   have:id' ≠ id:=fun e => by subst e; rw [Nat.beq_refl] at hb; cases hb
   simp only [Exit.inBlock,this,if_false]
   exact ⟨l',w'',bs',hq,hr',hs',hd'⟩
 | _ => exact ⟨l',w'',bs',hq,hr',hs',hd'⟩
structure HeadB {σ:Type} (E:σ -> Env) (I:σ -> List Nat -> World -> Prop) (μ:σ -> Nat) (m:Nat) (bs:List Nat) (l:Env) (w:World):Prop where
 ex:∃ s,Cov l (E s) ∧ I s bs w ∧ μ s < m
theorem SndB.loop {σ:Type} (E:σ -> Env) (I:σ -> List Nat -> World -> Prop) (μ:σ -> Nat) (s₀:σ) {c:Code} {bs:List Nat} {l:Env} {w:World} {Q:Exit -> List Nat -> Env -> World -> Prop} (hcov:Cov l (E s₀)) (h0:I s₀ bs w)
  (step:∀ s bs w,I s bs w -> SndB C n c bs (E s) w (thenB Q (HeadB E I μ (μ s)))):SndB C n (.loop c) bs l w Q:=by
 intro d a w₁ hr hs hdw
 refine wp_loop_ghost (fun m a w₁ => ∃ s w bs,μ s = m ∧ I s bs w ∧ Same w w₁ ∧ Rep n (bs.map mkD) a (E s) ∧ Dr C d w₁) (μ s₀) ⟨s₀,w,bs,rfl,h0,hs,hr.sub hcov.sub,hdw⟩ ?_
 rintro m a w₁ ⟨s,w,bs,rfl,hI,hs,hr,hdw⟩
 refine wp_mono (step s bs w hI d a w₁ hr hs hdw) ?_
 rintro e a' w' ⟨l',w'',bs',hq,hr',hs',hd'⟩
 cases e with
 | normal =>
  obtain ⟨⟨s',hc',hI',hlt⟩⟩:=hq
  exact ⟨μ s',hlt,s',w'',bs',rfl,hI',hs',hr'.sub hc'.sub,hd'⟩
 | _ => exact ⟨l',w'',bs',hq,hr',hs',hd'⟩
def bindP:List Nat -> List Value -> Env -> Env
 | t :: ts,v :: vs,l => bindP ts vs ((t,v) :: l)
 | _,_,l => l
def setP (ts:List Nat) (vs:List Value) (tmps:Array Value):Array Value:=(ts.zip vs).foldl (fun tmps x => tmps.setIfInBounds x.1 x.2) tmps
theorem rep_setP {D:List Deferred}:∀ (ts:List Nat) (vs:List Value) {l:Env} {tmps:Array Value},(∀ t ∈ ts,t < n) -> Rep n D { tmps:=tmps,defers:=D } l -> Rep n D { tmps:=setP ts vs tmps,defers:=D } (bindP ts vs l)
 | [],_,_,_,_,h => h
 | _ :: _,[],_,_,_,h => h
 | t :: ts,v :: vs,l,tmps,ht,h => by
  have h1:=h.put (ht t (by simp)) v
  exact rep_setP ts vs (fun q hq => ht q (by simp [hq])) (l:=(t,v) :: l) (tmps:=tmps.setIfInBounds t v) ⟨h1.size,rfl,h1.get⟩
structure RoundB (C:Cfg) (n:Nat) (plans:List (Nat × PlanT)) (body:Code) (lp db:Nat) (K:World -> Prop) (l:Env) (w:World):Prop where
 body:∀ r w',Put w lp (.loop r) w' -> codeE C n plans body l w' fun e _ w3 => e = .normal ∧ K w3 ∧ w3.heap[lp]? = some (.loop r) ∧ w3.heap[db]? = w'.heap[db]?
theorem wp_rangeB (hC:C.Ok) {g:Operand} {ps:List Nat} {assign body:Code} {plans:List (Nat × PlanT)} (hA:codeI n plans assign = true) (hB:codeI n plans body = true)
  {d:Nat} {l:Env} {w w₁:World} {a:Act} {D:List Deferred} (hr:Rep n D a l) (hs:Same w w₁) (hd:Dr C d w₁) (ht:∀ t ∈ ps,t < n) {gf:Nat} {cap:Array Value} (hg:evo l g = some (.func (.func gf) #[] cap)) (hcan:C.can gf = true)
  {σ:Type} (enc:σ -> List Value) (hps:∀ x,(enc x).length = ps.length) (I:List σ -> World -> Prop) (Kp:World -> World -> Prop) (N:Nat) {xs:List σ} (hI0:I [] w)
  (hIe:∀ s W W',I s W -> Ext W W' -> I s W') (hIp:∀ s W W' k o r,w.heap.size <= k -> W.heap[k]? = some (.loop r) -> I s W -> Put W k o W' -> I s W') (hKp:∀ W W' W'' k o r,Kp W W' -> W'.heap[k]? = some (.loop r) -> Put W' k o W'' -> Kp W W'')
  (hround:∀ lp db,w.heap.size <= lp -> w.heap.size <= db -> lp ≠ db -> ∀ s x W,I s W -> s.length < N -> (∃ r,W.heap[lp]? = some (.loop r)) -> W.heap[db]? = some (.deferred (some [])) →
   codeE C n plans assign (bindP ps (enc x) l) W fun e l' W' => e = .normal ∧ (W'.heap[lp]? = W.heap[lp]? ∧ W'.heap[db]? = W.heap[db]?) ∧ RoundB C n plans body lp db (fun W3 => I (s ++ [x]) W3 ∧ Kp W W3) l' W')
  (hiter:∀ lp (J:List σ -> World -> Prop) W,(∀ s W W',J s W -> Ext W W' -> J s W') -> (∀ s W,J s W -> I s W) →
   (∀ s x W,J s W -> s.length < N -> YieldV C lp (enc x).toArray W fun v W' => v = .bool true ∧ J (s ++ [x]) W' ∧ Kp W W') -> J [] W -> CallsX C.dr C.P gf (#[.func (.yield lp) #[] #[]] ++ cap) W fun _ W' => J xs W') :
  (Code.rangeFunc g ps.toArray assign body).wp C.P (fun e a' w' => e = .normal ∧ ∃ db w'',a' = { a with defers:=mkD db :: a.defers } ∧ w'.heap[db]? = some (.deferred (some [])) ∧
   w.heap.size <= db ∧ I xs w'' ∧ Same w'' w' ∧ Dr C d w') a w₁:=by
 refine (wpIn_wide (n:=1)).1 (wpIn_rangeFunc ?_)
 intro fn _
 obtain ⟨rc,hrec⟩:∃ rc:LoopState -> Loop,rc = fun st => { state:=st,pending:=none,fn,tmps:=a.tmps,params:=ps.toArray,assign:=assign,body:=body,defers:=w₁.heap.size }:=⟨_,rfl⟩
 obtain ⟨W1,hW1⟩:∃ W1,(w₁.alloc (.deferred (some []))).alloc (.loop (rc .ready)) = W1:=⟨_,rfl⟩
 have hsz:w₁.heap.size = w.heap.size:=by rw [hs.heap]
 obtain ⟨db,hdb⟩:∃ db,db = w₁.heap.size:=⟨_,rfl⟩
 obtain ⟨lp,hlp⟩:∃ lp,lp = w₁.heap.size + 1:=⟨_,rfl⟩
 have hL1:W1.heap[lp]? = some (.loop (rc .ready)):=by
  rw [<-hW1,hlp]
  have:=World.alloc_heap_new (w₁.alloc (.deferred (some []))) (.loop (rc .ready))
  rwa [World.size_alloc] at this
 have hK1:W1.heap[db]? = some (.deferred (some [])):=by
  rw [<-hW1,hdb]; exact (Below.heap_alloc _ _ _ (by simp)).trans (World.alloc_heap_new w₁ _)
 have eW:Ext w W1:=by
  rw [<-hW1]
  exact ((hs.ext).alloc (by rw [hsz]; exact Nat.le_refl _) _).alloc (by rw [World.size_alloc,hsz]; omega) _
 have hfn:=hC.funcs gf hcan
 unfold callable at hfn
 cases hfg:C.P.funcs[gf]? with
 | none => simp [hfg] at hfn
 | some fg =>
 simp [hfg] at hfn
 have hbody:fg.body.isNone = false:=by
  cases hb:fg.body with
  | none => simp [hb] at hfn
  | some c => rfl
 have heval:a.eval g = .func (.func gf) #[] cap:=hr.evo hg
 have hyield:∀ s x W,(I s W ∧ W.heap[lp]? = some (.loop (rc .ready)) ∧ W.heap[db]? = some (.deferred (some []))) -> s.length < N -> YieldV C lp (enc x).toArray W fun v W' => v = .bool true ∧ (I (s ++ [x]) W' ∧ W'.heap[lp]? = some (.loop (rc .ready)) ∧ W'.heap[db]? = some (.deferred (some []))) ∧ Kp W W':=by
  rintro s x W ⟨hi,hl,hk⟩ hlen Wr hsW
  have hlr:Wr.heap[lp]? = some (.loop (rc .ready)):=by rw [hsW.heap]; exact hl
  have hy:=run_yield (P:=C.P) (args:=(enc x).toArray) hlr (by rw [hrec]; simp [hps])
  have h1:(rc .ready).assign = assign:=by rw [hrec]
  have h2:(rc .ready).body = body:=by rw [hrec]
  have h3:((rc .ready).params.zip (enc x).toArray).foldl (fun tmps (t,a) => tmps.setIfInBounds t a) (rc .ready).tmps = setP ps (enc x) a.tmps:=by rw [hrec]; simp [setP]
  rw [h1,h2,h3] at hy
  refine ⟨_,_,_,_,hy,roundIn_of_wpIn trivial ?_⟩
  have hrD:RepD n [] { tmps:=setP ps (enc x) a.tmps,defers:=[] } (bindP ps (enc x) l):=rep_setP ps (enc x) ht ⟨hr.size,rfl,hr.get⟩
  refine wpIn_mono (codeE_soundI hC (Wide.round lp) (D:=[]) assign _ W _ hA (hround lp db (by omega) (by omega) (by omega) s x W hi hlen ⟨_,hl⟩ hk) Wr.drawn _ Wr hrD hsW (fun _ => Nat.le_refl _)) ?_
  rintro e a2 W2r ⟨l2,W2,⟨rfl,hk2⟩,hr2,hs2,hd2⟩
  obtain ⟨⟨q1,q2⟩,hR⟩:=hk2
  have hl2:W2.heap[lp]? = some (.loop (rc .ready)):=q1.trans hl
  have hl2r:W2r.heap[lp]? = some (.loop (rc .ready)):=by rw [hs2.heap]; exact hl2
  refine ⟨_,run_beginRound hl2r (by rw [hrec]),?_⟩
  obtain ⟨o,ho⟩:∃ o:Obj,o = .loop { rc .ready with state:=.busy }:=⟨_,rfl⟩
  rw [<-ho]
  have hput:Put W2 lp o (W2.putObj lp o):=put_putObj (Array.getElem?_eq_some_iff.1 hl2).1
  refine wpIn_mono (codeE_soundI hC (Wide.round lp) (D:=[]) body l2 (W2.putObj lp o) _ hB (hR.body { rc .ready with state:=.busy } _ (by rw [<-ho]; exact hput)) Wr.drawn a2 _ hr2 (hs2.putObj lp o) hd2) ?_
  rintro e a3 W3r ⟨l3,W3,⟨rfl,⟨hi3,hkp3⟩,hl3,hk3⟩,hr3,hs3,hd3⟩
  have hl3r:W3r.heap[lp]? = some (.loop { rc .ready with state:=.busy }):=by rw [hs3.heap]; exact hl3
  have hend:=run_endRound (P:=C.P) none hl3r
  have e1:({ ({ rc .ready with state:=.busy }:Loop) with state:=if (none:Option Code).isNone then .ready else .done,pending:=none }:Loop) = rc .ready:=by rw [hrec]; rfl
  rw [e1] at hend
  refine ⟨_,_,hend,⟨_,W3.putObj lp (.loop (rc .ready)),rfl,⟨rfl,⟨?_,?_,?_⟩,hKp _ _ _ lp _ _ hkp3 hl3 (put_putObj (Array.getElem?_eq_some_iff.1 hl3).1)⟩,hs3.putObj lp _⟩,fun hb => hd3 hb⟩
  ·exact hIp _ _ _ lp _ _ (by omega) hl3 hi3 (put_putObj (Array.getElem?_eq_some_iff.1 hl3).1)
  ·exact World.putObj_heap_same (Array.getElem?_eq_some_iff.1 hl3).1
  ·rw [World.putObj_heap_other (by omega),hk3,hput.there db (by omega),q2,hk]
 have hc:=hiter lp (fun s W => I s W ∧ W.heap[lp]? = some (.loop (rc .ready)) ∧ W.heap[db]? = some (.deferred (some []))) W1
  (fun s W W' h e => ⟨hIe s W W' h.1 e,e.heap h.2.1,e.heap h.2.2⟩) (fun s W h => h.1) hyield ⟨hIe _ _ _ hI0 eW,hL1,hK1⟩ W1 (Same.refl W1)
 refine ⟨lp,[{ target:=.collected db,args:=#[] }],W1,{ target:=.fn (.func gf) cap,args:=#[.func (.yield lp) #[] #[]] },W1,gf,#[.func (.yield lp) #[] #[]] ++ cap,W1,?_,?_,fun _ _ => trivial,?_,fun _ => Nat.le_refl _,?_⟩
 ·rw [<-hW1,hrec,hdb,hlp]; exact run_enterLoop_outer _ _ _ _ _
 ·simp only [resolve,heval]
  simp [Deferred.ofValue,Act.eval]
 ·simp [invoke,callFunc,hfg,hfn.1]
  intro hn; simp [hn] at hbody
 ·refine Wide.wide.calls (hc.mono ?_)
  rintro e W2 ⟨⟨v,w2,rfl,⟨hi,hl,hk⟩,hsame⟩,hdr⟩
  have hlr:W2.heap[lp]? = some (.loop (rc .ready)):=by rw [hsame.heap]; exact hl
  have hend:=run_endLoop (P:=C.P) hlr (by rw [hrec]; simp)
  have e1:(rc .ready).pending = none:=by rw [hrec]
  obtain ⟨o',ho'⟩:∃ o':Obj,o' = .loop { rc .ready with state:=.exhausted }:=⟨_,rfl⟩
  rw [<-ho',e1] at hend
  refine ⟨none,_,hend,rfl,db,w2.putObj lp o',?_,?_,by omega,hIp _ _ _ lp _ _ (by omega) hl hi (put_putObj (Array.getElem?_eq_some_iff.1 hl).1),hsame.putObj lp _,?_⟩
  ·rfl
  ·rw [World.putObj_heap_other (by omega),hsame.heap]; exact hk
  ·intro hb
   have:W1.drawn = w₁.drawn:=by rw [<-hW1]; rfl
   have h1:=hd hb
   have h2:=hdr hb
   show d <= W2.drawn
   omega
theorem SndB.range (hC:C.Ok) {g:Operand} {ps:List Nat} {assign body:Code} {plans:List (Nat × PlanT)} (hA:codeI n plans assign = true) (hB:codeI n plans body = true)
  {bs:List Nat} {l:Env} {w:World} {Q:Exit -> List Nat -> Env -> World -> Prop} (ht:∀ t ∈ ps,t < n) {gf:Nat} {cap:Array Value} (hg:evo l g = some (.func (.func gf) #[] cap)) (hcan:C.can gf = true)
  {σ:Type} (enc:σ -> List Value) (hps:∀ x,(enc x).length = ps.length) (I:List σ -> World -> Prop) (Kp:World -> World -> Prop) (N:Nat) {xs:List σ} (hI0:I [] w)
  (hIe:∀ s W W',I s W -> Ext W W' -> I s W') (hIp:∀ s W W' k o r,w.heap.size <= k -> W.heap[k]? = some (.loop r) -> I s W -> Put W k o W' -> I s W') (hKp:∀ W W' W'' k o r,Kp W W' -> W'.heap[k]? = some (.loop r) -> Put W' k o W'' -> Kp W W'')
  (hround:∀ lp db,w.heap.size <= lp -> w.heap.size <= db -> lp ≠ db -> ∀ s x W,I s W -> s.length < N -> (∃ r,W.heap[lp]? = some (.loop r)) -> W.heap[db]? = some (.deferred (some [])) →
   codeE C n plans assign (bindP ps (enc x) l) W fun e l' W' => e = .normal ∧ (W'.heap[lp]? = W.heap[lp]? ∧ W'.heap[db]? = W.heap[db]?) ∧ RoundB C n plans body lp db (fun W3 => I (s ++ [x]) W3 ∧ Kp W W3) l' W')
  (hiter:∀ lp (J:List σ -> World -> Prop) W,(∀ s W W',J s W -> Ext W W' -> J s W') -> (∀ s W,J s W -> I s W) →
   (∀ s x W,J s W -> s.length < N -> YieldV C lp (enc x).toArray W fun v W' => v = .bool true ∧ J (s ++ [x]) W' ∧ Kp W W') -> J [] W -> CallsX C.dr C.P gf (#[.func (.yield lp) #[] #[]] ++ cap) W fun _ W' => J xs W')
  (hz:∀ db w',I xs w' -> w.heap.size <= db -> w'.heap[db]? = some (.deferred (some [])) -> Q .normal (db :: bs) l w'):SndB C n (.rangeFunc g ps.toArray assign body) bs l w Q:=by
 intro d a w₁ hr hs hd
 refine wp_mono (wp_rangeB hC hA hB hr hs hd ht hg hcan enc hps I Kp N hI0 hIe hIp hKp hround hiter) ?_
 rintro e a' w' ⟨rfl,db,w'',rfl,hk,hdb,hi,hs2,hd2⟩
 exact ⟨l,w'',db :: bs,hz db w'' hi hdb (by rw [<-hs2.heap]; exact hk),⟨hr.size,by show _ :: a.defers = _; rw [hr.defers]; rfl,hr.get⟩,hs2,hd2⟩
structure EndB (C:Cfg) (rs:List ResultVar) (K:Value -> World -> Prop) (bs:List Nat) (l:Env) (w:World):Prop where
 nodup:bs.Nodup
 marks:∀ b ∈ bs,w.heap[b]? = some (.deferred (some []))
 res:∀ w3,Keep (fun k => k ∉ bs) w w3 -> resAll C l w3 rs fun vs => match vs with | [v] => K v w3 | vs => K (.tuple vs.toArray) w3
def resB (C:Cfg) (rs:List ResultVar) (K:Value -> World -> Prop):Exit -> List Nat -> Env -> World -> Prop
 | .normal,bs,l,w => EndB C rs K bs l w
 | .ret,bs,l,w => EndB C rs K bs l w
 | _,_,_,_ => False
theorem leavesB {fn:Func} {tmps:Array Value} {R:Ending -> World -> Prop} {d:Nat} {B:List Nat} {w0:World} (fin:∀ w3 w4,Keep (fun k => k ∉ B) w0 w3 -> Same w3 w4 -> Dr C d w4 -> ∃ v,(results fn tmps).run C.P w4 = .ok v w4 ∧ R (.returned v) w4) :
  ∀ (bs:List Nat) (w w₁:World),(∀ b ∈ bs,b ∈ B) -> bs.Nodup -> (∀ b ∈ bs,w.heap[b]? = some (.deferred (some []))) -> Keep (fun k => k ∉ B) w0 w -> Same w w₁ -> Dr C d w₁ -> LeavesInM Fence.wide 0 C.P fn tmps R (bs.map mkD) .returning w₁
 | [],w,w₁,_,_,_,hk,hs,hd => by
  obtain ⟨v,h1,h2⟩:=fin w w₁ hk hs hd
  exact ⟨v,h1,h2⟩
 | b :: bs,w,w₁,hsub,hn,hm,hk,hs,hd => by
  have hb:=hm b (by simp)
  have hb1:w₁.heap[b]? = some (.deferred (some [])):=by rw [hs.heap]; exact hb
  have hput:Put w b (.deferred none) (w.putObj b (.deferred none)):=put_putObj (Array.getElem?_eq_some_iff.1 hb).1
  refine ⟨by simp,.inl ⟨b,_,rfl,run_takeDeferred hb1,?_⟩⟩
  refine leavesB fin bs (w.putObj b (.deferred none)) _ (fun q hq => hsub q (by simp [hq])) (List.nodup_cons.1 hn).2 (fun q hq => ?_) ?_ (hs.putObj b (.deferred none)) hd
  ·rw [hput.there q (fun e => (List.nodup_cons.1 hn).1 (e ▸ hq))]
   exact hm q (by simp [hq])
  ·refine ⟨hput.os.trans hk.os,hput.tape.trans hk.tape,hput.output.trans hk.output,by rw [hput.size]; exact hk.size,fun q hq hlt => ?_⟩
   rw [hput.there q (fun e => hq (e ▸ hsub b (by simp)))]
   exact hk.block q hq hlt
theorem callsV_ofB (hC:C.Ok) {f:Nat} {fn:Func} {c:Code} (hf:C.P.funcs[f]? = some fn) (hb:fn.body = some c) (hn:fn.ntmps = n)
  {args:List Value} (ha:args.length <= n) {w:World} {K:Value -> World -> Prop} (h:SndB C n c [] (envOf 0 args) w (resB C fn.results.toList K)):CallsX C.dr C.P f args.toArray w K:=by
 intro w₁ hs
 refine (callsIn_wide (n:=0)).1 (callsIn_of_wp_marks hf hb trivial (wpIn_wide.2 ?_))
 have hr:Rep n [] ({ tmps:=args.toArray ++ Array.replicate (fn.ntmps - args.toArray.size) undef,defers:=[] }:Act) (envOf 0 args):=by
  refine ⟨by simp [hn]; omega,rfl,fun t v hv => ?_⟩
  obtain ⟨j,rfl,hj⟩:=look_envOf args 0 t v hv
  have hlt:j < args.length:=(List.getElem?_eq_some_iff.1 hj).1
  simp only [Nat.zero_add]
  rw [Array.getElem?_append_left (by simpa using hlt)]
  simpa using hj
 refine wp_mono (h w₁.drawn _ w₁ hr hs (fun _ => Nat.le_refl _)) ?_
 have key:∀ {bs:List Nat} {l:Env} {w2 w3:World} {a:Act},EndB C fn.results.toList K bs l w2 -> Rep n (bs.map mkD) a l -> Same w2 w3 -> Dr C w₁.drawn w3 →
   LeavesInM Fence.wide 0 C.P fn a.tmps (fun e w' => (∃ v w'',e = .returned v ∧ K v w'' ∧ Same w'' w') ∧ (C.dr = true -> w₁.drawn <= w'.drawn)) a.defers .returning w3:=by
  intro bs l w2 w3 a he hr2 hs2 hd2
  rw [hr2.defers]
  refine leavesB (B:=bs) (w0:=w2) (d:=w₁.drawn) (fun w5 w6 hk h56 hd6 => ?_) bs w2 w3 (fun _ h => h) he.nodup he.marks (Keep.refl _ w2) hs2 hd2
  obtain ⟨v,hv,hrun⟩:=run_results (fn:=fn) hC hr2 h56 (he.res w5 hk)
  exact ⟨v,hrun,⟨v,w5,rfl,hv,h56⟩,hd6⟩
 rintro e a' w' ⟨l',w'',bs',hq,hr',hs',hd'⟩
 cases e with
 | normal => exact key hq hr' hs' hd'
 | ret => exact key hq hr' hs' hd'
 | _ => exact hq.elim
end
end Go.Eng
namespace Go.Eng
open Go.RowKit
section
variable {C:Cfg} {n:Nat}
structure YieldG (C:Cfg) (all post:List Oper) (o:Oper) (f:Operand) (args:List Operand) (K:Env -> World -> Prop) (l:Env) (w:World):Prop where
 ex:guardE all o l (fun l => YieldK C all post o.dst f args K l w) (fun l => runL C all post (bindv o.dst undef l) w K)
theorem regionYg (hC:C.Ok) {id:Nat} {ops:Array Oper} (hd:dstsOk n ops = true) (hnd:noDefer ops.toList = true) {pre post:List Oper} {o:Oper} (hsp:ops.toList = pre ++ o :: post) {f:Operand} {args:Array Operand} {ts:Array Nat} (ho:o.op = .call ⟨.value f,args,ts⟩)
  {l:Env} {w:World} {Q:Exit -> Env -> World -> Prop} (h:runL C ops.toList pre l w (YieldG C ops.toList post o f args.toList (Q .normal))):Snd C n (.region id ops false) l w Q:=by
 intro d a w₁ hr hs hdw
 refine wpIn_wide.1 (wpIn_mono (F:=Fence.wide) (n:=0) (Q:=Fin C n d (Q .normal)) (wpIn_region ?_) ?_)
 ·have hd':dstsOk n ops.toList.toArray = true:=by simpa using hd
  have hnd':=noDefer_spec hnd
  have hsz:ops.size = pre.length + (post.length + 1):=by
   rw [<-Array.length_toList,hsp]; simp
  have hi:ops.toList[pre.length]? = some o:=by rw [hsp]; simp
  have hrange:List.range ops.size = List.range' 0 pre.length ++ (pre.length :: (List.range' (pre.length + 1) post.length ++ [])):=by
   rw [List.range_eq_range',hsz,List.append_nil,<-List.range'_append_1,Nat.zero_add,List.range'_succ]
  have hdst:=dstsOk_spec hd (o:=o) (by
   have:ops[pre.length]? = some o:=by simpa using hi
   exact Array.mem_of_getElem? this)
  rw [hrange]
  have hpost:∀ j,j < post.length -> post[j]? = ops.toList[pre.length + 1 + j]?:=fun j _ => by
   rw [hsp,List.getElem?_append_right (by omega),show pre.length + 1 + j - pre.length = j + 1 by omega]
   simp
  have key:=runLI (F:=Fence.wide) (nn:=0) (d:=d) (D:=C.df) (all:=ops.toList) (K:=YieldG C ops.toList post o f args.toList (Q .normal)) (Q:=Fin C n d (Q .normal)) (rest:=pre.length :: (List.range' (pre.length + 1) post.length ++ [])) hC Wide.wide hd' hnd' ?_ pre 0 l w a w₁
   (fun j hj => by rw [hsp,Nat.zero_add,List.getElem?_append_left hj]) h hr hs hdw
  ·simpa using key
  ·intro l2 w2 a2 w3 hk hr2 hs2 hd2
   have hi':ops.toList.toArray[pre.length]? = some o:=by simpa using hi
   simp only [wpOpsIn,hi']
   have fin:∀ l w a w₁,Q .normal l w -> RepD n C.df a l -> Same w w₁ -> Dr C d w₁ -> wpOpsIn Fence.wide 0 C.P ops.toList.toArray (Fin C n d (Q .normal)) [] a w₁:=fun l6 w6 a6 w7 hk6 hr6 hs6 hd6 => ⟨l6,w6,hk6,⟨hr6.size,hr6.defers,hr6.get⟩,hs6,hd6⟩
   rcases guard_soundD hk.ex hr2 with ⟨hw,l3,hr3,hk3⟩ | ⟨hw,l3,hr3,hk3⟩
   ·simp only [hw,if_true]
    obtain ⟨lp,vs,hf,hvs,hy⟩:=hk3.ex
    obtain ⟨fn,tmps,assign,body,hrun,hround⟩:=hy w3 hs2
    refine ⟨fun f _ => trivial,?_⟩
    have hex:=exec_yield ho (hr3.evo hf) (argsOf_eval (fun x u hx => hr3.evo hx) hvs) hrun
    rw [Oper.semAt_eq _ _ _ (by rw [ho]; intro c hc; cases hc),hex]
    refine ⟨fun e => (by cases e),hround.mono ?_⟩
    rintro e w4 ⟨⟨v,w5,rfl,hk2,hs5⟩,hd5⟩
    exact runLI (F:=Fence.wide) (nn:=0) (d:=d) (D:=C.df) (all:=ops.toList) (K:=Q .normal) (rest:=[]) hC Wide.wide hd' hnd' fin post (pre.length + 1) _ w5 _ w4 hpost hk2 (hr3.bindv hdst v) hs5 (hd2.step hd5)
   ·simp only [hw,Bool.false_eq_true,if_false]
    exact ⟨fun f _ => trivial,runLI (F:=Fence.wide) (nn:=0) (d:=d) (D:=C.df) (all:=ops.toList) (K:=Q .normal) (rest:=[]) hC Wide.wide hd' hnd' fin post (pre.length + 1) _ w2 _ w3 hpost hk3 (hr3.bindv hdst undef) hs2 hd2⟩
 ·intro e a w h
  cases e <;> first | exact h | exact h.elim
theorem regionYgi (hC:C.Ok) {id:Nat} {ops:Array Oper} (hd:dstsOk n ops = true) (hnd:noDefer ops.toList = true) (i:Nat) {o:Oper} (hi:ops.toList[i]? = some o) {f:Operand} {args:Array Operand} {ts:Array Nat} (ho:o.op = .call ⟨.value f,args,ts⟩)
  {l:Env} {w:World} {Q:Exit -> Env -> World -> Prop} (h:runL C ops.toList (ops.toList.take i) l w (YieldG C ops.toList (ops.toList.drop (i + 1)) o f args.toList (Q .normal))):Snd C n (.region id ops false) l w Q:=by
 obtain ⟨hlt,e⟩:=List.getElem?_eq_some_iff.1 hi
 refine regionYg hC hd hnd (pre:=ops.toList.take i) (post:=ops.toList.drop (i + 1)) ?_ ho h
 rw [<-e,List.getElem_cons_drop,List.take_append_drop]
end
end Go.Eng
namespace Go.Eng
open Go.RowKit
theorem shlQ {P:Program} {t:Nat} {a:Nat} (h:a < 62) (w:World):(binOp .shl t (.int .i64 1) (.int .i64 (a:Int))).run P w = .ok (.int .i64 ((2 ^ a:Nat):Int)) w:=by
 have h1:min a 64 = a:=by omega
 have h2:IntKind.i64.wrap (1 * 2 ^ a) = ((2 ^ a:Nat):Int):=by
  rw [Int.one_mul]
  have:=wrap64_nat (n:=2 ^ a) (Nat.pow_lt_pow_right (by omega) h)
  rw [<-this]
  congr 1
 have h3:¬ ((a:Int) < 0):=by omega
 simp [binOp,Op.shift,IntKind.bits,h1,h3]
 simpa using h2
theorem ofInt_nat (a:Nat):BitVec.ofInt 64 (a:Int) = BitVec.ofNat 64 a:=by
 apply BitVec.eq_of_toNat_eq
 simp [BitVec.toNat_ofInt]
theorem andQ {P:Program} {t:Nat} {a b:Nat} (ha:a < 2 ^ 62) (hb:b < 2 ^ 62) (w:World):(binOp .and t (.int .i64 (a:Int)) (.int .i64 (b:Int))).run P w = .ok (.int .i64 ((a &&& b:Nat):Int)) w:=by
 have h2:(BitVec.ofNat 64 a &&& BitVec.ofNat 64 b).toNat = a &&& b:=by
  rw [BitVec.toNat_and,BitVec.toNat_ofNat,BitVec.toNat_ofNat,Nat.mod_eq_of_lt (by omega),Nat.mod_eq_of_lt (by omega)]
 have h3:=wrap64_nat (n:=a &&& b) (Nat.lt_of_le_of_lt Nat.and_le_left ha)
 rw [<-h2] at h3
 simp only [binOp,Op.intBits,IntKind.bits,ofInt_nat]
 rw [if_neg (by simp),<-h2]
 exact congrArg (fun z => Result.ok (Value.int .i64 z) w) h3
theorem orQ {P:Program} {t:Nat} {a b:Nat} (ha:a < 2 ^ 62) (hb:b < 2 ^ 62) (w:World):(binOp .or t (.int .i64 (a:Int)) (.int .i64 (b:Int))).run P w = .ok (.int .i64 ((a ||| b:Nat):Int)) w:=by
 have h2:(BitVec.ofNat 64 a ||| BitVec.ofNat 64 b).toNat = a ||| b:=by
  rw [BitVec.toNat_or,BitVec.toNat_ofNat,BitVec.toNat_ofNat,Nat.mod_eq_of_lt (by omega),Nat.mod_eq_of_lt (by omega)]
 have h3:=wrap64_nat (n:=a ||| b) (Nat.or_lt_two_pow ha hb)
 rw [<-h2] at h3
 simp only [binOp,Op.intBits,IntKind.bits,ofInt_nat]
 rw [if_neg (by simp),<-h2]
 exact congrArg (fun z => Result.ok (Value.int .i64 z) w) h3
theorem andNotQ {P:Program} {t:Nat} {a i:Nat} (ha:a < 2 ^ 62) (hi:a.testBit i = true) (w:World):(binOp .andNot t (.int .i64 (a:Int)) (.int .i64 ((2 ^ i:Nat):Int))).run P w = .ok (.int .i64 ((a ^^^ 2 ^ i:Nat):Int)) w:=by
 have hi62:i < 62:=by
  rcases Nat.lt_or_ge i 62 with h | h
  ·exact h
  ·rw [Nat.testBit_lt_two_pow (Nat.lt_of_lt_of_le ha (Nat.pow_le_pow_right (by omega) h))] at hi; cases hi
 have hp:2 ^ i < 2 ^ 62:=Nat.pow_lt_pow_right (by omega) hi62
 have h2:(BitVec.ofNat 64 a &&& ~~~ BitVec.ofNat 64 (2 ^ i)).toNat = a ^^^ 2 ^ i:=by
  apply Nat.eq_of_testBit_eq
  intro j
  rw [BitVec.testBit_toNat,BitVec.getLsbD_and,BitVec.getLsbD_not,BitVec.getLsbD_ofNat,BitVec.getLsbD_ofNat,Nat.testBit_xor,Nat.testBit_two_pow]
  by_cases hj:j < 64
  ·by_cases e:i = j
   ·subst e; simp [hj,hi]
   ·simp [hj,e]
  ·have h0:a.testBit j = false:=Nat.testBit_lt_two_pow (Nat.lt_of_lt_of_le ha (Nat.pow_le_pow_right (by omega) (by omega)))
   have:i ≠ j:=by omega
   simp [hj,h0,this]
 have h3:=wrap64_nat (n:=a ^^^ 2 ^ i) (Nat.xor_lt_two_pow ha hp)
 rw [<-h2] at h3
 simp only [binOp,Op.intBits,IntKind.bits,ofInt_nat]
 rw [if_neg (by simp),<-h2]
 exact congrArg (fun z => Result.ok (Value.int .i64 z) w) h3
end Go.Eng
namespace Go.Proofs.YtigapannpbaihaaGreat.Rw
def without (s:Nat -> Bool) (x:Nat):Nat -> Bool:=fun y => s y && !(y == x)
def nextC (n:Nat) (W:Nat -> Nat -> Int) (s:Nat -> Bool) (x:Nat):Int:=((List.range n).map fun y => if s y = true ∧ y ≠ x then W y x else 0).sum
def behC (W:Nat -> Nat -> Int) (c:List Nat) (s:Nat -> Bool) (x:Nat):Int:=(c.map fun k => if s k = true ∧ k ≠ x then W k x else 0).sum
structure TabOk (W:Nat -> Nat -> Int) (c:List Nat) (V:(Nat -> Bool) -> Int):Prop where
 here:∀ s t:Nat -> Bool,(∀ x ∈ c,s x = t x) -> V s = V t
 le:∀ s x,x ∈ c -> s x = true -> V s <= V (without s x) + behC W c s x
 ex:∀ s,(∃ x ∈ c,s x = true) -> ∃ x ∈ c,s x = true ∧ V s = V (without s x) + behC W c s x
structure Circ (n:Nat) (W:Nat -> Nat -> Int) (cs:List (List Nat)) (idx:Nat -> Nat):Prop where
 pos:∀ y x,0 <= W y x
 lt:∀ c ∈ cs,∀ x ∈ c,x < n
 nodup:∀ c ∈ cs,c.Nodup
 up:∀ y x,0 < W y x -> y < n -> x < n -> idx y <= idx x
 self:∀ x,W x x = 0
 same:∀ y x,y < n -> x < n -> idx y = idx x -> y ≠ x -> ∃ c ∈ cs,y ∈ c ∧ x ∈ c
 flat:∀ c ∈ cs,∀ y ∈ c,∀ x ∈ c,idx y = idx x
 apart:cs.Pairwise fun a b => ∀ x ∈ a,x ∉ b
theorem sum_nonneg:∀ (l:List Int),(∀ a ∈ l,0 <= a) -> 0 <= l.sum
 | [],_ => by simp
 | a :: r,h => by
  have h1:=h a (by simp)
  have h2:=sum_nonneg r fun b hb => h b (by simp [hb])
  rw [List.sum_cons]; omega
theorem sum_zero {α:Type} (f:α -> Int):∀ (l:List α),(∀ a ∈ l,f a = 0) -> (l.map f).sum = 0
 | [],_ => by simp
 | a :: r,h => by
  have h1:=h a (by simp)
  have h2:=sum_zero f r fun b hb => h b (by simp [hb])
  simp only [List.map_cons,List.sum_cons]; omega
theorem zero_of_sum {α:Type} (f:α -> Int):∀ (l:List α),(∀ a ∈ l,0 <= f a) -> (l.map f).sum <= 0 -> ∀ a ∈ l,f a = 0
 | [],_,_,a,h => by simp at h
 | b :: r,h,hs,a,ha => by
  have h1:=h b (by simp)
  have h2:=sum_nonneg (r.map f) (fun c hc => by obtain ⟨d,hd,rfl⟩:=List.mem_map.1 hc; exact h d (by simp [hd]))
  simp only [List.map_cons,List.sum_cons] at hs
  rcases List.mem_cons.1 ha with rfl | ha
  ·omega
  ·exact zero_of_sum f r (fun c hc => h c (by simp [hc])) (by omega) a ha
theorem sum_split {α:Type} (f:α -> Int) (p:α -> Bool):∀ (l:List α),(l.map f).sum = (l.map fun a => if p a = true then f a else 0).sum + (l.map fun a => if p a = true then 0 else f a).sum
 | [] => by simp
 | a :: r => by
  have ih:=sum_split f p r
  simp only [List.map_cons,List.sum_cons]
  cases p a <;> simp <;> omega
theorem sum_filter {α:Type} (f:α -> Int) (p:α -> Bool):∀ (l:List α),(l.map fun a => if p a = true then f a else 0).sum = ((l.filter p).map f).sum
 | [] => by simp
 | a :: r => by
  have ih:=sum_filter f p r
  simp only [List.map_cons,List.sum_cons,List.filter_cons]
  cases hp:p a <;> simp [ih]
theorem sum_perm {α:Type} (f:α -> Int) {l l':List α} (h:l.Perm l'):(l.map f).sum = (l'.map f).sum:=by
 induction h with
 | nil => rfl
 | cons x _ ih => simp only [List.map_cons,List.sum_cons,ih]
 | swap x y l => simp only [List.map_cons,List.sum_cons]; omega
 | trans _ _ i1 i2 => exact i1.trans i2
theorem sum_members {n:Nat} {c:List Nat} (hn:c.Nodup) (hl:∀ x ∈ c,x < n) (f:Nat -> Int):((List.range n).map fun y => if decide (y ∈ c) = true then f y else 0).sum = (c.map f).sum:=by
 rw [sum_filter]
 refine sum_perm f ((List.perm_ext_iff_of_nodup (List.nodup_range.filter _) hn).2 fun a => ?_)
 simp only [List.mem_filter,List.mem_range,decide_eq_true_eq]
 exact ⟨fun h => h.2,fun h => ⟨hl a h,h⟩⟩
theorem apart_eq:∀ {cs:List (List Nat)},(cs.Pairwise fun a b => ∀ x ∈ a,x ∉ b) -> ∀ {d c:List Nat} {x:Nat},d ∈ cs -> c ∈ cs -> x ∈ d -> x ∈ c -> d = c
 | [],_,_,_,_,h,_,_,_ => by cases h
 | e :: r,hp,d,c,x,hd,hc,h1,h2 => by
  obtain ⟨he,hp⟩:=List.pairwise_cons.1 hp
  rcases List.mem_cons.1 hd with e1 | hd'
  ·rcases List.mem_cons.1 hc with e2 | hc'
   ·rw [e1,e2]
   ·exact absurd h2 (he c hc' x (e1 ▸ h1))
  ·rcases List.mem_cons.1 hc with e2 | hc'
   ·exact absurd h1 (he d hd' x (e2 ▸ h2))
   ·exact apart_eq hp hd' hc' h1 h2
section
variable {n:Nat} {W:Nat -> Nat -> Int} {cs:List (List Nat)} {idx:Nat -> Nat} {V:List Nat -> (Nat -> Bool) -> Int}
abbrev costs (W:Nat -> Nat -> Int) (s:Nat -> Bool) (x y:Nat):Int:=if s y = true ∧ y ≠ x then W y x else 0
def left (cs:List (List Nat)) (V:List Nat -> (Nat -> Bool) -> Int) (s:Nat -> Bool):Int:=(cs.map fun c => V c s).sum
theorem next_split (h:Circ n W cs idx) {c:List Nat} (hc:c ∈ cs) (s:Nat -> Bool) (x:Nat) :
  nextC n W s x = behC W c s x + ((List.range n).map fun y => if decide (y ∈ c) = true then 0 else costs W s x y).sum:=by
 unfold nextC behC
 rw [sum_split (costs W s x) (fun y => decide (y ∈ c)),sum_members (h.nodup c hc) (h.lt c hc)]
theorem costs_pos (h:Circ n W cs idx) (s:Nat -> Bool) (x y:Nat):0 <= costs W s x y:=by
 unfold costs
 split
 ·exact h.pos y x
 ·omega
theorem left_off (hV:∀ c ∈ cs,TabOk W c (V c)) {s:Nat -> Bool} {x:Nat} (hx:∀ c ∈ cs,x ∉ c):left cs V (without s x) = left cs V s:=by
 unfold left
 congr 1
 apply List.map_congr_left
 intro c hc
 refine (hV c hc).here _ _ fun y hy => ?_
 have:y ≠ x:=fun e => hx c hc (e ▸ hy)
 simp [without,this]
theorem left_in:∀ (cs:List (List Nat)),(∀ c ∈ cs,TabOk W c (V c)) -> (cs.Pairwise fun a b => ∀ x ∈ a,x ∉ b) -> ∀ {s:Nat -> Bool} {x:Nat} {c:List Nat},c ∈ cs -> x ∈ c -> left cs V (without s x) + V c s = left cs V s + V c (without s x)
 | [],_,_,_,_,_,hc,_ => by cases hc
 | d :: r,hV,hp,s,x,c,hc,hx => by
  obtain ⟨hd,hp⟩:=List.pairwise_cons.1 hp
  have hVr:∀ c ∈ r,TabOk W c (V c):=fun c hc => hV c (by simp [hc])
  show (V d (without s x) + left r V (without s x)) + V c s = (V d s + left r V s) + V c (without s x)
  rcases List.mem_cons.1 hc with rfl | hc
  ·have:=left_off (s:=s) (x:=x) hVr fun e he hxe => hd e he x hx hxe
   omega
  ·have ih:=left_in r hVr hp (s:=s) hc hx
   have:V d (without s x) = V d s:=by
    refine (hV d (by simp)).here _ _ fun y hy => ?_
    have:y ≠ x:=fun e => hd c hc y hy (e ▸ hx)
    simp [without,this]
   omega
theorem chosen_ok (h:Circ n W cs idx) (hV:∀ c ∈ cs,TabOk W c (V c)) {s:Nat -> Bool} {x:Nat} (hs:s x = true) (he:nextC n W s x + left cs V (without s x) = left cs V s) :
  ∀ y,y < n -> s y = true -> y ≠ x -> 0 < W y x -> ∃ c ∈ cs,x ∈ c ∧ y ∈ c:=by
 intro y hy hsy hyx hw
 have hcy:costs W s x y = W y x:=if_pos ⟨hsy,hyx⟩
 by_cases hx:∃ c ∈ cs,x ∈ c
 ·obtain ⟨c,hc,hxc⟩:=hx
  refine ⟨c,hc,hxc,Decidable.byContradiction fun hyc => ?_⟩
  have h1:=next_split h hc s x
  have h2:=left_in cs hV h.apart (s:=s) hc hxc
  have h3:=(hV c hc).le s x hxc hs
  have h4:=zero_of_sum (fun y => if decide (y ∈ c) = true then 0 else costs W s x y) (List.range n) (fun a _ => by split; omega; exact costs_pos h s x a) (by omega) y (List.mem_range.2 hy)
  simp only [hyc,decide_false,Bool.false_eq_true,if_false] at h4
  rw [hcy] at h4; omega
 ·have hx:∀ c ∈ cs,x ∉ c:=fun c hc hxc => hx ⟨c,hc,hxc⟩
  have h1:=left_off (s:=s) (x:=x) hV hx
  have h4:=zero_of_sum (costs W s x) (List.range n) (fun a _ => costs_pos h s x a) (by show nextC n W s x <= 0; omega) y (List.mem_range.2 hy)
  rw [hcy] at h4; omega
theorem exists_next (h:Circ n W cs idx) (hV:∀ c ∈ cs,TabOk W c (V c)) {s:Nat -> Bool} (hs:∃ x,x < n ∧ s x = true):∃ x,x < n ∧ s x = true ∧ nextC n W s x + left cs V (without s x) = left cs V s:=by
 obtain ⟨m,hm⟩:∃ m,m < n ∧ s m = true ∧ ∀ y,y < n -> s y = true -> idx m <= idx y:=by
  have key:∀ (k:Nat),(∃ x,x < n ∧ s x = true ∧ idx x <= k) -> ∃ m,m < n ∧ s m = true ∧ ∀ y,y < n -> s y = true -> idx m <= idx y:=by
   intro k
   induction k with
   | zero => rintro ⟨x,h1,h2,h3⟩; exact ⟨x,h1,h2,fun y _ _ => by omega⟩
   | succ k ih =>
    rintro ⟨x,h1,h2,h3⟩
    by_cases hlow:∃ y,y < n ∧ s y = true ∧ idx y <= k
    ·exact ih hlow
    ·exact ⟨x,h1,h2,fun y hy1 hy2 => by
      have:¬ idx y <= k:=fun hk => hlow ⟨y,hy1,hy2,hk⟩
      omega⟩
  obtain ⟨x,h1,h2⟩:=hs
  exact key (idx x) ⟨x,h1,h2,Nat.le_refl _⟩
 obtain ⟨hmn,hms,hmin⟩:=hm
 by_cases hx:∃ c ∈ cs,m ∈ c
 ·obtain ⟨c,hc,hmc⟩:=hx
  obtain ⟨x,hxc,hsx,hv⟩:=(hV c hc).ex s ⟨m,hmc,hms⟩
  have hxn:=h.lt c hc x hxc
  refine ⟨x,hxn,hsx,?_⟩
  have h1:=next_split h hc s x
  have h2:=left_in cs hV h.apart (s:=s) hc hxc
  have h0:((List.range n).map fun y => if decide (y ∈ c) = true then 0 else costs W s x y).sum = 0:=by
   refine sum_zero _ _ fun y hy => ?_
   have hy:y < n:=List.mem_range.1 hy
   by_cases hyc:y ∈ c
   ·simp [hyc]
   ·simp only [hyc,decide_false,Bool.false_eq_true,if_false]
    unfold costs
    split
    ·rename_i hh
     have hp:=h.pos y x
     by_cases hw:0 < W y x
     ·have hu:=h.up y x hw hy hxn
      have hi:=h.flat c hc x hxc m hmc
      have hl:=hmin y hy hh.1
      obtain ⟨d,hd,h1,h2⟩:=h.same y x hy hxn (by omega) hh.2
      have:d = c:=apart_eq h.apart hd hc h2 hxc
      exact absurd (this ▸ h1) hyc
     ·omega
    ·rfl
  omega
 ·have hx:∀ c ∈ cs,m ∉ c:=fun c hc hmc => hx ⟨c,hc,hmc⟩
  refine ⟨m,hmn,hms,?_⟩
  have h1:=left_off (s:=s) (x:=m) hV hx
  have h0:nextC n W s m = 0:=by
   refine sum_zero _ _ fun y hy => ?_
   have hy:y < n:=List.mem_range.1 hy
   split
   ·rename_i hh
    have hp:=h.pos y m
    by_cases hw:0 < W y m
    ·have hu:=h.up y m hw hy hmn
     have hl:=hmin y hy hh.1
     obtain ⟨d,hd,h1,h2⟩:=h.same y m hy hmn (by omega) hh.2
     exact absurd h2 (hx d hd)
    ·omega
   ·rfl
  omega
end
end Go.Proofs.YtigapannpbaihaaGreat.Rw
namespace Go.Proofs.YtigapannpbaihaaGreat.Rw
def never:Int:=1099511627776
def pick (n:Nat) (W:Nat -> Nat -> Int) (cs:List (List Nat)) (V:List Nat -> (Nat -> Bool) -> Int) (s:Nat -> Bool) (rest:Int):Option Nat :=
 (List.range n).find? fun x => s x && decide (nextC n W s x < never) && decide (nextC n W s x + left cs V (without s x) = rest)
def firstL (n:Nat) (W:Nat -> Nat -> Int) (cs:List (List Nat)) (V:List Nat -> (Nat -> Bool) -> Int):Nat -> (Nat -> Bool) -> Int -> List Nat
 | 0,_,_ => []
 | k + 1,s,rest => match pick n W cs V s rest with
  | some x => x :: firstL n W cs V k (without s x) (left cs V (without s x))
  | none => firstL n W cs V k s rest
section
variable {n:Nat} {W:Nat -> Nat -> Int} {cs:List (List Nat)} {idx:Nat -> Nat} {V:List Nat -> (Nat -> Bool) -> Int}
theorem without_perm {s:Nat -> Bool} {x:Nat} (hx:x < n) (hs:s x = true):((List.range n).filter s).Perm (x :: (List.range n).filter (without s x)):=by
 refine (List.perm_ext_iff_of_nodup (List.nodup_range.filter _) ?_).2 fun a => ?_
 ·rw [List.nodup_cons]
  exact ⟨by simp [without],List.nodup_range.filter _⟩
 ·simp only [List.mem_filter,List.mem_range,List.mem_cons,without,Bool.and_eq_true,Bool.not_eq_true',beq_eq_false_iff_ne]
  constructor
  ·intro h
   by_cases e:a = x
   ·exact .inl e
   ·exact .inr ⟨h.1,h.2,e⟩
  ·rintro (rfl | h)
   ·exact ⟨hx,hs⟩
   ·exact ⟨h.1,h.2.1⟩
theorem firstL_spec (h:Circ n W cs idx) (hV:∀ c ∈ cs,TabOk W c (V c)) (hb:∀ s x,nextC n W s x < never):∀ (k:Nat) (s:Nat -> Bool),((List.range n).filter s).length = k →
  (firstL n W cs V k s (left cs V s)).Perm ((List.range n).filter s) ∧ (firstL n W cs V k s (left cs V s)).Pairwise fun x y => 0 < W y x -> ∃ c ∈ cs,x ∈ c ∧ y ∈ c:=by
 intro k
 induction k with
 | zero =>
  intro s hk
  have:(List.range n).filter s = []:=List.eq_nil_of_length_eq_zero hk
  rw [this]
  exact ⟨List.Perm.refl _,List.Pairwise.nil⟩
 | succ k ih =>
  intro s hk
  have hex:∃ x,x < n ∧ s x = true:=by
   cases hf:(List.range n).filter s with
   | nil => rw [hf] at hk; cases hk
   | cons x r =>
    have:x ∈ (List.range n).filter s:=by rw [hf]; simp
    have:=List.mem_filter.1 this
    exact ⟨x,List.mem_range.1 this.1,this.2⟩
  obtain ⟨x0,hx0,hs0,he0⟩:=exists_next h hV hex
  have hp:∃ x,pick n W cs V s (left cs V s) = some x:=by
   unfold pick
   cases hf:(List.range n).find? fun x => s x && decide (nextC n W s x < never) && decide (nextC n W s x + left cs V (without s x) = left cs V s) with
   | some x => exact ⟨x,rfl⟩
   | none =>
    have:=List.find?_eq_none.1 hf x0 (List.mem_range.2 hx0)
    exact absurd (by simp [hs0,hb s x0,he0]) this
  obtain ⟨x,hx⟩:=hp
  have hf:=List.find?_some hx
  have hm:=List.mem_of_find?_eq_some hx
  simp only [Bool.and_eq_true,decide_eq_true_eq] at hf
  have hxn:=List.mem_range.1 hm
  have hperm:=without_perm hxn hf.1.1
  have hlen:((List.range n).filter (without s x)).length = k:=by
   have:=hperm.length_eq
   rw [hk,List.length_cons] at this; omega
  obtain ⟨i1,i2⟩:=ih (without s x) hlen
  have e:firstL n W cs V (k + 1) s (left cs V s) = x :: firstL n W cs V k (without s x) (left cs V (without s x)):=by
   show (match pick n W cs V s (left cs V s) with | some x => x :: firstL n W cs V k (without s x) (left cs V (without s x)) | none => firstL n W cs V k s (left cs V s)) = _
   rw [hx]
  rw [e]
  refine ⟨(i1.cons x).trans hperm.symm,List.pairwise_cons.2 ⟨fun y hy hw => ?_,i2⟩⟩
  have hy:=List.mem_filter.1 (i1.mem_iff.1 hy)
  have hy2:=hy.2
  simp only [without,Bool.and_eq_true,Bool.not_eq_true',beq_eq_false_iff_ne] at hy2
  exact chosen_ok h hV hf.1.1 hf.2 y (List.mem_range.1 hy.1) hy2.1 hy2.2 hw
end
end Go.Proofs.YtigapannpbaihaaGreat.Rw
namespace Go.Proofs.YtigapannpbaihaaGreat.Rw
def clr (s i:Nat):Nat:=s ^^^ 2 ^ i
theorem clr_bit (s i j:Nat):(clr s i).testBit j = (s.testBit j ^^ decide (i = j)):=by
 unfold clr; rw [Nat.testBit_xor,Nat.testBit_two_pow]
theorem clr_self {s i:Nat} (h:s.testBit i = true):(clr s i).testBit i = false:=by simp [clr_bit,h]
theorem clr_ne {s i j:Nat} (h:i ≠ j):(clr s i).testBit j = s.testBit j:=by simp [clr_bit,h]
theorem clr_lt {s i:Nat} (h:s.testBit i = true):clr s i < s :=
 Nat.lt_of_le_of_ne (Nat.le_of_testBit fun j hj => by
  by_cases e:i = j
  ·subst e; exact h
  ·rwa [clr_ne e] at hj) fun e => by
  have:=clr_self h
  rw [e,h] at this; cases this
theorem clr_comm (s i j:Nat):clr (clr s i) j = clr (clr s j) i:=by
 unfold clr; rw [Nat.xor_assoc,Nat.xor_comm (2 ^ i),<-Nat.xor_assoc]
theorem bit_lt {s i m:Nat} (hs:s < 2 ^ m) (h:s.testBit i = true):i < m:=by
 rcases Nat.lt_or_ge i m with h1 | h1
 ·exact h1
 ·have:s < 2 ^ i:=Nat.lt_of_lt_of_le hs (Nat.pow_le_pow_right (by omega) h1)
  rw [Nat.testBit_lt_two_pow this] at h; cases h
def sumS (m:Nat) (f:Nat -> Int) (s:Nat):Int:=((List.range m).map fun k => if s.testBit k = true then f k else 0).sum
theorem sumS_succ (m:Nat) (f:Nat -> Int) (s:Nat):sumS (m + 1) f s = sumS m f s + if s.testBit m = true then f m else 0:=by
 unfold sumS; simp [List.range_succ]
theorem sumS_congr {m:Nat} {f:Nat -> Int} {s t:Nat} (h:∀ k,k < m -> s.testBit k = t.testBit k):sumS m f s = sumS m f t:=by
 unfold sumS; congr 1
 apply List.map_congr_left
 intro k hk
 rw [h k (List.mem_range.1 hk)]
theorem sumS_zero (m:Nat) (f:Nat -> Int):sumS m f 0 = 0:=sum_zero _ _ fun k _ => by simp
theorem sumS_clr {f:Nat -> Int} {s k:Nat} (h:s.testBit k = true):∀ {m:Nat},k < m -> sumS m f s = sumS m f (clr s k) + f k
 | 0,hk => absurd hk (by omega)
 | m + 1,hk => by
  rw [sumS_succ,sumS_succ]
  by_cases e:k = m
  ·subst e
   rw [sumS_congr (s:=s) (t:=clr s k) (m:=k) fun j hj => (clr_ne (by omega)).symm]
   simp [h,clr_self h]
  ·rw [sumS_clr h (m:=m) (by omega),clr_ne e]
   omega
theorem sumS_le {m:Nat} {f:Nat -> Int} {b:Int} (hb:0 <= b) (h:∀ k,k < m -> f k <= b) (s:Nat):sumS m f s <= b * m:=by
 induction m with
 | zero => simp [sumS]
 | succ m ih =>
  rw [sumS_succ]
  have h1:=ih fun k hk => h k (by omega)
  have h2:=h m (by omega)
  have h3:b * ((m + 1:Nat):Int) = b * m + b:=by rw [Int.natCast_succ,Int.mul_add,Int.mul_one]
  rw [h3]
  split <;> omega
theorem sumS_nonneg {m:Nat} {f:Nat -> Int} (h:∀ k,k < m -> 0 <= f k) (s:Nat):0 <= sumS m f s :=
 sum_nonneg _ fun a ha => by
  obtain ⟨k,hk,rfl⟩:=List.mem_map.1 ha
  have:=h k (List.mem_range.1 hk)
  split <;> omega
def minStep (w:Nat -> Nat -> Int) (m:Nat) (l:List Int) (s:Nat) (acc:Int) (i:Nat):Int:=if s.testBit i = true then min acc (l.getD (clr s i) 0 + sumS m (w i) (clr s i)) else acc
def val (w:Nat -> Nat -> Int) (m:Nat) (l:List Int) (s:Nat):Int:=if s = 0 then 0 else (List.range m).foldl (minStep w m l s) never
def tabL (w:Nat -> Nat -> Int) (m:Nat):Nat -> List Int
 | 0 => []
 | n + 1 => tabL w m n ++ [val w m (tabL w m n) n]
theorem tabL_length (w:Nat -> Nat -> Int) (m:Nat):∀ n,(tabL w m n).length = n
 | 0 => rfl
 | n + 1 => by simp [tabL,tabL_length w m n]
theorem tabL_get (w:Nat -> Nat -> Int) (m:Nat):∀ {n s:Nat},s < n -> (tabL w m n)[s]? = some (val w m (tabL w m s) s)
 | 0,s,h => by omega
 | n + 1,s,h => by
  show (tabL w m n ++ [val w m (tabL w m n) n])[s]? = _
  by_cases e:s = n
  ·subst e
   rw [List.getElem?_append_right (by rw [tabL_length]; omega)]
   simp [tabL_length]
  ·rw [List.getElem?_append_left (by rw [tabL_length]; omega)]
   exact tabL_get w m (by omega)
def T (w:Nat -> Nat -> Int) (m s:Nat):Int:=val w m (tabL w m s) s
theorem tabL_getD (w:Nat -> Nat -> Int) (m:Nat) {n s:Nat} (h:s < n):(tabL w m n).getD s 0 = T w m s:=by
 rw [List.getD_eq_getElem?_getD,tabL_get w m h]; rfl
theorem foldl_min_le {α:Type} (p:α -> Bool) (g:α -> Int):∀ (l:List α) (acc:Int),l.foldl (fun a i => if p i = true then min a (g i) else a) acc <= acc ∧ ∀ i ∈ l,p i = true -> l.foldl (fun a i => if p i = true then min a (g i) else a) acc <= g i
 | [],acc => ⟨Int.le_refl _,fun _ h => by cases h⟩
 | x :: r,acc => by
  simp only [List.foldl_cons]
  obtain ⟨h1,h2⟩:=foldl_min_le p g r (if p x = true then min acc (g x) else acc)
  refine ⟨?_,fun i hi hp => ?_⟩
  ·split at h1 <;> rename_i hx <;> simp only [hx,if_true,if_false,Bool.false_eq_true] <;> omega
  ·rcases List.mem_cons.1 hi with rfl | hi
   ·rw [if_pos hp] at h1 ⊢; omega
   ·exact h2 i hi hp
theorem foldl_min_ex {α:Type} (p:α -> Bool) (g:α -> Int):∀ (l:List α) (acc:Int),l.foldl (fun a i => if p i = true then min a (g i) else a) acc = acc ∨ ∃ i ∈ l,p i = true ∧ l.foldl (fun a i => if p i = true then min a (g i) else a) acc = g i
 | [],acc => .inl rfl
 | x :: r,acc => by
  simp only [List.foldl_cons]
  rcases foldl_min_ex p g r (if p x = true then min acc (g x) else acc) with h | ⟨i,hi,hp,h⟩
  ·rw [h]
   by_cases hx:p x = true
   ·rw [if_pos hx]
    rcases Int.le_total acc (g x) with h1 | h1
    ·exact .inl (Int.min_eq_left h1)
    ·exact .inr ⟨x,by simp,hx,Int.min_eq_right h1⟩
   ·rw [if_neg hx]; exact .inl rfl
  ·exact .inr ⟨i,by simp [hi],hp,h⟩
section
variable {w:Nat -> Nat -> Int} {m:Nat}
theorem T_zero (w:Nat -> Nat -> Int) (m:Nat):T w m 0 = 0:=by simp [T,val]
theorem T_eq {s:Nat} (h:s ≠ 0):T w m s = (List.range m).foldl (fun a i => if s.testBit i = true then min a (T w m (clr s i) + sumS m (w i) (clr s i)) else a) never:=by
 unfold T val
 rw [if_neg h]
 congr 1
 funext a i
 unfold minStep
 by_cases hi:s.testBit i = true
 ·rw [if_pos hi,if_pos hi,tabL_getD w m (clr_lt hi)]; rfl
 ·rw [if_neg hi,if_neg hi]
theorem T_le {s i:Nat} (hi:i < m) (h:s.testBit i = true):T w m s <= T w m (clr s i) + sumS m (w i) (clr s i):=by
 have hs:s ≠ 0:=by rintro rfl; simp at h
 rw [T_eq hs]
 exact (foldl_min_le (fun i => s.testBit i) _ (List.range m) never).2 i (List.mem_range.2 hi) h
variable (hw:∀ i k,0 <= w i k ∧ w i k <= 1000) (hm:m <= 1000)
include hw
theorem T_bound:∀ (j s:Nat),j <= m -> s < 2 ^ j -> T w m s <= 1000 * m * j
 | 0,s,_,h => by
  have:s = 0:=by simpa using h
  subst this; rw [T_zero]; omega
 | j + 1,s,hj,h => by
  have h3:(1000 * m * ((j + 1:Nat):Int)) = 1000 * m * j + 1000 * m:=by rw [Int.natCast_succ,Int.mul_add,Int.mul_one]
  have h0:(0:Int) <= 1000 * m:=by omega
  by_cases hb:s.testBit j = true
  ·have h1:=T_le (w:=w) (m:=m) (s:=s) (i:=j) (by omega) hb
   have h2:=T_bound j (clr s j) (by omega) (Nat.lt_pow_two_of_testBit _ fun i hi => by
    by_cases e:i = j
    ·subst e; exact clr_self hb
    ·rw [clr_ne (by omega)]
     exact Nat.testBit_lt_two_pow (Nat.lt_of_lt_of_le h (Nat.pow_le_pow_right (by omega) (by omega))))
   have h4:=sumS_le (m:=m) (f:=w j) (b:=1000) (by omega) (fun k _ => (hw j k).2) (clr s j)
   omega
  ·have h2:=T_bound j s (by omega) (Nat.lt_pow_two_of_testBit _ fun i hi => by
    by_cases e:i = j
    ·subst e; simpa using hb
    ·exact Nat.testBit_lt_two_pow (Nat.lt_of_lt_of_le h (Nat.pow_le_pow_right (by omega) (by omega))))
   omega
include hm
theorem T_small {s:Nat} (h:s < 2 ^ m):T w m s <= 1000000000:=by
 have h1:=T_bound hw m s (Nat.le_refl _) h
 have h2:(1000 * (m:Int)) * m <= (1000 * (m:Int)) * 1000:=Int.mul_le_mul_of_nonneg_left (by omega) (by omega)
 omega
theorem T_ex {s:Nat} (hs:s < 2 ^ m) (h0:s ≠ 0):∃ i,i < m ∧ s.testBit i = true ∧ T w m s = T w m (clr s i) + sumS m (w i) (clr s i):=by
 rcases foldl_min_ex (fun i => s.testBit i) (fun i => T w m (clr s i) + sumS m (w i) (clr s i)) (List.range m) never with h | ⟨i,hi,hp,h⟩
 ·rw [<-T_eq h0] at h
  have:=T_small hw hm hs
  rw [h] at this; exact absurd this (by decide)
 ·exact ⟨i,List.mem_range.1 hi,hp,by rw [T_eq h0]; exact h⟩
theorem T_nonneg:∀ (s:Nat),s < 2 ^ m -> 0 <= T w m s:=by
 intro s
 induction s using Nat.strongRecOn with
 | _ s ih =>
 intro hs
 by_cases h0:s = 0
 ·subst h0; rw [T_zero]; omega
 ·obtain ⟨i,_,hb,he⟩:=T_ex hw hm hs h0
  have h1:=ih (clr s i) (clr_lt hb) (by have:=clr_lt hb; omega)
  have h2:=sumS_nonneg (m:=m) (f:=w i) (fun k _ => (hw i k).1) (clr s i)
  omega
theorem T_le':∀ (s:Nat),s < 2 ^ m -> ∀ x,s.testBit x = true -> T w m s <= T w m (clr s x) + sumS m (fun k => w k x) (clr s x):=by
 intro s
 induction s using Nat.strongRecOn with
 | _ s ih =>
 intro hs x hx
 have hxm:=bit_lt hs hx
 by_cases h0:clr s x = 0
 ·have:=T_le (w:=w) hxm hx
  rw [h0,sumS_zero] at this ⊢
  exact this
 ·have hr:=clr_lt hx
  obtain ⟨l,hl,hlb,he⟩:=T_ex hw hm (by omega:clr s x < 2 ^ m) h0
  have hlx:x ≠ l:=by rintro rfl; rw [clr_self hx] at hlb; cases hlb
  have hls:s.testBit l = true:=by rw [<-clr_ne hlx]; exact hlb
  have h1:=T_le (w:=w) hl hls
  have hx2:(clr s l).testBit x = true:=by rw [clr_ne (Ne.symm hlx)]; exact hx
  have h2:=ih (clr s l) (clr_lt hls) (by have:=clr_lt hls; omega) x hx2
  have h3:=sumS_clr (f:=w l) hx2 hxm
  have h4:=sumS_clr (f:=fun k => w k x) hlb hl
  rw [clr_comm] at h2 h3
  omega
theorem T_ex':∀ (s:Nat),s < 2 ^ m -> s ≠ 0 -> ∃ x,x < m ∧ s.testBit x = true ∧ T w m s = T w m (clr s x) + sumS m (fun k => w k x) (clr s x):=by
 intro s
 induction s using Nat.strongRecOn with
 | _ s ih =>
 intro hs h0
 obtain ⟨l,hl,hlb,he⟩:=T_ex hw hm hs h0
 by_cases h1:clr s l = 0
 ·exact ⟨l,hl,hlb,by rw [he,h1,sumS_zero,sumS_zero]⟩
 ·obtain ⟨x,hx,hxb,hxe⟩:=ih (clr s l) (clr_lt hlb) (by have:=clr_lt hlb; omega) h1
  have hlx:l ≠ x:=by rintro rfl; rw [clr_self hlb] at hxb; cases hxb
  have hxs:s.testBit x = true:=by rw [<-clr_ne hlx]; exact hxb
  have hl2:(clr s x).testBit l = true:=by rw [clr_ne (Ne.symm hlx)]; exact hlb
  have a1:=T_le (w:=w) hl hl2
  have a2:=T_le' hw hm s hs x hxs
  have a3:=sumS_clr (f:=w l) hxb hx
  have a4:=sumS_clr (f:=fun k => w k x) hl2 hl
  rw [clr_comm] at hxe a3
  exact ⟨x,hx,hxs,by omega⟩
end
def maskTo (c:List Nat) (s:Nat -> Bool):Nat -> Nat
 | 0 => 0
 | j + 1 => if s (c.getD j 0) = true then maskTo c s j ||| 2 ^ j else maskTo c s j
def maskOf (c:List Nat) (s:Nat -> Bool):Nat:=maskTo c s c.length
theorem maskTo_bit (c:List Nat) (s:Nat -> Bool):∀ (j i:Nat),(maskTo c s j).testBit i = (decide (i < j) && s (c.getD i 0))
 | 0,i => by simp [maskTo]
 | j + 1,i => by
  unfold maskTo
  have ih:=maskTo_bit c s j i
  split <;> rename_i h
  ·rw [Nat.testBit_or,ih,Nat.testBit_two_pow]
   by_cases e:j = i
   ·subst e; rw [h]; simp
   ·have:decide (i < j + 1) = decide (i < j):=by apply decide_eq_decide.2; omega
    simp [e,this]
  ·rw [ih]
   by_cases e:i = j
   ·subst e; simp at h; simp [h]
   ·have:decide (i < j + 1) = decide (i < j):=by apply decide_eq_decide.2; omega
    rw [this]
theorem maskTo_lt (c:List Nat) (s:Nat -> Bool) (j:Nat):maskTo c s j < 2 ^ j :=
 Nat.lt_pow_two_of_testBit _ fun i hi => by rw [maskTo_bit]; simp; intro h; omega
theorem maskOf_bit (c:List Nat) (s:Nat -> Bool) (i:Nat):(maskOf c s).testBit i = (decide (i < c.length) && s (c.getD i 0)):=maskTo_bit c s _ i
theorem maskOf_lt (c:List Nat) (s:Nat -> Bool):maskOf c s < 2 ^ c.length:=maskTo_lt c s _
def Vof (W:Nat -> Nat -> Int) (c:List Nat) (s:Nat -> Bool):Int:=T (fun i k => W (c.getD i 0) (c.getD k 0)) c.length (maskOf c s)
theorem sum_range_getD (f:Nat -> Int):∀ (c:List Nat),(c.map f).sum = ((List.range c.length).map fun k => f (c.getD k 0)).sum
 | [] => rfl
 | x :: r => by
  rw [List.map_cons,List.sum_cons,sum_range_getD f r,List.length_cons,List.range_succ_eq_map,List.map_cons,List.sum_cons,List.map_map]
  rfl
theorem getD_inj {c:List Nat} (hn:c.Nodup) {i j:Nat} (hi:i < c.length) (hj:j < c.length) (h:c.getD i 0 = c.getD j 0):i = j:=by
 refine (List.getElem?_inj hi hn).1 ?_
 rw [List.getD_eq_getElem?_getD,List.getD_eq_getElem?_getD] at h
 rw [List.getElem?_eq_getElem hi,List.getElem?_eq_getElem hj] at h ⊢
 exact congrArg some h
theorem mask_without {c:List Nat} (hn:c.Nodup) {s:Nat -> Bool} {i:Nat} (hi:i < c.length) (hs:s (c.getD i 0) = true):maskOf c (without s (c.getD i 0)) = clr (maskOf c s) i:=by
 apply Nat.eq_of_testBit_eq
 intro j
 rw [maskOf_bit,clr_bit,maskOf_bit]
 unfold without
 by_cases e:i = j
 ·subst e; rw [hs]; simp [hi]
 ·by_cases hj:j < c.length
  ·have:(c.getD j 0 == c.getD i 0) = false:=by
    rw [beq_eq_false_iff_ne]; intro h; exact e (getD_inj hn hj hi h).symm
   rw [this]; simp [e]
  ·simp [hj,e]
theorem tabOk {W:Nat -> Nat -> Int} {c:List Nat} (hn:c.Nodup) (hl:c.length <= 1000) (hW:∀ y x,0 <= W y x ∧ W y x <= 1000):TabOk W c (Vof W c):=by
 have hw:∀ i k,0 <= W (c.getD i 0) (c.getD k 0) ∧ W (c.getD i 0) (c.getD k 0) <= 1000:=fun i k => hW _ _
 have hb:∀ (s:Nat -> Bool) {i:Nat},i < c.length -> s (c.getD i 0) = true -> behC W c s (c.getD i 0) = sumS c.length (fun k => W (c.getD k 0) (c.getD i 0)) (clr (maskOf c s) i):=by
  intro s i hi hs
  unfold behC sumS
  rw [sum_range_getD]
  congr 1
  apply List.map_congr_left
  intro k hk
  have hk:=List.mem_range.1 hk
  rw [clr_bit,maskOf_bit]
  by_cases e:i = k
  ·subst e; rw [hs]; simp [hi]
  ·have:c.getD k 0 ≠ c.getD i 0:=fun h => e (getD_inj hn hk hi h).symm
   simp only [hk,e,decide_true,decide_false,Bool.true_and,Bool.xor_false]
   by_cases h:s (c.getD k 0) = true
   ·rw [if_pos ⟨h,this⟩,if_pos h]
   ·rw [if_neg fun h2 => h h2.1,if_neg h]
 refine ⟨fun s t h => ?_,fun s x hx hs => ?_,fun s hs => ?_⟩
 ·have:maskOf c s = maskOf c t:=by
   apply Nat.eq_of_testBit_eq
   intro j
   rw [maskOf_bit,maskOf_bit]
   by_cases hj:j < c.length
   ·rw [h (c.getD j 0) (by rw [List.getD_eq_getElem?_getD,List.getElem?_eq_getElem hj]; exact List.getElem_mem hj)]
   ·simp [hj]
  unfold Vof; rw [this]
 ·obtain ⟨i,hi,rfl⟩:=List.mem_iff_getElem.1 hx
  have e:c[i] = c.getD i 0:=by rw [List.getD_eq_getElem?_getD,List.getElem?_eq_getElem hi]; rfl
  rw [e] at hs ⊢
  rw [hb s hi hs]
  unfold Vof
  rw [mask_without hn hi hs]
  exact T_le' hw hl _ (maskOf_lt c s) i (by rw [maskOf_bit,hs]; simp [hi])
 ·obtain ⟨x,hx,hs⟩:=hs
  obtain ⟨i,hi,rfl⟩:=List.mem_iff_getElem.1 hx
  have e:c[i] = c.getD i 0:=by rw [List.getD_eq_getElem?_getD,List.getElem?_eq_getElem hi]; rfl
  have h0:maskOf c s ≠ 0:=by
   intro h
   have:(maskOf c s).testBit i = true:=by rw [maskOf_bit,<-e,hs]; simp [hi]
   rw [h] at this; simp at this
  obtain ⟨k,hk,hkb,he⟩:=T_ex' hw hl _ (maskOf_lt c s) h0
  have hsk:s (c.getD k 0) = true:=by rw [maskOf_bit] at hkb; simpa [hk] using hkb
  refine ⟨c.getD k 0,by rw [List.getD_eq_getElem?_getD,List.getElem?_eq_getElem hk]; exact List.getElem_mem hk,hsk,?_⟩
  rw [hb s hk hsk]
  unfold Vof
  rw [mask_without hn hk hsk]
  exact he
end Go.Proofs.YtigapannpbaihaaGreat.Rw
namespace Go.Proofs.YtigapannpbaihaaGreat.Rk
open Go.Eng Go.RowKit
abbrev Bt (n s:Nat):={x:Nat // x < n ∧ s.testBit x = true}
def btTo (n s i:Nat):List (Bt n s):=(List.range i).filterMap fun x => if h:x < n ∧ s.testBit x = true then some ⟨x,h⟩ else none
theorem btTo_succ (n s i:Nat):btTo n s (i + 1) = if h:i < n ∧ s.testBit i = true then btTo n s i ++ [⟨i,h⟩] else btTo n s i:=by
 unfold btTo
 rw [List.range_succ,List.filterMap_append]
 by_cases h:i < n ∧ s.testBit i = true
 ·simp [h]
 ·simp only [h,dite_false,List.filterMap_cons,List.filterMap_nil,List.append_nil]
theorem btTo_len (n s i:Nat):(btTo n s i).length <= i:=by
 unfold btTo
 exact Nat.le_trans (List.length_filterMap_le _ _) (by simp)
def Bt.vals {n s:Nat} (x:Bt n s):List Value:=[.int .i64 (x.1:Nat),.int .i64 ((2 ^ x.1:Nat):Int)]
theorem and_bit {s i:Nat}:(s &&& 2 ^ i = 0) <-> s.testBit i = false:=by
 constructor
 ·intro h
  have:=congrArg (fun z => z.testBit i) h
  simpa [Nat.testBit_and,Nat.testBit_two_pow] using this
 ·intro h
  apply Nat.eq_of_testBit_eq
  intro j
  rw [Nat.testBit_and,Nat.testBit_two_pow]
  by_cases e:i = j
  ·subst e; simp [h]
  ·simp [e]
theorem members_spec (s n:Int) (w:World):CallsV C.P 144 #[.int .i64 s,.int .i64 n] w fun v w' => (∃ gn gs,v = .func (.func 209) #[] #[.pointer (some ⟨gn,0,none⟩),.pointer (some ⟨gs,0,none⟩)] ∧ w'.heap[gn]? = some (.cells #[.int .i64 n] 3 (0,0)) ∧ w'.heap[gs]? = some (.cells #[.int .i64 s] 3 (0,0)) ∧ w.heap.size <= gn ∧ w.heap.size <= gs) ∧ Ext w w':=by
 refine callsV_of C_ok (args:=[_,_]) (plans:=[]) Tryz.func144 rfl Tryz.ntmps144 (by kernel_rfl) (Nat.le_of_ble_eq_true rfl) ?_
 intro g2 w1 h1
 intro g3 w2 h2
 have M2:=((Mem.start w).alloc h1).alloc h2
 refine ⟨[],[.pointer (some ⟨g3,0,none⟩),.pointer (some ⟨g2,0,none⟩)],rfl,rfl,?_⟩
 exact ⟨⟨g3,g2,rfl,M2.get 0 rfl,M2.get 1 rfl,M2.new 0 rfl,M2.new 1 rfl⟩,M2.ext⟩
set_option maxRecDepth 100000 in
set_option maxHeartbeats 4000000 in
theorem members1_spec {lp:Nat} {n s gn gs:Nat} (hn:n <= 24) (hs:s < 2 ^ 62) {J:List (Bt n s) -> World -> Prop} {Kp:World -> World -> Prop} (hJe:∀ q W W',J q W -> Ext W W' -> J q W')
  (hJf:∀ q W,J q W -> W.heap[gn]? = some (.cells #[.int .i64 (n:Nat)] 3 (0,0)) ∧ W.heap[gs]? = some (.cells #[.int .i64 (s:Nat)] 3 (0,0)))
  (hY:∀ q x W,J q W -> q.length < 25 -> YieldV C lp x.vals.toArray W fun v W' => v = .bool true ∧ J (q ++ [x]) W' ∧ Kp W W') {W:World} (h0:J [] W) :
  CallsV C.P 209 (#[.func (.yield lp) #[] #[]] ++ #[.pointer (some ⟨gn,0,none⟩),.pointer (some ⟨gs,0,none⟩)]) W fun _ W' => J (btTo n s n) W':=by
 refine callsV_ofS (args:=[_,_,_]) Tryz.func209 rfl Tryz.ntmps209 C_ok (Nat.le_of_ble_eq_true rfl) ?_
 refine Snd.go C_ok [] (by kernel_rfl) ?_
 obtain ⟨F1,F2⟩:=hJf _ _ h0
 refine ⟨_,cell_of_block (i:=0) F1 rfl,?_⟩
 refine ⟨Snd.block (Snd.loop (fun i:Nat => [(0,.func (.yield lp) #[] #[]),(1,.pointer (some ⟨gn,0,none⟩)),(2,.pointer (some ⟨gs,0,none⟩)),(6,.int .i64 n),(7,.int .i64 i)])
  (fun i w' => i <= n ∧ J (btTo n s i) w') (fun i => n - i) 0 ⟨rfl,rfl,rfl,rfl,rfl,trivial⟩ ⟨Nat.zero_le _,h0⟩ ?_)⟩
 rintro i w1 ⟨hi,hJ⟩
 refine Snd.go C_ok [] (by kernel_rfl) ?_
 refine ⟨Snd.go C_ok [] (by kernel_rfl) ?_⟩
 refine brE_dec (fun hlt => ?_) (fun hge => ?_)
 ·have hlt:i < n:=by have:(i:Int) < (n:Nat):=hlt; omega
  have hsucc:=btTo_succ n s i
  refine ⟨Snd.seq (Snd.block (Snd.go C_ok [] (by kernel_rfl) ?_))⟩
  refine ⟨Snd.go C_ok [] (by kernel_rfl) ?_⟩
  refine ⟨_,fun w => shlQ (by omega) w,⟨by simp,by simp⟩,?_⟩
  refine ⟨Snd.seq (regionYgi C_ok (by kernel_rfl) (by kernel_rfl) 8 rfl rfl ?_)⟩
  obtain ⟨_,F2⟩:=hJf _ _ hJ
  refine ⟨_,cell_of_block (i:=0) F2 rfl,?_⟩
  refine ⟨_,fun w => andQ hs (Nat.pow_lt_pow_right (by omega) (by omega)) w,⟨by simp,by simp⟩,?_⟩
  by_cases hb:s.testBit i = true
  ·rw [dif_pos ⟨hlt,hb⟩] at hsucc
   have hbv:(!decide (((s &&& 2 ^ i:Nat):Int) = 0)) = true:=by
    rw [Bool.not_eq_true',decide_eq_false_iff_not]
    intro h
    have:=and_bit.1 (by omega:s &&& 2 ^ i = 0)
    rw [hb] at this; cases this
   refine brE_true hbv ?_
   refine ⟨⟨⟨lp,[_,_],rfl,rfl,?_⟩⟩⟩
   refine (hY _ ⟨i,hlt,hb⟩ w1 hJ (by have:=btTo_len n s i; omega)).mono ?_
   rintro v w2 ⟨rfl,hJ2,_⟩
   rw [<-hsucc] at hJ2
   refine ⟨Snd.cond (b:=false) rfl (fun h => by cases h) (fun _ => Snd.skip ?_)⟩
   refine ⟨Snd.fin C_ok (plans:=[]) (by kernel_rfl) ?_⟩
   refine ⟨((i + 1:Nat):Int),fit ⟨by omega,by omega⟩,?_⟩
   exact ⟨⟨i + 1,⟨rfl,rfl,rfl,rfl,rfl,trivial⟩,⟨hlt,hJ2⟩,by omega⟩⟩
  ·rw [dif_neg (fun h => hb h.2)] at hsucc
   have hbv:(!decide (((s &&& 2 ^ i:Nat):Int) = 0)) = false:=by
    rw [Bool.not_eq_false',decide_eq_true_eq]
    have:=and_bit.2 (by simpa using hb:s.testBit i = false)
    omega
   refine brE_false hbv ?_
   rw [<-hsucc] at hJ
   refine ⟨?_⟩
   refine ⟨Snd.cond (b:=false) rfl (fun h => by cases h) (fun _ => Snd.skip ?_)⟩
   refine ⟨Snd.fin C_ok (plans:=[]) (by kernel_rfl) ?_⟩
   refine ⟨((i + 1:Nat):Int),fit ⟨by omega,by omega⟩,?_⟩
   exact ⟨⟨i + 1,⟨rfl,rfl,rfl,rfl,rfl,trivial⟩,⟨hlt,hJ⟩,by omega⟩⟩
 ·have:i = n:=by have:¬ (i:Int) < (n:Nat):=hge; omega
  subst this
  exact hJ
def ns (c:List Int):List Nat:=c.map Int.toNat
theorem ns_length (c:List Int):(ns c).length = c.length:=by simp [ns]
theorem ns_getD {c:List Int} {i:Nat} (hi:i < c.length):(ns c).getD i 0 = c[i].toNat:=by simp [ns,List.getD_eq_getElem?_getD,hi]
theorem ext_keep {D:Nat -> Prop} {w w9 W:World} (e:Ext w w9) (k:Keep D w9 W) (h:∀ q,q < w.heap.size -> D q):Ext w W :=
 ⟨k.os.trans e.os,k.tape.trans e.tape,k.output.trans e.output,Nat.le_trans e.size k.size,fun q hq => (k.block q (h q hq) (Nat.lt_of_lt_of_le hq e.size)).trans (e.block q hq)⟩
def qsum {n s:Nat} (f:Nat -> Int) (q:List (Bt n s)):Int:=(q.map fun x => f x.1).sum
theorem qsum_snoc {n s:Nat} (f:Nat -> Int) (q:List (Bt n s)) (x:Bt n s):qsum f (q ++ [x]) = qsum f q + f x.1:=by simp [qsum]
theorem qsum_bound {n s:Nat} {f:Nat -> Int} (hf:∀ k,0 <= f k ∧ f k <= 1000):∀ (q:List (Bt n s)),0 <= qsum f q ∧ qsum f q <= 1000 * q.length
 | [] => by simp [qsum]
 | x :: r => by
  have h:=qsum_bound hf r
  have h1:=hf x.1
  have e:qsum f (x :: r) = f x.1 + qsum f r:=by simp [qsum]
  rw [e,List.length_cons]
  omega
theorem qsum_all (f:Nat -> Int) (n s:Nat):∀ i,i <= n -> qsum f (btTo n s i) = Rw.sumS i f s
 | 0,_ => by simp [btTo,qsum,Rw.sumS]
 | i + 1,h => by
  rw [btTo_succ,Rw.sumS_succ,<-qsum_all f n s i (by omega)]
  by_cases hb:s.testBit i = true
  ·rw [dif_pos ⟨by omega,hb⟩,qsum_snoc,if_pos hb]
  ·rw [dif_neg (fun h => hb h.2),if_neg hb,Int.add_zero]
set_option maxRecDepth 100000 in
set_option maxHeartbeats 8000000 in
theorem behind_spec {gw:Nat} {Wm:Nat -> Nat -> Int} {A:Option Addr} {c:List Int} {cc i s:Nat} {w:World} (hW:∀ p q,0 <= Wm p q ∧ Wm p q <= 1000) (hw:Rd w gw 0 (imat Wm)) (hr:Reads w A (ints c)) (hc:∀ x ∈ c,0 <= x ∧ x < 24) (hl:c.length <= 24) (hi:i < c.length) (hs:s < 2 ^ 62) :
  CallsV C.P 145 #[.pointer (some ⟨gw,0,none⟩),.slice A c.length cc,.int .i64 (i:Nat),.int .i64 (s:Nat)] w fun v w' => v = .int .i64 (Rw.sumS c.length (fun k => Wm ((ns c).getD i 0) ((ns c).getD k 0)) s) ∧ Ext w w':=by
 obtain ⟨f,hf⟩:∃ f:Nat -> Int,f = fun k => Wm ((ns c).getD i 0) ((ns c).getD k 0):=⟨_,rfl⟩
 rw [<-hf]
 have hfb:∀ k,0 <= f k ∧ f k <= 1000:=fun k => by rw [hf]; exact hW _ _
 refine callsV_ofB C_ok (args:=[_,_,_,_]) Tryz.func145 rfl Tryz.ntmps145 (Nat.le_of_ble_eq_true rfl) ?_
 refine SndB.seq (SndB.of (Snd.fin (C_ok.marks []) (plans:=plans145) (by kernel_rfl) ?_))
 intro g4 w1 h1
 intro g5 w2 h2
 intro g6 w3 h3
 have M3:=(((Mem.start w).alloc h1).alloc h2).alloc h3
 refine ⟨SndB.seq (SndB.of (Snd.fin (C_ok.marks []) (plans:=plans145) (by kernel_rfl) ?_))⟩
 intro g9 w4 h4
 have M4:=M3.alloc h4
 refine ⟨rfl,_,_,M4.get 0 rfl,Nat.le_of_ble_eq_true rfl,rfl,?_⟩
 intro w5 h5
 have M5:Mem w w5 [(g9,.cells #[.int .i64 0] 3 (0,0)),(g6,.cells #[.int .i64 (i:Nat)] 3 (0,0)),(g5,.cells #[.slice A c.length cc] 31 (0,0)),(g4,.cells #[.pointer (some ⟨gw,0,none⟩)] 200 (0,0))]:=M4.put 0 rfl h5
 clear M3 M4 h1 h2 h3 h4 h5
 refine ⟨SndB.seq (SndB.seq (SndB.of (Snd.fin (C_ok.marks []) (plans:=plans145) (by kernel_rfl) ?_)))⟩
 refine ⟨_,M5.cell 2 rfl rfl,?_⟩
 refine (members_spec (s:Nat) (c.length:Nat) w5).mono ?_
 rintro v w9 ⟨⟨gn,gs,rfl,hgn,hgs,hgn0,hgs0⟩,e9⟩
 have hg9:g9 < w5.heap.size:=M5.lt (o:=.cells #[.int .i64 0] 3 (0,0)) (by simp)
 have hg9w:w.heap.size <= g9:=M5.new 0 rfl
 have M9:=M5.grow e9
 obtain ⟨D,hD⟩:∃ D:Nat -> Prop,D = fun q => q ≠ g9 ∧ q < w9.heap.size:=⟨_,rfl⟩
 have hlt9:∀ {q:Nat} {o:Obj},w9.heap[q]? = some o -> q < w9.heap.size:=fun h => lt_of_heap h
 have n4:g4 ≠ g9:=fun e => by have:=M5.nodup; simp [e] at this
 have n5:g5 ≠ g9:=fun e => by have:=M5.nodup; simp [e] at this
 have n6:g6 ≠ g9:=fun e => by have:=M5.nodup; simp [e] at this
 have d4:D g4:=by rw [hD]; exact ⟨n4,hlt9 (M9.get 3 rfl)⟩
 have d5:D g5:=by rw [hD]; exact ⟨n5,hlt9 (M9.get 2 rfl)⟩
 have d6:D g6:=by rw [hD]; exact ⟨n6,hlt9 (M9.get 1 rfl)⟩
 have dn:D gn:=by rw [hD]; exact ⟨by omega,hlt9 hgn⟩
 have ds:D gs:=by rw [hD]; exact ⟨by omega,hlt9 hgs⟩
 have dw:∀ q,q < w.heap.size -> D q:=fun q hq => by rw [hD]; exact ⟨by omega,Nat.lt_of_lt_of_le hq M9.ext.size⟩
 refine ⟨SndB.block (SndB.range C_ok (plans:=plans145) (by kernel_rfl) (by kernel_rfl) (by intro t ht; simp at ht; rcases ht with rfl | rfl <;> exact Nat.le_of_ble_eq_true rfl) (gf:=209) rfl rfl (Bt.vals (n:=c.length) (s:=s)) (fun _ => rfl)
  (fun q W => Keep D w9 W ∧ W.heap[g9]? = some (.cells #[.int .i64 (qsum f q)] 3 (0,0))) (fun _ _ => True) 25 (xs:=btTo c.length s c.length) ⟨Keep.refl _ _,M9.get 0 rfl⟩ ?_ ?_ ?_ ?_ ?_ ?_)⟩
 ·rintro q W W' ⟨hk,hg⟩ e
  exact ⟨hk.ext e,e.heap hg⟩
 ·rintro q W W' k o r hk0 hlp ⟨hk,hg⟩ hput
  refine ⟨hk.put hput (by rw [hD]; rintro ⟨_,h⟩; omega),?_⟩
  rw [hput.there g9 (by have:=hlt9 (M9.get 0 rfl); omega)]; exact hg
 ·exact fun _ _ _ _ _ _ _ _ _ => trivial
 ·rintro lp db hlp hdb hne q x W ⟨hk,hg⟩ hq ⟨r,hr0⟩ hdd
  refine ⟨rfl,⟨rfl,rfl⟩,⟨fun r' W3 H3 => ?_⟩⟩
  have hk3:Keep D w9 W3:=hk.put H3 (by rw [hD]; rintro ⟨_,h⟩; omega)
  have hg3:W3.heap[g9]? = some (.cells #[.int .i64 (qsum f q)] 3 (0,0)):=by rw [H3.there g9 (by have:=hlt9 (M9.get 0 rfl); omega)]; exact hg
  have hb:=qsum_bound hfb q
  have hfx:=hfb x.1
  have E3:Ext w W3:=ext_keep M9.ext hk3 dw
  obtain ⟨b1,o1,hA1,hc1⟩:=Reads.int hr hi
  obtain ⟨b2,o2,hA2,hc2⟩:=Reads.int hr x.2.1
  have hci:=hc c[i] (List.getElem_mem hi)
  have hcx:=hc c[x.1] (List.getElem_mem x.2.1)
  obtain ⟨p,hp⟩:=Int.eq_ofNat_of_zero_le hci.1
  obtain ⟨z,hz⟩:=Int.eq_ofNat_of_zero_le hcx.1
  rw [hp] at hc1
  rw [hz] at hc2
  have hfe:f x.1 = Wm p z:=by
   rw [hf]
   show Wm ((ns c).getD i 0) ((ns c).getD x.1 0) = _
   rw [ns_getD hi,ns_getD x.2.1,hp,hz]; rfl
  refine ⟨_,cell_of_block (i:=0) hg3 rfl,?_⟩
  refine ⟨_,cell_of_block (i:=0) (hk3.heap d4 (M9.get 3 rfl)) rfl,?_⟩
  refine ⟨_,cell_of_block (i:=0) (hk3.heap d5 (M9.get 2 rfl)) rfl,?_⟩
  refine ⟨_,cell_of_block (i:=0) (hk3.heap d6 (M9.get 1 rfl)) rfl,?_⟩
  refine ⟨i,b1,o1,rfl,hi,hA1,?_⟩
  refine ⟨_,by have:=E3.cell hc1; simpa using this,?_⟩
  refine ⟨_,cell_of_block (i:=0) (hk3.heap d5 (M9.get 2 rfl)) rfl,?_⟩
  refine ⟨x.1,b2,o2,rfl,x.2.1,hA2,?_⟩
  refine ⟨_,by have:=E3.cell hc2; simpa using this,?_⟩
  refine ⟨p,rfl,by omega,?_⟩
  refine ⟨z,rfl,by omega,?_⟩
  refine ⟨.int .i64 (Wm p z),by have:=E3.cell (hw _ _ (imat_get (a:=p) (b:=z) (by omega) (by omega) Wm)); simpa [Nat.add_assoc] using this,?_⟩
  refine ⟨qsum f (q ++ [x]),by rw [qsum_snoc,hfe]; exact fit ⟨by omega,by omega⟩,?_⟩
  refine ⟨rfl,_,_,hg3,Nat.le_of_ble_eq_true rfl,rfl,?_⟩
  intro W4 H4
  have H4:Put W3 g9 (.cells #[.int .i64 (qsum f (q ++ [x]))] 3 (0,0)) W4:=H4
  have h9lt:=hlt9 (M9.get 0 rfl)
  refine ⟨rfl,⟨⟨hk3.put H4 (by rw [hD]; rintro ⟨h,_⟩; exact h rfl),H4.here⟩,trivial⟩,?_,?_⟩
  ·rw [H4.there lp (by omega)]; exact H3.here
  ·rw [H4.there db (by omega)]
 ·intro lp J W hJe hJI hJY hJ0
  exact members1_spec (n:=c.length) (s:=s) (gn:=gn) (gs:=gs) hl hs hJe (fun q W hJ => ⟨(hJI q W hJ).1.heap dn hgn,(hJI q W hJ).1.heap ds hgs⟩) hJY hJ0
 ·rintro db W ⟨hk,hg⟩ hdb hdd
  rw [qsum_all f _ _ _ (Nat.le_refl _)] at hg
  refine ⟨SndB.of (Snd.fin (C_ok.marks _) (plans:=plans145) (by kernel_rfl) ?_)⟩
  refine ⟨_,cell_of_block (i:=0) hg rfl,?_⟩
  refine ⟨by simp,by simpa using hdd,fun w3 H3 => ?_⟩
  refine ⟨rfl,?_⟩
  refine ext_keep M9.ext (D:=fun q => D q ∧ q ∉ [db]) (w9:=w9) ?_ (fun q hq => ⟨dw q hq,by have:=M9.ext.size; simp; omega⟩)
  exact ⟨H3.os.trans hk.os,H3.tape.trans hk.tape,H3.output.trans hk.output,Nat.le_trans hk.size H3.size,fun q hq hl => (H3.block q hq.2 (Nat.lt_of_lt_of_le hl hk.size)).trans (hk.block q hq.1 hl)⟩
end Go.Proofs.YtigapannpbaihaaGreat.Rk
namespace Go.Proofs.YtigapannpbaihaaGreat.Rk
open Go.Eng Go.RowKit
theorem minQ {o:Oper} {l:Env} {w:World} {x y:Operand} {ts:Array Nat} {a b:Int} (ho:o.op = .call ⟨.builtin .min,#[x,y],ts⟩) (hx:evo l x = some (.int .i64 a)) (hy:evo l y = some (.int .i64 b)) :
  QuietRun C o l w (.int .i64 (min a b)):=by
 have e:min a b = if b < a then b else a:=by
  split <;> omega
 rw [e]
 intro ρ hρ w' _
 unfold execOp
 rw [ho]
 simp [resolve,invoke,builtin,hρ _ _ hx,hρ _ _ hy,Builtin.min_,Builtin.min2]
def wf (Wm:Nat -> Nat -> Int) (c:List Int):Nat -> Nat -> Int:=fun i k => Wm ((ns c).getD i 0) ((ns c).getD k 0)
def rowZ (w:Nat -> Nat -> Int) (m K s:Nat):List Int:=Rw.tabL w m s ++ List.replicate (K - s) 0
def rowP (w:Nat -> Nat -> Int) (m K s:Nat) (a:Int):List Int:=Rw.tabL w m s ++ a :: List.replicate (K - s - 1) 0
theorem rowZ_length {w:Nat -> Nat -> Int} {m K s:Nat} (h:s <= K):(rowZ w m K s).length = K:=by simp [rowZ,Rw.tabL_length]; omega
theorem rowP_length {w:Nat -> Nat -> Int} {m K s:Nat} (h:s < K) (a:Int):(rowP w m K s a).length = K:=by simp [rowP,Rw.tabL_length]; omega
theorem ints_set {l:List Int} {i:Nat} (h:i < l.length) (z:Int):splice (ints l) i [.int .i64 z] = ints (l.set i z):=by
 rw [splice_one (by rw [ints_length]; exact h)]
 unfold ints
 rw [List.map_set]
theorem rowZ_set {w:Nat -> Nat -> Int} {m K s:Nat} (h:s < K) (a:Int):(rowZ w m K s).set s a = rowP w m K s a:=by
 unfold rowZ rowP
 rw [List.set_append_right _ _ (by rw [Rw.tabL_length]; exact Nat.le_refl _),Rw.tabL_length,Nat.sub_self]
 obtain ⟨j,hj⟩:∃ j,K - s = j + 1:=⟨K - s - 1,by omega⟩
 rw [hj,List.replicate_succ]
 rfl
theorem rowP_set {w:Nat -> Nat -> Int} {m K s:Nat} (a b:Int):(rowP w m K s a).set s b = rowP w m K s b:=by
 unfold rowP
 rw [List.set_append_right _ _ (by rw [Rw.tabL_length]; exact Nat.le_refl _),Rw.tabL_length,Nat.sub_self]
 rfl
theorem rowP_here (w:Nat -> Nat -> Int) (m K s:Nat) (a:Int):(rowP w m K s a)[s]? = some a:=by
 unfold rowP
 rw [List.getElem?_append_right (by rw [Rw.tabL_length]; exact Nat.le_refl _),Rw.tabL_length,Nat.sub_self]
 rfl
theorem rowP_old {w:Nat -> Nat -> Int} {m K s t:Nat} (h:t < s) (a:Int):(rowP w m K s a)[t]? = some (Rw.T w m t):=by
 unfold rowP
 rw [List.getElem?_append_left (by rw [Rw.tabL_length]; exact h),Rw.tabL_get w m h]
 rfl
theorem rowP_next {w:Nat -> Nat -> Int} {m K s:Nat}:rowP w m K s (Rw.T w m s) = rowZ w m K (s + 1):=by
 unfold rowP rowZ
 show _ = (Rw.tabL w m s ++ [Rw.T w m s]) ++ _
 rw [List.append_assoc]
 have:K - (s + 1) = K - s - 1:=by omega
 rw [this]; rfl
theorem ints_get {l:List Int} {i:Nat} {z:Int} (h:l[i]? = some z):(ints l)[i]? = some (.int .i64 z):=by simp [ints,h]
def accQ (w:Nat -> Nat -> Int) (m:Nat) {n s:Nat} (q:List (Bt n s)):Int:=q.foldl (fun a x => min a (Rw.T w m (Rw.clr s x.1) + Rw.sumS m (w x.1) (Rw.clr s x.1))) Rw.never
theorem accQ_snoc (w:Nat -> Nat -> Int) (m:Nat) {n s:Nat} (q:List (Bt n s)) (x:Bt n s):accQ w m (q ++ [x]) = min (accQ w m q) (Rw.T w m (Rw.clr s x.1) + Rw.sumS m (w x.1) (Rw.clr s x.1)):=by simp [accQ]
theorem accQ_to (w:Nat -> Nat -> Int) (m n s:Nat):∀ i,i <= n -> accQ w m (btTo n s i) = (List.range i).foldl (fun a i => if s.testBit i = true then min a (Rw.T w m (Rw.clr s i) + Rw.sumS m (w i) (Rw.clr s i)) else a) Rw.never
 | 0,_ => by simp [btTo,accQ]
 | i + 1,h => by
  rw [btTo_succ,List.range_succ,List.foldl_append,List.foldl_cons,List.foldl_nil,<-accQ_to w m n s i (by omega)]
  by_cases hb:s.testBit i = true
  ·rw [dif_pos ⟨by omega,hb⟩,accQ_snoc,if_pos hb]
  ·rw [dif_neg (fun h => hb h.2),if_neg hb]
theorem accQ_all (w:Nat -> Nat -> Int) {m s:Nat} (hs:s ≠ 0):accQ w m (btTo m s m) = Rw.T w m s:=by
 rw [accQ_to w m m s m (Nat.le_refl _),Rw.T_eq hs]
structure TabIn (w:World) (gw:Nat) (A:Option Addr) (c:List Int) (cc K g3 g4 g5 gv g7 g8 s:Nat) (row:List Int) (bs:List Nat) (W:World):Prop where
 ext:Ext w W
 h3:W.heap[g3]? = some (.cells #[.pointer (some ⟨gw,0,none⟩)] 200 (0,0))
 h4:W.heap[g4]? = some (.cells #[.slice A c.length cc] 31 (0,0))
 h5:W.heap[g5]? = some (.cells #[.int .i64 (-1)] 3 (0,0))
 hv:W.heap[gv]? = some (.cells (ints row).toArray 3 (0,0))
 h7:W.heap[g7]? = some (.cells #[.slice (some ⟨gv,0,none⟩) K K] 31 (0,0))
 h8:W.heap[g8]? = some (.cells #[.int .i64 (s:Nat)] 3 (0,0))
 n5:g5 ≠ gv
 n8:g8 ≠ gv
 base:w.heap.size <= gv
 nodup:bs.Nodup
 marks:∀ b ∈ bs,W.heap[b]? = some (.deferred (some []))
 fresh:∀ b ∈ bs,w.heap.size <= b
section
variable {w W W':World} {gw:Nat} {A:Option Addr} {c:List Int} {cc K g3 g4 g5 gv g7 g8 s:Nat} {row row':List Int} {bs:List Nat}
theorem TabIn.grow (h:TabIn w gw A c cc K g3 g4 g5 gv g7 g8 s row bs W) (e:Ext W W'):TabIn w gw A c cc K g3 g4 g5 gv g7 g8 s row bs W' :=
 ⟨h.ext.trans e,e.heap h.h3,e.heap h.h4,e.heap h.h5,e.heap h.hv,e.heap h.h7,e.heap h.h8,h.n5,h.n8,h.base,h.nodup,fun b hb => e.heap (h.marks b hb),h.fresh⟩
theorem TabIn.n3 (h:TabIn w gw A c cc K g3 g4 g5 gv g7 g8 s row bs W):g3 ≠ gv:=fun e => by
 have:=h.h3; rw [e,h.hv] at this; simp at this
theorem TabIn.n4 (h:TabIn w gw A c cc K g3 g4 g5 gv g7 g8 s row bs W):g4 ≠ gv:=fun e => by
 have:=h.h4; rw [e,h.hv] at this; simp at this
theorem TabIn.n7 (h:TabIn w gw A c cc K g3 g4 g5 gv g7 g8 s row bs W):g7 ≠ gv:=fun e => by
 have:=h.h7; rw [e,h.hv] at this; simp at this
theorem TabIn.nb (h:TabIn w gw A c cc K g3 g4 g5 gv g7 g8 s row bs W) {b:Nat} (hb:b ∈ bs):b ≠ gv:=fun e => by
 have:=h.marks b hb; rw [e,h.hv] at this; simp at this
theorem TabIn.put (h:TabIn w gw A c cc K g3 g4 g5 gv g7 g8 s row bs W) (p:Put W gv (.cells (ints row').toArray 3 (0,0)) W'):TabIn w gw A c cc K g3 g4 g5 gv g7 g8 s row' bs W' :=
 ⟨p.ext_of h.ext h.base,by rw [p.there _ h.n3]; exact h.h3,by rw [p.there _ h.n4]; exact h.h4,by rw [p.there _ h.n5]; exact h.h5,p.here,by rw [p.there _ h.n7]; exact h.h7,by rw [p.there _ h.n8]; exact h.h8,h.n5,h.n8,h.base,h.nodup,
  fun b hb => by rw [p.there _ (h.nb hb)]; exact h.marks b hb,h.fresh⟩
theorem TabIn.mark (h:TabIn w gw A c cc K g3 g4 g5 gv g7 g8 s row bs W) {k:Nat} {o:Obj} {r:Loop} (hk:W.heap[k]? = some (.loop r)) (hw:w.heap.size <= k) (p:Put W k o W'):TabIn w gw A c cc K g3 g4 g5 gv g7 g8 s row bs W':=by
 have ne:∀ {q:Nat} {o:Obj},W.heap[q]? = some o -> (∀ r,o ≠ .loop r) -> W'.heap[q]? = some o:=fun {q o} hq ho => by
  rw [p.there q (fun e => by subst e; rw [hk] at hq; cases hq; exact ho r rfl)]; exact hq
 exact ⟨p.ext_of h.ext hw,ne h.h3 (fun _ e => by cases e),ne h.h4 (fun _ e => by cases e),ne h.h5 (fun _ e => by cases e),ne h.hv (fun _ e => by cases e),ne h.h7 (fun _ e => by cases e),ne h.h8 (fun _ e => by cases e),h.n5,h.n8,h.base,h.nodup,fun b hb => ne (h.marks b hb) (fun _ e => by cases e),h.fresh⟩
theorem TabIn.marked (h:TabIn w gw A c cc K g3 g4 g5 gv g7 g8 s row bs W) {db:Nat} (hd:W.heap[db]? = some (.deferred (some []))) (hn:db ∉ bs) (hf:w.heap.size <= db):TabIn w gw A c cc K g3 g4 g5 gv g7 g8 s row (db :: bs) W :=
 { h with nodup:=List.nodup_cons.2 ⟨hn,h.nodup⟩,marks:=fun b hb => (List.mem_cons.1 hb).elim (fun e => e ▸ hd) (h.marks b),fresh:=fun b hb => (List.mem_cons.1 hb).elim (fun e => e ▸ hf) (h.fresh b) }
end
set_option maxRecDepth 100000 in
set_option maxHeartbeats 16000000 in
theorem table_spec {gw:Nat} {Wm:Nat -> Nat -> Int} {A:Option Addr} {c:List Int} {cc:Nat} {w:World} (hW:∀ p q,0 <= Wm p q ∧ Wm p q <= 1000) (hw:Rd w gw 0 (imat Wm)) (hr:Reads w A (ints c)) (hc:∀ x ∈ c,0 <= x ∧ x < 24) (hl:c.length <= 10) :
  CallsV C.P 86 #[.pointer (some ⟨gw,0,none⟩),.slice A c.length cc,.int .i64 (-1)] w fun v w' => NewInts w w' v (Rw.tabL (wf Wm c) c.length (2 ^ c.length)) ∧ Ext w w':=by
 obtain ⟨K,hK⟩:∃ K,K = 2 ^ c.length:=⟨_,rfl⟩
 have hK1:K <= 1024:=by rw [hK]; exact Nat.pow_le_pow_right (by omega) hl
 have hK0:1 <= K:=by rw [hK]; exact Nat.one_le_two_pow
 have hwf:∀ i k,0 <= wf Wm c i k ∧ wf Wm c i k <= 1000:=fun i k => hW _ _
 obtain ⟨m,hm⟩:∃ m,m = c.length:=⟨_,rfl⟩
 rw [<-hK]
 refine callsV_ofB C_ok (args:=[_,_,_]) Tryz.func86 rfl Tryz.ntmps86 (Nat.le_of_ble_eq_true rfl) ?_
 refine SndB.seq (SndB.of (Snd.fin (C_ok.marks []) (plans:=plans86) (by kernel_rfl) ?_))
 intro g3 w1 h1
 intro g4 w2 h2
 intro g5 w3 h3
 have M3:=(((Mem.start w).alloc h1).alloc h2).alloc h3
 refine ⟨SndB.seq (SndB.of (Snd.fin (C_ok.marks []) (plans:=plans86) (by kernel_rfl) ?_))⟩
 refine ⟨_,M3.cell 1 rfl rfl,?_⟩
 refine ⟨_,fun w => shlQ (by omega) w,⟨by simp,by simp⟩,?_⟩
 rw [<-hK]
 refine ⟨K,K,rfl,rfl,Nat.le_refl _,by omega,by omega,rfl,rfl,rfl,rfl,?_⟩
 intro gv w4 h4
 have h4:Alloc w3 gv (.cells (ints (List.replicate K 0)).toArray 3 (0,0)) w4:=by
  have e:ints (List.replicate K 0) = List.replicate K (Value.int .i64 0):=by simp [ints]
  rw [e]; exact h4
 have M4:=M3.alloc h4
 intro g7 w5 h5
 have M5:=M4.alloc h5
 refine ⟨rfl,_,_,M5.get 0 rfl,Nat.le_of_ble_eq_true rfl,rfl,?_⟩
 intro w6 h6
 have M6:Mem w w6 [(g7,.cells #[.slice (some ⟨gv,0,none⟩) K K] 31 (0,0)),(gv,.cells (ints (List.replicate K 0)).toArray 3 (0,0)),(g5,.cells #[.int .i64 (-1)] 3 (0,0)),(g4,.cells #[.slice A c.length cc] 31 (0,0)),(g3,.cells #[.pointer (some ⟨gw,0,none⟩)] 200 (0,0))]:=M5.put 0 rfl h6
 clear M3 M4 M5 h1 h2 h3 h4 h5 h6
 refine ⟨SndB.seq (SndB.seq (SndB.of (Snd.fin (C_ok.marks []) (plans:=plans86) (by kernel_rfl) ?_)))⟩
 intro g8 w7 h7
 have M7:=M6.alloc h7
 refine ⟨rfl,_,_,M7.get 0 rfl,Nat.le_of_ble_eq_true rfl,rfl,?_⟩
 intro w8 h8
 have M8:Mem w w8 [(g8,.cells #[.int .i64 ((1:Nat):Int)] 3 (0,0)),(g7,.cells #[.slice (some ⟨gv,0,none⟩) K K] 31 (0,0)),(gv,.cells (ints (List.replicate K 0)).toArray 3 (0,0)),(g5,.cells #[.int .i64 (-1)] 3 (0,0)),(g4,.cells #[.slice A c.length cc] 31 (0,0)),(g3,.cells #[.pointer (some ⟨gw,0,none⟩)] 200 (0,0))]:=M7.put 0 rfl h8
 have e1:List.replicate K (0:Int) = rowZ (wf Wm c) c.length K 1:=by
  unfold rowZ
  obtain ⟨j,hj⟩:∃ j,K = j + 1:=⟨K - 1,by omega⟩
  rw [hj,List.replicate_succ]
  simp [Rw.tabL,Rw.val]
 rw [e1] at M8
 have I1:TabIn w gw A c cc K g3 g4 g5 gv g7 g8 1 (rowZ (wf Wm c) c.length K 1) [] w8:=by
  have hn:=M8.nodup
  refine ⟨M8.ext,M8.get 5 rfl,M8.get 4 rfl,M8.get 3 rfl,M8.get 2 rfl,M8.get 1 rfl,M8.get 0 rfl,fun e => ?_,fun e => ?_,M8.new 2 rfl,by simp,by simp,by simp⟩ <;> simp [e] at hn
 clear M6 M7 M8 h7 h8 e1
 refine ⟨SndB.block (SndB.loop (fun p:Nat × Nat => [(3,.pointer (some ⟨g3,0,none⟩)),(4,.pointer (some ⟨g4,0,none⟩)),(5,.pointer (some ⟨g5,0,none⟩)),(7,.pointer (some ⟨g7,0,none⟩)),(8,.pointer (some ⟨p.2,0,none⟩))])
  (fun p bs W => 1 <= p.1 ∧ p.1 <= K ∧ TabIn w gw A c cc K g3 g4 g5 gv g7 p.2 p.1 (rowZ (wf Wm c) c.length K p.1) bs W) (fun p => K - p.1) (1,g8) ⟨rfl,rfl,rfl,rfl,rfl,trivial⟩ ⟨Nat.le_refl _,hK0,I1⟩ ?_)⟩
 rintro ⟨s,g8⟩ bs w1 ⟨hs1,hsK,I⟩
 simp only at hs1 hsK I
 refine SndB.seq (SndB.of (Snd.fin (C_ok.marks bs) (plans:=plans86) (by kernel_rfl) ?_))
 refine ⟨_,cell_of_block (i:=0) I.h8 rfl,?_⟩
 refine ⟨_,cell_of_block (i:=0) I.h7 rfl,?_⟩
 refine brE_dec (fun hlt => ?_) (fun hge => ?_)
 ·have hlt:s < K:=by have:(s:Int) < (K:Nat):=hlt; omega
  have hs62:s < 2 ^ 62:=by omega
  have hsm:s < 2 ^ c.length:=by omega
  refine ⟨SndB.seq (SndB.block (SndB.seq (SndB.of (Snd.fin (C_ok.marks bs) (plans:=plans86) (by kernel_rfl) ?_))))⟩
  refine ⟨_,cell_of_block (i:=0) I.h7 rfl,?_⟩
  refine ⟨_,cell_of_block (i:=0) I.h8 rfl,?_⟩
  refine ⟨s,gv,0,rfl,hlt,rfl,?_⟩
  refine ⟨rfl,_,_,I.hv,by rw [ints_length,rowZ_length hsK]; show 0 + s * 1 + 1 <= K; omega,rfl,?_⟩
  intro w2 h2
  have e2:splice (ints (rowZ (wf Wm c) c.length K s)) (0 + s * 1) [.int .i64 1099511627776] = ints (rowP (wf Wm c) c.length K s (accQ (wf Wm c) c.length (n:=c.length) (s:=s) [])):=by
   rw [<-rowZ_set hlt,<-ints_set (by rw [rowZ_length hsK]; exact hlt)]
   congr 1; omega
  have h2:Put w1 gv (.cells (ints (rowP (wf Wm c) c.length K s (accQ (wf Wm c) c.length (n:=c.length) (s:=s) []))).toArray 3 (0,0)) w2:=by rw [<-e2]; exact h2
  have I2:=I.put h2
  refine ⟨SndB.seq (SndB.of (Snd.fin (C_ok.marks bs) (plans:=plans86) (by kernel_rfl) ?_))⟩
  refine ⟨_,cell_of_block (i:=0) I2.h8 rfl,?_⟩
  refine ⟨_,cell_of_block (i:=0) I2.h4 rfl,?_⟩
  refine (members_spec (s:Nat) (c.length:Nat) w2).mono ?_
  rintro v wr ⟨⟨gn,gs,rfl,hgn,hgs,hgn0,hgs0⟩,er⟩
  have I3:=I2.grow er
  have hgvl:gv < w2.heap.size:=lt_of_heap I2.hv
  have hgnr:=lt_of_heap hgn
  have hgsr:=lt_of_heap hgs
  refine ⟨SndB.block (SndB.range C_ok (plans:=plans86) (by kernel_rfl) (by kernel_rfl) (by intro t ht; simp at ht; rcases ht with rfl | rfl <;> exact Nat.le_of_ble_eq_true rfl) (gf:=209) rfl rfl (Bt.vals (n:=c.length) (s:=s)) (fun _ => rfl)
   (fun q W => TabIn w gw A c cc K g3 g4 g5 gv g7 g8 s (rowP (wf Wm c) c.length K s (accQ (wf Wm c) c.length q)) bs W ∧ W.heap[gn]? = some (.cells #[.int .i64 (c.length:Nat)] 3 (0,0)) ∧ W.heap[gs]? = some (.cells #[.int .i64 (s:Nat)] 3 (0,0))) (fun _ _ => True) 25 (xs:=btTo c.length s c.length) ⟨I3,hgn,hgs⟩ ?_ ?_ ?_ ?_ ?_ ?_)⟩
  ·rintro q W W' ⟨hI,h1,h2⟩ e
   exact ⟨hI.grow e,e.heap h1,e.heap h2⟩
  ·rintro q W W' k o r hk0 hlp ⟨hI,h1,h2⟩ hput
   refine ⟨hI.mark hlp (Nat.le_trans I3.ext.size hk0) hput,?_,?_⟩
   ·rw [hput.there gn (by omega)]; exact h1
   ·rw [hput.there gs (by omega)]; exact h2
  ·exact fun _ _ _ _ _ _ _ _ _ => trivial
  ·rintro lp db hlp hdb hne q x W ⟨hI,hg1,hg2⟩ hq ⟨r,hr0⟩ hdd
   refine ⟨rfl,⟨rfl,rfl⟩,⟨fun r' W3 H3 => ?_⟩⟩
   have I4:=hI.mark hr0 (Nat.le_trans I3.ext.size hlp) H3
   have hg1:W3.heap[gn]? = some (.cells #[.int .i64 (c.length:Nat)] 3 (0,0)):=by rw [H3.there gn (by omega)]; exact hg1
   have hg2:W3.heap[gs]? = some (.cells #[.int .i64 (s:Nat)] 3 (0,0)):=by rw [H3.there gs (by omega)]; exact hg2
   have hdb3:W3.heap[db]? = some (.deferred (some [])):=by rw [H3.there db (fun e => hne e.symm)]; exact hdd
   have hcl:=Rw.clr_lt x.2.2
   obtain ⟨b1,o1,hA1,hc1⟩:=Reads.int hr x.2.1
   have hcx:=hc c[x.1] (List.getElem_mem x.2.1)
   refine ⟨_,cell_of_block (i:=0) I4.h3 rfl,?_⟩
   refine ⟨_,cell_of_block (i:=0) I4.h4 rfl,?_⟩
   refine ⟨_,cell_of_block (i:=0) I4.h8 rfl,?_⟩
   refine ⟨_,fun w => andNotQ hs62 x.2.2 w,⟨by simp,by simp⟩,?_⟩
   refine (behind_spec (i:=x.1) (s:=Rw.clr s x.1) hW (hw.ext I4.ext) (hr.ext I4.ext) hc (by omega) x.2.1 (by omega)).mono ?_
   rintro v W4 ⟨rfl,e4⟩
   have I5:=I4.grow e4
   have hc1:=I5.ext.cell hc1
   obtain ⟨cost,hcost⟩:∃ cost,cost = Rw.sumS c.length (wf Wm c x.1) (Rw.clr s x.1):=⟨_,rfl⟩
   have hcb0:0 <= cost:=by rw [hcost]; exact Rw.sumS_nonneg (fun k _ => (hwf _ k).1) _
   have hcb1:cost <= 10000:=by
    rw [hcost]
    have:=Rw.sumS_le (m:=c.length) (f:=wf Wm c x.1) (b:=1000) (by omega) (fun k _ => (hwf _ k).2) (Rw.clr s x.1)
    omega
   have htb0:=Rw.T_nonneg (m:=c.length) hwf (by omega) (Rw.clr s x.1) (by omega)
   have htb1:=Rw.T_small (m:=c.length) hwf (by omega) (s:=Rw.clr s x.1) (by omega)
   refine ⟨_,cell_of_block (i:=0) I5.h4 rfl,?_⟩
   refine ⟨x.1,b1,o1,rfl,x.2.1,hA1,?_⟩
   refine ⟨_,by simpa using hc1,?_⟩
   refine ⟨_,cell_of_block (i:=0) I5.h5 rfl,?_⟩
   refine brE_false (decide_eq_false (by have:=hcx.1; omega)) ?_
   refine ⟨_,cell_of_block (i:=0) I5.h7 rfl,?_⟩
   refine ⟨_,cell_of_block (i:=0) I5.h8 rfl,?_⟩
   refine ⟨_,cell_of_block (i:=0) I5.h7 rfl,?_⟩
   refine ⟨_,cell_of_block (i:=0) I5.h8 rfl,?_⟩
   refine ⟨s,gv,0,rfl,hlt,rfl,?_⟩
   refine ⟨.int .i64 (accQ (wf Wm c) c.length q),cell_of_block I5.hv (by have:=ints_get (rowP_here (wf Wm c) c.length K s (accQ (wf Wm c) c.length q)); simpa using this),?_⟩
   refine ⟨_,cell_of_block (i:=0) I5.h7 rfl,?_⟩
   refine ⟨_,cell_of_block (i:=0) I5.h8 rfl,?_⟩
   refine ⟨_,fun w => andNotQ hs62 x.2.2 w,⟨by simp,by simp⟩,?_⟩
   refine ⟨Rw.clr s x.1,gv,0,rfl,by omega,rfl,?_⟩
   refine ⟨.int .i64 (Rw.T (wf Wm c) c.length (Rw.clr s x.1)),cell_of_block I5.hv (by have:=ints_get (rowP_old (K:=K) (w:=wf Wm c) (m:=c.length) hcl (accQ (wf Wm c) c.length q)); simpa using this),?_⟩
   refine ⟨Rw.T (wf Wm c) c.length (Rw.clr s x.1) + cost,by show IntKind.i64.wrap (Rw.T (wf Wm c) c.length (Rw.clr s x.1) + Rw.sumS c.length (wf Wm c x.1) (Rw.clr s x.1)) = _; rw [<-hcost]; exact fit ⟨by omega,by omega⟩,?_⟩
   refine ⟨_,minQ rfl rfl rfl,?_⟩
   refine ⟨s,gv,0,rfl,hlt,rfl,?_⟩
   refine ⟨rfl,_,_,I5.hv,by rw [ints_length,rowP_length hlt]; show 0 + s * 1 + 1 <= K; omega,rfl,?_⟩
   intro W5 H5
   have e5:splice (ints (rowP (wf Wm c) c.length K s (accQ (wf Wm c) c.length q))) (0 + s * 1) [.int .i64 (min (accQ (wf Wm c) c.length q) (Rw.T (wf Wm c) c.length (Rw.clr s x.1) + cost))] = ints (rowP (wf Wm c) c.length K s (accQ (wf Wm c) c.length (q ++ [x]))):=by
    rw [accQ_snoc,<-hcost,show 0 + s * 1 = s by omega,ints_set (by rw [rowP_length hlt]; exact hlt),rowP_set]
   have H5:Put W4 gv (.cells (ints (rowP (wf Wm c) c.length K s (accQ (wf Wm c) c.length (q ++ [x])))).toArray 3 (0,0)) W5:=by rw [<-e5]; exact H5
   refine ⟨rfl,⟨⟨I5.put H5,?_,?_⟩,trivial⟩,?_,?_⟩
   ·rw [H5.there gn (by omega)]; exact e4.heap hg1
   ·rw [H5.there gs (by omega)]; exact e4.heap hg2
   ·rw [H5.there lp (by omega)]; exact e4.heap H3.here
   ·rw [H5.there db (by omega),hdb3]; exact e4.heap hdb3
  ·intro lp J W hJe hJI hJY hJ0
   exact members1_spec (n:=c.length) (s:=s) (gn:=gn) (gs:=gs) (by omega) hs62 hJe (fun q W hJ => (hJI q W hJ).2) hJY hJ0
  ·rintro db W ⟨hI,_,_⟩ hdb hdd
   rw [accQ_all _ (by omega),rowP_next] at hI
   have hI:=hI.marked hdd (fun h => by have:=lt_of_heap (I3.marks db h); omega) (Nat.le_trans I3.ext.size hdb)
   refine ⟨SndB.of (Snd.fin (C_ok.marks _) (plans:=plans86) (by kernel_rfl) ?_)⟩
   refine ⟨_,cell_of_block (i:=0) hI.h8 rfl,?_⟩
   intro g9 W1 H1
   refine ⟨rfl,_,_,H1.here,Nat.le_of_ble_eq_true rfl,rfl,?_⟩
   intro W2 H2
   have E2:Ext W W2:=H2.ext_of H1.ext (by rw [H1.new]; exact Nat.le_refl _)
   refine ⟨_,cell_of_block (i:=0) H2.here rfl,?_⟩
   refine ⟨((s + 1:Nat):Int),fit ⟨by omega,by omega⟩,?_⟩
   refine ⟨rfl,_,_,H2.here,Nat.le_of_ble_eq_true rfl,rfl,?_⟩
   intro W3 H3
   have E3:Ext W W3:=H3.ext_of E2 (by rw [H1.new]; exact Nat.le_refl _)
   have I3:=hI.grow E3
   have hgv:=lt_of_heap hI.hv
   refine ⟨⟨(s + 1,g9),⟨rfl,rfl,rfl,rfl,rfl,trivial⟩,⟨by show 1 <= s + 1; omega,hlt,{ I3 with h8:=H3.here,n8:=by have:=H1.new; omega }⟩,by show K - (s + 1) < K - s; omega⟩⟩
 ·have:s = K:=by have:¬ (s:Int) < (K:Nat):=hge; omega
  subst this
  refine ⟨SndB.of (Snd.fin (C_ok.marks bs) (plans:=plans86) (by kernel_rfl) ?_)⟩
  refine ⟨_,cell_of_block (i:=0) I.h7 rfl,?_⟩
  refine ⟨I.nodup,I.marks,fun w3 H3 => ?_⟩
  have hgv:w3.heap[gv]? = some (.cells (ints (rowZ (wf Wm c) c.length s s)).toArray 3 (0,0)):=H3.heap (fun h => I.nb h rfl) I.hv
  have er:rowZ (wf Wm c) c.length s s = Rw.tabL (wf Wm c) c.length s:=by unfold rowZ; simp
  rw [er] at hgv
  refine ⟨?_,?_⟩
  ·have:=owns_block (e:=3) (base:=w.heap.size) (size:=1) (n:=s) hgv I.base (by rw [ints_length,Rw.tabL_length,Nat.mul_one]) (by simp only [maxLen]; omega)
   unfold NewInts
   rw [Rw.tabL_length]
   exact this
  ·exact ext_keep I.ext H3 (fun q hq h => by have:=I.fresh q h; omega)
end Go.Proofs.YtigapannpbaihaaGreat.Rk
