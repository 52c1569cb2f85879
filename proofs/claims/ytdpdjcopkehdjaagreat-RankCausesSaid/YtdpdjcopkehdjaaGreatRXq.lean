/- a part of the proof: steps, walks and plain laws that the law below stands on; no condition. -/
import Derived.Test.YtdpdjcopkehdjaaGreatRXa
import Derived.Test.YtdpdjcopkehdjaaGreatRXb
import Derived.Test.YtdpdjcopkehdjaaGreatRXc
import Derived.Test.YtdpdjcopkehdjaaGreatRXd
import Derived.Test.YtdpdjcopkehdjaaGreatRXe
import Derived.Test.YtdpdjcopkehdjaaGreatRXf
import Derived.Test.YtdpdjcopkehdjaaGreatRXg
import Derived.Test.YtdpdjcopkehdjaaGreatRXh
import Derived.Test.YtdpdjcopkehdjaaGreatRXi
import Derived.Test.YtdpdjcopkehdjaaGreatRXj
import Derived.Test.YtdpdjcopkehdjaaGreatRXk
import Derived.Test.YtdpdjcopkehdjaaGreatRXl
import Derived.Test.YtdpdjcopkehdjaaGreatRXm
import Derived.Test.YtdpdjcopkehdjaaGreatRXn
import Derived.Test.YtdpdjcopkehdjaaGreatRXo
import Derived.Test.YtdpdjcopkehdjaaGreatRXp
import Derived.RangeFuncRecord
import Derived.RangeFuncSeq
import Derived.Shelf.Strings.OnBuilder
import Derived.Shelf.Strconv.AtoiAll
import Derived.Shelf.Strconv.Itoa3
import Derived.Shelf.Strings.Search2
import Derived.KernelRfl
import Derived.Test.YtdpdjcopkehdjaaGreatProg
import Derived.WideLaws
import Derived.Maps.RangeRun
set_option linter.unusedVariables false
set_option linter.unusedSimpArgs false
set_option linter.unnecessarySimpa false
set_option linter.unusedSectionVars false
namespace Go.Eng
open Go.RowKit
structure Wide (F:Fence):Prop where
 eq:F = Fence.wide ∨ ∃ lp,F = Fence.wide.inRound lp
theorem Wide.wide:Wide Fence.wide:=⟨.inl rfl⟩
theorem Wide.round (lp:Nat):Wide (Fence.wide.inRound lp):=⟨.inr ⟨lp,rfl⟩⟩
theorem Wide.fn {F:Fence} (h:Wide F) (f:Nat):F.fn f:=by
 rcases h.eq with rfl | ⟨lp,rfl⟩ <;> trivial
theorem Wide.dep {F:Fence} (h:Wide F) {n:Nat}:F.depth.isSome = true -> 1 <= n:=by
 rcases h.eq with rfl | ⟨lp,rfl⟩ <;> (intro e; cases e)
theorem Wide.calls {F:Fence} (h:Wide F) {n:Nat} {P:Program} {f:FuncId} {args:Array Value} {w:World} {R:Ending -> World -> Prop} (hc:Calls P f args w R):CallsIn F n P f args w R:=by
 have:=(callsIn_wide (n:=n)).2 hc
 rcases h.eq with rfl | ⟨lp,rfl⟩
 ·exact this
 ·exact this
theorem Wide.rows {F:Fence} (h:Wide F) {n:Nat} {P:Program} {row:String} {args:Array Value} {w:World} {R:Value -> World -> Prop} (hc:Rows P row args w R):RowsIn F n P row args w R:=by
 have:RowsIn Fence.wide n P row args w R:=fun c cs _ => let ⟨v,w',r,s⟩:=hc c cs; ⟨v,w',r,stepsIn_wide.2 s⟩
 rcases h.eq with rfl | ⟨lp,rfl⟩
 ·exact this
 ·exact this
theorem op_wide {F:Fence} (hF:Wide F) {nn:Nat} {P:Program} {o:Oper} {a:Act} {w:World} {next:Act -> World -> Prop} {Q:Exit -> Act -> World -> Prop} (hnd:∀ c,o.op ≠ .defer c) (h:o.wp P a w next Q):o.wpIn F nn P a w next Q:=by
 refine ⟨fun f _ => hF.fn f,?_⟩
 rw [Oper.semAt_eq _ _ _ hnd]
 unfold Oper.wp at h
 generalize (execOp a.eval o).run P w = r at h ⊢
 cases r with
 | ok nx w' =>
  cases nx with
  | value v => exact h
  | skip => exact h
  | defer d => exact h
  | enter f args =>
   refine ⟨hF.dep,(hF.calls h).mono ?_⟩
   intro e w'' hh
   cases e <;> exact hh
  | row row args => exact ⟨hF.dep,hF.rows h⟩
  | _ => exact h.elim
 | halt hh w' =>
  cases hh with
  | panic v => exact h
  | _ => exact h.elim
abbrev RepD (n:Nat) (D:List Deferred) (a:Act) (l:Env):Prop:=Rep n D a l
section
variable {n:Nat} {D:List Deferred} {a:Act} {l:Env}
theorem Rep.rep (h:Rep n D a l):Rep n [] { a with defers:=[] } l:=⟨h.size,rfl,h.get⟩
theorem guard_soundD {all:List Oper} {o:Oper} {yes no:Env -> Prop} (h:guardE all o l yes no) (hr:RepD n D a l) :
  (Region.wanted o (yielded all.toArray a.tmps) = true ∧ ∃ l',RepD n D a l' ∧ yes l') ∨ (Region.wanted o (yielded all.toArray a.tmps) = false ∧ ∃ l',RepD n D a l' ∧ no l'):=by
 exact guard_sound h hr
end
section
variable {C:Cfg} {n:Nat}
theorem runLI (hC:C.Ok) {F:Fence} (hF:Wide F) {nn d:Nat} {D:List Deferred} {all:List Oper} (hd:dstsOk n all.toArray = true) (hnd:∀ o ∈ all,∀ c,o.op ≠ .defer c) {K:Env -> World -> Prop} {Q:Exit -> Act -> World -> Prop} {rest:List Nat}
  (hrest:∀ l w a w₁,K l w -> RepD n D a l -> Same w w₁ -> Dr C d w₁ -> wpOpsIn F nn C.P all.toArray Q rest a w₁) :
  ∀ (r:List Oper) (k:Nat) (l:Env) (w:World) (a:Act) (w₁:World),(∀ j,j < r.length -> r[j]? = all[k + j]?) -> runL C all r l w K -> RepD n D a l -> Same w w₁ -> Dr C d w₁ →
   wpOpsIn F nn C.P all.toArray Q (List.range' k r.length ++ rest) a w₁
 | [],k,l,w,a,w₁,_,h,hr,hs,hdw => by simpa using hrest l w a w₁ h hr hs hdw
 | o :: r,k,l,w,a,w₁,hl,h,hr,hs,hdw => by
  have h0:all[k]? = some o:=by simpa using (hl 0 (by simp)).symm
  have h0':all.toArray[k]? = some o:=by simpa using h0
  have hmem:o ∈ all:=List.mem_of_getElem? h0
  have hdst:=dstsOk_spec hd (Array.mem_of_getElem? h0')
  have hnext:∀ j,j < r.length -> r[j]? = all[k + 1 + j]?:=fun j hj => by have:=hl (j + 1) (by simpa using hj); simpa [Nat.add_assoc,Nat.add_comm 1 j] using this
  simp only [List.length_cons,List.range'_succ,List.cons_append,wpOpsIn,h0']
  rw [runL_cons] at h
  rcases guard_soundD h hr with ⟨hw,l',hr',h⟩ | ⟨hw,l',hr',h⟩
  ·simp only [hw,if_true]
   refine op_wide hF (hnd o hmem) ?_
   unfold opE at h
   cases hloud:isLoud o.op with
   | true =>
    simp only [hloud] at h
    exact opL_sound hC h (fun x u hx => hr'.evo hx) hs fun v w' w'' hk hw' hd' => runLI hC hF hd hnd hrest r (k + 1) _ w' _ w'' hnext hk (hr'.bindv hdst v) hw' (hdw.step hd')
   | false =>
    simp only [hloud] at h
    obtain ⟨v,hk,hrun⟩:=opQ_sound hC h
    have:=hrun a.eval (fun x u hx => hr'.evo hx) w₁ (.inr hs.ext)
    unfold Oper.wp
    rw [this]
    exact runLI hC hF hd hnd hrest r (k + 1) _ w _ w₁ hnext hk (hr'.bindv hdst v) hs hdw
  ·simp only [hw,Bool.false_eq_true,if_false]
   exact ⟨fun f _ => hF.fn f,runLI hC hF hd hnd hrest r (k + 1) _ w _ w₁ hnext h (hr'.bindv hdst undef) hs hdw⟩
def noDefer (ops:List Oper):Bool:=ops.all fun o => match o.op with
 | .defer _ => false
 | _ => true
theorem noDefer_spec {ops:List Oper} (h:noDefer ops = true):∀ o ∈ ops,∀ c,o.op ≠ .defer c:=by
 intro o ho c e
 have:=List.all_eq_true.1 h o ho
 rw [e] at this
 cases this
def YieldV (C:Cfg) (lp:Nat) (args:Array Value) (w:World) (K:Value -> World -> Prop):Prop :=
 ∀ w₁,Same w w₁ -> YieldAt Fence.wide 0 C.P lp args w₁ fun e w' => (∃ v w'',e = .returned v ∧ K v w'' ∧ Same w'' w') ∧ (C.dr = true -> w₁.drawn <= w'.drawn)
theorem YieldV.mono {lp:Nat} {args:Array Value} {w:World} {K K':Value -> World -> Prop} (h:YieldV C lp args w K) (hk:∀ v w',K v w' -> K' v w'):YieldV C lp args w K':=by
 intro w₁ hs
 obtain ⟨fn,tmps,assign,body,hy,hr⟩:=h w₁ hs
 exact ⟨fn,tmps,assign,body,hy,hr.mono fun _ _ ⟨⟨v,w'',he,hv,hw⟩,hd⟩ => ⟨⟨v,w'',he,hk v w'' hv,hw⟩,hd⟩⟩
theorem exec_yield {P:Program} {w:World} {o:Oper} {f:Operand} {args:Array Operand} {ts:Array Nat} (ho:o.op = .call ⟨.value f,args,ts⟩) {a:Act} {lp:Nat} (hf:a.eval f = .func (.yield lp) #[] #[]) {vs:List Value} (hvs:args.toList.map a.eval = vs)
  {fn:FuncId} {tmps:Array Value} {assign body:Code} (hy:(Instr.yield lp vs.toArray).run P w = .ok (.round lp fn tmps assign body) w) :
  (execOp a.eval o).run P w = .ok (.round lp fn tmps assign body) w:=by
 have hm:args.map a.eval = vs.toArray:=by apply Array.ext'; simp [hvs]
 unfold execOp
 rw [ho]
 simp [resolve,hf,Deferred.ofValue,invoke,hm,hy]
structure YieldK (C:Cfg) (all post:List Oper) (dst:Option Nat) (f:Operand) (args:List Operand) (K:Env -> World -> Prop) (l:Env) (w:World):Prop where
 ex:∃ lp vs,evo l f = some (.func (.yield lp) #[] #[]) ∧ argsOf l args = some vs ∧ YieldV C lp vs.toArray w fun v w' => runL C all post (bindv dst v l) w' K
theorem regionY (hC:C.Ok) {id:Nat} {ops:Array Oper} (hd:dstsOk n ops = true) (hnd:noDefer ops.toList = true) {pre post:List Oper} {o:Oper} (hsp:ops.toList = pre ++ o :: post) (hg:o.guard = none) {f:Operand} {args:Array Operand} {ts:Array Nat} (ho:o.op = .call ⟨.value f,args,ts⟩)
  {l:Env} {w:World} {Q:Exit -> Env -> World -> Prop} (h:runL C ops.toList pre l w (YieldK C ops.toList post o.dst f args.toList (Q .normal))):Snd C n (.region id ops false) l w Q:=by
 intro d a w₁ hr hs hdw
 refine wpIn_wide.1 (wpIn_mono (F:=Fence.wide) (n:=0) (Q:=Fin C n d (Q .normal)) (wpIn_region ?_) ?_)
 ·have hd':dstsOk n ops.toList.toArray = true:=by simpa using hd
  have hnd':=noDefer_spec hnd
  have hsz:ops.size = pre.length + (post.length + 1):=by
   rw [<-Array.length_toList,hsp]; simp
  have hi:ops.toList[pre.length]? = some o:=by rw [hsp]; simp
  have hrange:List.range ops.size = List.range' 0 pre.length ++ (pre.length :: (List.range' (pre.length + 1) post.length ++ [])):=by
   rw [List.range_eq_range',hsz,List.append_nil,<-List.range'_append_1,Nat.zero_add,List.range'_succ]
  have hdst:=dstsOk_spec hd (o:=o) (by
   have:ops[pre.length]? = some o:=by simpa using hi
   exact Array.mem_of_getElem? this)
  rw [hrange]
  have key:=runLI (F:=Fence.wide) (nn:=0) (d:=d) (D:=C.df) (all:=ops.toList) (K:=YieldK C ops.toList post o.dst f args.toList (Q .normal)) (Q:=Fin C n d (Q .normal)) (rest:=pre.length :: (List.range' (pre.length + 1) post.length ++ [])) hC Wide.wide hd' hnd' ?_ pre 0 l w a w₁
   (fun j hj => by rw [hsp,Nat.zero_add,List.getElem?_append_left hj]) h hr hs hdw
  ·simpa using key
  ·intro l2 w2 a2 w3 hk hr2 hs2 hd2
   obtain ⟨lp,vs,hf,hvs,hy⟩:=hk.ex
   have hi':ops.toList.toArray[pre.length]? = some o:=by simpa using hi
   simp only [wpOpsIn,hi']
   have hw:Region.wanted o (yielded ops.toList.toArray a2.tmps) = true:=by simp [Region.wanted,hg]
   simp only [hw,if_true]
   obtain ⟨fn,tmps,assign,body,hrun,hround⟩:=hy w3 hs2
   refine ⟨fun f _ => trivial,?_⟩
   have hex:=exec_yield ho (hr2.evo hf) (argsOf_eval (fun x u hx => hr2.evo hx) hvs) hrun
   rw [Oper.semAt_eq _ _ _ (by rw [ho]; intro c hc; cases hc),hex]
   refine ⟨fun e => (by cases e),hround.mono ?_⟩
   rintro e w4 ⟨⟨v,w5,rfl,hk2,hs5⟩,hd5⟩
   refine runLI (F:=Fence.wide) (nn:=0) (d:=d) (D:=C.df) (all:=ops.toList) (K:=Q .normal) (rest:=[]) hC Wide.wide hd' hnd' ?_ post (pre.length + 1) _ w5 _ w4 (fun j hj => ?_) hk2 (hr2.bindv hdst v) hs5 (hd2.step hd5)
   ·intro l6 w6 a6 w7 hk6 hr6 hs6 hd6
    exact ⟨l6,w6,hk6,⟨hr6.size,hr6.defers,hr6.get⟩,hs6,hd6⟩
   ·rw [hsp,List.getElem?_append_right (by omega)]
    rw [show pre.length + 1 + j - pre.length = j + 1 by omega]
    simp
 ·intro e a w h
  cases e <;> first | exact h | exact h.elim
theorem regionYi (hC:C.Ok) {id:Nat} {ops:Array Oper} (hd:dstsOk n ops = true) (hnd:noDefer ops.toList = true) (i:Nat) {o:Oper} (hi:ops.toList[i]? = some o) (hg:o.guard = none) {f:Operand} {args:Array Operand} {ts:Array Nat} (ho:o.op = .call ⟨.value f,args,ts⟩)
  {l:Env} {w:World} {Q:Exit -> Env -> World -> Prop} (h:runL C ops.toList (ops.toList.take i) l w (YieldK C ops.toList (ops.toList.drop (i + 1)) o.dst f args.toList (Q .normal))):Snd C n (.region id ops false) l w Q:=by
 obtain ⟨hlt,e⟩:=List.getElem?_eq_some_iff.1 hi
 refine regionY hC hd hnd (pre:=ops.toList.take i) (post:=ops.toList.drop (i + 1)) ?_ hg ho h
 rw [<-e,List.getElem_cons_drop,List.take_append_drop]
theorem Snd.seq {x y:Code} {l:Env} {w:World} {Q:Exit -> Env -> World -> Prop} (h:Snd C n x l w (thenE Q fun l' w' => Rest C n y l' w' Q)):Snd C n (.seq x y) l w Q:=by
 intro d a w₁ hr hs hd
 refine wp_seq (wp_mono (h d a w₁ hr hs hd) ?_)
 rintro e a' w' ⟨l',w'',hq,hr',hs',hd'⟩
 cases e with
 | normal => exact hq.snd d a' w' hr' hs' hd'
 | _ => exact ⟨l',w'',hq,hr',hs',hd'⟩
theorem Snd.block {id:Nat} {c:Code} {l:Env} {w:World} {Q:Exit -> Env -> World -> Prop} (h:Snd C n c l w (blockE id Q)):Snd C n (.block id c) l w Q:=by
 intro d a w₁ hr hs hd
 refine wp_block (wp_mono (h d a w₁ hr hs hd) ?_)
 rintro e a' w' ⟨l',w'',hq,hr',hs',hd'⟩
 cases e with
 | exit id' =>
  simp only [blockE] at hq
  cases hb:Nat.beq id' id with
  | true =>
   rw [hb] at hq
   have:=Nat.eq_of_beq_eq_true hb
   subst this
   simp only [Exit.inBlock,if_true]
   exact ⟨l',w'',hq,hr',hs',hd'⟩
  | false =>
   rw [hb] at hq
   have:id' ≠ id:=fun e => by subst e; rw [Nat.beq_refl] at hb; cases hb
   simp only [Exit.inBlock,this,if_false]
   exact ⟨l',w'',hq,hr',hs',hd'⟩
 | _ => exact ⟨l',w'',hq,hr',hs',hd'⟩
structure Head {σ:Type} (E:σ -> Env) (I:σ -> World -> Prop) (μ:σ -> Nat) (m:Nat) (l:Env) (w:World):Prop where
 ex:∃ s,Cov l (E s) ∧ I s w ∧ μ s < m
theorem Snd.loop {σ:Type} (E:σ -> Env) (I:σ -> World -> Prop) (μ:σ -> Nat) (s₀:σ) {c:Code} {l:Env} {w:World} {Q:Exit -> Env -> World -> Prop} (hcov:Cov l (E s₀)) (h0:I s₀ w)
  (step:∀ s w,I s w -> Snd C n c (E s) w (thenE Q (Head E I μ (μ s)))):Snd C n (.loop c) l w Q:=by
 intro d a w₁ hr hs hdw
 refine wp_loop_ghost (fun m a w₁ => ∃ s w,μ s = m ∧ I s w ∧ Same w w₁ ∧ Rep n C.df a (E s) ∧ Dr C d w₁) (μ s₀) ⟨s₀,w,rfl,h0,hs,hr.sub hcov.sub,hdw⟩ ?_
 rintro m a w₁ ⟨s,w,rfl,hI,hs,hr,hdw⟩
 refine wp_mono (step s w hI d a w₁ hr hs hdw) ?_
 rintro e a' w' ⟨l',w'',hq,hr',hs',hd'⟩
 cases e with
 | normal =>
  obtain ⟨⟨s',hc',hI',hlt⟩⟩:=hq
  exact ⟨μ s',hlt,s',w'',rfl,hI',hs',hr'.sub hc'.sub,hd'⟩
 | _ => exact ⟨l',w'',hq,hr',hs',hd'⟩
theorem Snd.cond {c:Operand} {x y:Code} {b:Bool} {l:Env} {w:World} {Q:Exit -> Env -> World -> Prop} (hc:evo l c = some (.bool b)) (hx:b = true -> Snd C n x l w Q) (hy:b = false -> Snd C n y l w Q):Snd C n (.cond c x y) l w Q:=by
 intro d a w₁ hr hs hd
 have he:=hr.evo hc
 cases b with
 | true => exact wp_cond_true he (hx rfl d a w₁ hr hs hd)
 | false => exact wp_cond_false he (hy rfl d a w₁ hr hs hd)
theorem Snd.skip {l:Env} {w:World} {Q:Exit -> Env -> World -> Prop} (h:Q .normal l w):Snd C n .skip l w Q:=fun _ _ _ hr hs hd => wp_skip ⟨l,w,h,hr,hs,hd⟩
theorem put_putObj {w:World} {lp:Nat} {o:Obj} (h:lp < w.heap.size):Put w lp o (w.putObj lp o) :=
 ⟨World.putObj_size,World.putObj_heap_same h,fun _ hk => World.putObj_heap_other hk,rfl,rfl,rfl⟩
theorem Same.putObj {w w₁:World} (h:Same w w₁) (lp:Nat) (o:Obj):Same (w.putObj lp o) (w₁.putObj lp o) :=
 ⟨by show (w₁.heap.setIfInBounds lp o) = w.heap.setIfInBounds lp o; rw [h.heap],h.os,h.tape,h.output⟩
structure Round (C:Cfg) (opsB:List Oper) (lp db:Nat) (K:World -> Prop) (l:Env) (w:World):Prop where
 body:∀ r w',Put w lp (.loop r) w' -> runL C opsB opsB l w' fun _ w3 => K w3 ∧ w3.heap[lp]? = some (.loop r) ∧ w3.heap[db]? = w'.heap[db]?
theorem wp_range (hC:C.Ok) {g:Operand} {t ida idb idc:Nat} {opsA opsB:Array Oper} (hdA:dstsOk n opsA = true) (hdB:dstsOk n opsB = true) (hnA:noDefer opsA.toList = true) (hnB:noDefer opsB.toList = true)
  {d:Nat} {l:Env} {w w₁:World} {a:Act} (hr:Rep n [] a l) (hs:Same w w₁) (hd:Dr C d w₁) (ht:t < n) {gf:Nat} {cap:Array Value} (hg:evo l g = some (.func (.func gf) #[] cap)) (hcan:C.can gf = true)
  {σ:Type} (enc:σ -> Value) (I:List σ -> World -> Prop) (Kp:World -> World -> Prop) (N:Nat) {xs:List σ} (hI0:I [] w)
  (hIe:∀ s W W',I s W -> Ext W W' -> I s W') (hIp:∀ s W W' k o r,w.heap.size <= k -> W.heap[k]? = some (.loop r) -> I s W -> Put W k o W' -> I s W') (hKp:∀ W W' W'' k o r,Kp W W' -> W'.heap[k]? = some (.loop r) -> Put W' k o W'' -> Kp W W'')
  (hround:∀ lp db,w.heap.size <= lp -> w.heap.size <= db -> lp ≠ db -> ∀ s x W,I s W -> s.length < N -> (∃ r,W.heap[lp]? = some (.loop r)) -> W.heap[db]? = some (.deferred (some [])) →
   runL C opsA.toList opsA.toList ((t,enc x) :: l) W fun l' W' => (W'.heap[lp]? = W.heap[lp]? ∧ W'.heap[db]? = W.heap[db]?) ∧ Round C opsB.toList lp db (fun W3 => I (s ++ [x]) W3 ∧ Kp W W3) l' W')
  (hiter:∀ lp (J:List σ -> World -> Prop) W,(∀ s W W',J s W -> Ext W W' -> J s W') -> (∀ s W,J s W -> I s W) →
   (∀ s x W,J s W -> s.length < N -> YieldV C lp #[enc x] W fun v W' => v = .bool true ∧ J (s ++ [x]) W' ∧ Kp W W') -> J [] W -> CallsX C.dr C.P gf (#[.func (.yield lp) #[] #[]] ++ cap) W fun _ W' => J xs W') :
  (Code.rangeFunc g #[t] (.region ida opsA false) (.block idb (.region idc opsB false))).wp C.P (fun e a' w' => e = .normal ∧ ∃ db w'',a' = { a with defers:=[{ target:=.collected db,args:=#[] }] } ∧ w'.heap[db]? = some (.deferred (some [])) ∧
   w.heap.size <= db ∧ I xs w'' ∧ Same w'' w' ∧ Dr C d w') a w₁:=by
 refine (wpIn_wide (n:=1)).1 (wpIn_rangeFunc ?_)
 intro fn _
 obtain ⟨rc,hrec⟩:∃ rc:LoopState -> Loop,rc = fun st => { state:=st,pending:=none,fn,tmps:=a.tmps,params:=#[t],assign:=.region ida opsA false,body:=.block idb (.region idc opsB false),defers:=w₁.heap.size }:=⟨_,rfl⟩
 obtain ⟨W1,hW1⟩:∃ W1,(w₁.alloc (.deferred (some []))).alloc (.loop (rc .ready)) = W1:=⟨_,rfl⟩
 have hsz:w₁.heap.size = w.heap.size:=by rw [hs.heap]
 obtain ⟨db,hdb⟩:∃ db,db = w₁.heap.size:=⟨_,rfl⟩
 obtain ⟨lp,hlp⟩:∃ lp,lp = w₁.heap.size + 1:=⟨_,rfl⟩
 have hL1:W1.heap[lp]? = some (.loop (rc .ready)):=by
  rw [<-hW1,hlp]
  have:=World.alloc_heap_new (w₁.alloc (.deferred (some []))) (.loop (rc .ready))
  rwa [World.size_alloc] at this
 have hK1:W1.heap[db]? = some (.deferred (some [])):=by
  rw [<-hW1,hdb]; exact (Below.heap_alloc _ _ _ (by simp)).trans (World.alloc_heap_new w₁ _)
 have eW:Ext w W1:=by
  rw [<-hW1]
  exact ((hs.ext).alloc (by rw [hsz]; exact Nat.le_refl _) _).alloc (by rw [World.size_alloc,hsz]; omega) _
 have hfn:=hC.funcs gf hcan
 unfold callable at hfn
 cases hfg:C.P.funcs[gf]? with
 | none => simp [hfg] at hfn
 | some fg =>
 simp [hfg] at hfn
 have hbody:fg.body.isNone = false:=by
  cases hb:fg.body with
  | none => simp [hb] at hfn
  | some c => rfl
 have heval:a.eval g = .func (.func gf) #[] cap:=hr.evo hg
 have hyield:∀ s x W,(I s W ∧ W.heap[lp]? = some (.loop (rc .ready)) ∧ W.heap[db]? = some (.deferred (some []))) -> s.length < N -> YieldV C lp #[enc x] W fun v W' => v = .bool true ∧ (I (s ++ [x]) W' ∧ W'.heap[lp]? = some (.loop (rc .ready)) ∧ W'.heap[db]? = some (.deferred (some []))) ∧ Kp W W':=by
  rintro s x W ⟨hi,hl,hk⟩ hlen Wr hsW
  have hlr:Wr.heap[lp]? = some (.loop (rc .ready)):=by rw [hsW.heap]; exact hl
  have hy:=run_yield (P:=C.P) (args:=#[enc x]) hlr (by rw [hrec]; rfl)
  have h1:(rc .ready).assign = .region ida opsA false:=by rw [hrec]
  have h2:(rc .ready).body = .block idb (.region idc opsB false):=by rw [hrec]
  have h3:((rc .ready).params.zip #[enc x]).foldl (fun tmps (t,a) => tmps.setIfInBounds t a) (rc .ready).tmps = a.tmps.setIfInBounds t (enc x):=by rw [hrec]; simp
  rw [h1,h2,h3] at hy
  refine ⟨_,_,_,_,hy,roundIn_of_wpIn trivial (wpIn_region ?_)⟩
  have hrD:RepD n [] { tmps:=a.tmps.setIfInBounds t (enc x),defers:=[] } ((t,enc x) :: l):=by
   have:=hr.put ht (enc x)
   exact ⟨this.size,rfl,this.get⟩
  have hA:dstsOk n opsA.toList.toArray = true:=by simpa using hdA
  have hB:dstsOk n opsB.toList.toArray = true:=by simpa using hdB
  have key:=runLI (F:=Fence.wide.inRound lp) (nn:=0) (d:=Wr.drawn) (D:=[]) (all:=opsA.toList) (rest:=[]) hC (Wide.round lp) hA (noDefer_spec hnA) (Q:=Exit.then (fun a₁ w₁ => ∃ w₂,(Instr.beginRound lp).run C.P w₁ = .ok () w₂ ∧ (Code.block idb (.region idc opsB false)).wpIn (Fence.wide.inRound lp) 0 C.P (roundPost C.P lp fun e w' => (∃ v w'',e = .returned v ∧ (v = .bool true ∧ (I (s ++ [x]) w'' ∧ w''.heap[lp]? = some (.loop (rc .ready)) ∧ w''.heap[db]? = some (.deferred (some []))) ∧ Kp W w'') ∧ Same w'' w') ∧ (C.dr = true -> Wr.drawn <= w'.drawn)) a₁ w₂) (fun _ _ _ => False)) ?_
   opsA.toList 0 ((t,enc x) :: l) W _ Wr (fun j _ => by rw [Nat.zero_add]) (hround lp db (by omega) (by omega) (by omega) s x W hi hlen ⟨_,hl⟩ hk) hrD hsW (fun _ => Nat.le_refl _)
  ·rw [List.append_nil,Array.length_toList,<-List.range_eq_range'] at key
   simpa using key
  intro l2 W2 a2 W2r hk2 hr2 hs2 hd2
  obtain ⟨⟨q1,q2⟩,hR⟩:=hk2
  have hl2:W2.heap[lp]? = some (.loop (rc .ready)):=q1.trans hl
  have hl2r:W2r.heap[lp]? = some (.loop (rc .ready)):=by rw [hs2.heap]; exact hl2
  refine ⟨_,run_beginRound hl2r (by rw [hrec]),?_⟩
  obtain ⟨o,ho⟩:∃ o:Obj,o = .loop { rc .ready with state:=.busy }:=⟨_,rfl⟩
  rw [<-ho]
  have hput:Put W2 lp o (W2.putObj lp o):=put_putObj (Array.getElem?_eq_some_iff.1 hl2).1
  refine wpIn_block (wpIn_region ?_)
  have key2:=runLI (F:=Fence.wide.inRound lp) (nn:=0) (d:=Wr.drawn) (D:=[]) (all:=opsB.toList) (rest:=[]) hC (Wide.round lp) hB (noDefer_spec hnB) (Q:=Exit.inBlock idb (roundPost C.P lp fun e w' => (∃ v w'',e = .returned v ∧ (v = .bool true ∧ (I (s ++ [x]) w'' ∧ w''.heap[lp]? = some (.loop (rc .ready)) ∧ w''.heap[db]? = some (.deferred (some []))) ∧ Kp W w'') ∧ Same w'' w') ∧ (C.dr = true -> Wr.drawn <= w'.drawn))) ?_
   opsB.toList 0 l2 (W2.putObj lp o) a2 _ (fun j _ => by rw [Nat.zero_add]) (hR.body { rc .ready with state:=.busy } _ (by rw [<-ho]; exact hput)) hr2 (hs2.putObj lp o) hd2
  ·rw [List.append_nil,Array.length_toList,<-List.range_eq_range'] at key2
   simpa using key2
  rintro l3 W3 a3 W3r ⟨⟨hi3,hkp3⟩,hl3,hk3⟩ hr3 hs3 hd3
  have hl3r:W3r.heap[lp]? = some (.loop { rc .ready with state:=.busy }):=by rw [hs3.heap]; exact hl3
  have hend:=run_endRound (P:=C.P) none hl3r
  have e1:({ ({ rc .ready with state:=.busy }:Loop) with state:=if (none:Option Code).isNone then .ready else .done,pending:=none }:Loop) = rc .ready:=by rw [hrec]; rfl
  rw [e1] at hend
  refine ⟨_,_,hend,⟨_,W3.putObj lp (.loop (rc .ready)),rfl,⟨rfl,⟨?_,?_,?_⟩,hKp _ _ _ lp _ _ hkp3 hl3 (put_putObj (Array.getElem?_eq_some_iff.1 hl3).1)⟩,hs3.putObj lp _⟩,fun hb => hd3 hb⟩
  ·exact hIp _ _ _ lp _ _ (by omega) hl3 hi3 (put_putObj (Array.getElem?_eq_some_iff.1 hl3).1)
  ·exact World.putObj_heap_same (Array.getElem?_eq_some_iff.1 hl3).1
  ·rw [World.putObj_heap_other (by omega),hk3,hput.there db (by omega),q2,hk]
 have hc:=hiter lp (fun s W => I s W ∧ W.heap[lp]? = some (.loop (rc .ready)) ∧ W.heap[db]? = some (.deferred (some []))) W1
  (fun s W W' h e => ⟨hIe s W W' h.1 e,e.heap h.2.1,e.heap h.2.2⟩) (fun s W h => h.1) hyield ⟨hIe _ _ _ hI0 eW,hL1,hK1⟩ W1 (Same.refl W1)
 refine ⟨lp,[{ target:=.collected db,args:=#[] }],W1,{ target:=.fn (.func gf) cap,args:=#[.func (.yield lp) #[] #[]] },W1,gf,#[.func (.yield lp) #[] #[]] ++ cap,W1,?_,?_,fun _ _ => trivial,?_,fun _ => Nat.le_refl _,?_⟩
 ·rw [<-hW1,hrec,hdb,hlp]; exact run_enterLoop_outer _ _ _ _ _
 ·simp only [resolve,heval]
  simp [Deferred.ofValue,Act.eval]
 ·simp [invoke,callFunc,hfg,hfn.1]
  intro hn; simp [hn] at hbody
 ·refine Wide.wide.calls (hc.mono ?_)
  rintro e W2 ⟨⟨v,w2,rfl,⟨hi,hl,hk⟩,hsame⟩,hdr⟩
  have hlr:W2.heap[lp]? = some (.loop (rc .ready)):=by rw [hsame.heap]; exact hl
  have hend:=run_endLoop (P:=C.P) hlr (by rw [hrec]; simp)
  have e1:(rc .ready).pending = none:=by rw [hrec]
  obtain ⟨o',ho'⟩:∃ o':Obj,o' = .loop { rc .ready with state:=.exhausted }:=⟨_,rfl⟩
  rw [<-ho',e1] at hend
  refine ⟨none,_,hend,rfl,db,w2.putObj lp o',?_,?_,by omega,hIp _ _ _ lp _ _ (by omega) hl hi (put_putObj (Array.getElem?_eq_some_iff.1 hl).1),hsame.putObj lp _,?_⟩
  ·rw [hr.defers]; rfl
  ·rw [World.putObj_heap_other (by omega),hsame.heap]; exact hk
  ·intro hb
   have:W1.drawn = w₁.drawn:=by rw [<-hW1]; rfl
   have h1:=hd hb
   have h2:=hdr hb
   show d <= W2.drawn
   omega
def SndR (C:Cfg) (n:Nat) (fn:Func) (K:Value -> World -> Prop) (c:Code) (l:Env) (w:World):Prop :=
 ∀ d a w₁,Rep n [] a l -> Same w w₁ -> Dr C d w₁ -> c.wp C.P (bodyPostM Fence.wide 0 C.P fn fun e w' => (∃ v w'',e = .returned v ∧ K v w'' ∧ Same w'' w') ∧ (C.dr = true -> d <= w'.drawn)) a w₁
structure RestR (C:Cfg) (n:Nat) (fn:Func) (K:Value -> World -> Prop) (y:Code) (l:Env) (w:World):Prop where
 snd:SndR C n fn K y l w
theorem callsV_ofR {f:Nat} {fn:Func} {c:Code} (hf:C.P.funcs[f]? = some fn) (hb:fn.body = some c) (hn:fn.ntmps = n)
  {args:List Value} (ha:args.length <= n) {w:World} {K:Value -> World -> Prop} (h:SndR C n fn K c (envOf 0 args) w):CallsX C.dr C.P f args.toArray w K:=by
 intro w₁ hs
 refine (callsIn_wide (n:=0)).1 (callsIn_of_wp_marks hf hb trivial (wpIn_wide.2 ?_))
 have hr:Rep n [] ({ tmps:=args.toArray ++ Array.replicate (fn.ntmps - args.toArray.size) undef,defers:=[] }:Act) (envOf 0 args):=by
  refine ⟨by simp [hn]; omega,rfl,fun t v hv => ?_⟩
  obtain ⟨j,rfl,hj⟩:=look_envOf args 0 t v hv
  have hlt:j < args.length:=(List.getElem?_eq_some_iff.1 hj).1
  simp only [Nat.zero_add]
  rw [Array.getElem?_append_left (by simpa using hlt)]
  simpa using hj
 exact h w₁.drawn _ w₁ hr hs (fun _ => Nat.le_refl _)
theorem SndR.go (hC:C.Ok) (plans:List (Nat × PlanT)) {fn:Func} {K:Value -> World -> Prop} {x y:Code} {l:Env} {w:World} (hok:codeOk n plans x = true)
  (h:codeE C n plans x l w (thenE (resE C fn.results.toList K) fun l' w' => RestR C n fn K y l' w')) (hdf:C.df = []:=by rfl):SndR C n fn K (.seq x y) l w:=by
 intro d a w₁ hr hs hd
 refine wp_seq (wp_mono (codeE_sound hC x l w _ hok h d a w₁ (by rw [hdf]; exact hr) hs hd) ?_)
 rintro e a' w' ⟨l',w'',hq,hr',hs',hd'⟩
 rw [hdf] at hr'
 cases e with
 | normal => exact hq.snd d a' w' hr' hs' hd'
 | ret =>
  obtain ⟨v,hv,hrun⟩:=run_results hC hr' hs' hq
  show LeavesInM _ _ _ _ _ _ a'.defers .returning w'
  rw [hr'.defers]
  exact ⟨v,hrun,⟨v,w'',rfl,hv,hs'⟩,hd'⟩
 | _ => exact hq.elim
def SndR2 (C:Cfg) (n:Nat) (fn:Func) (K:Value -> World -> Prop) (y z:Code) (l:Env) (w:World):Prop :=
 ∀ d a w₁,Rep n [] a l -> Same w w₁ -> Dr C d w₁ -> y.wp C.P (Exit.then (z.wp C.P (bodyPostM Fence.wide 0 C.P fn fun e w' => (∃ v w'',e = .returned v ∧ K v w'' ∧ Same w'' w') ∧ (C.dr = true -> d <= w'.drawn))) (bodyPostM Fence.wide 0 C.P fn fun e w' => (∃ v w'',e = .returned v ∧ K v w'' ∧ Same w'' w') ∧ (C.dr = true -> d <= w'.drawn))) a w₁
structure RestR2 (C:Cfg) (n:Nat) (fn:Func) (K:Value -> World -> Prop) (y z:Code) (l:Env) (w:World):Prop where
 snd:SndR2 C n fn K y z l w
theorem SndR.go2 (hC:C.Ok) (plans:List (Nat × PlanT)) {fn:Func} {K:Value -> World -> Prop} {x y z:Code} {l:Env} {w:World} (hok:codeOk n plans x = true)
  (h:codeE C n plans x l w (thenE (resE C fn.results.toList K) fun l' w' => RestR2 C n fn K y z l' w')) (hdf:C.df = []:=by rfl):SndR C n fn K (.seq (.seq x y) z) l w:=by
 intro d a w₁ hr hs hd
 refine wp_seq (wp_seq (wp_mono (codeE_sound hC x l w _ hok h d a w₁ (by rw [hdf]; exact hr) hs hd) ?_))
 rintro e a' w' ⟨l',w'',hq,hr',hs',hd'⟩
 rw [hdf] at hr'
 cases e with
 | normal => exact hq.snd d a' w' hr' hs' hd'
 | ret =>
  obtain ⟨v,hv,hrun⟩:=run_results hC hr' hs' hq
  show LeavesInM _ _ _ _ _ _ a'.defers .returning w'
  rw [hr'.defers]
  exact ⟨v,hrun,⟨v,w'',rfl,hv,hs'⟩,hd'⟩
 | _ => exact hq.elim
theorem SndR2.range (hC:C.Ok) {fn:Func} {K:Value -> World -> Prop} {g:Operand} {t ida idb idc idk idz:Nat} {opsA opsB opsZ:Array Oper} (hdA:dstsOk n opsA = true) (hdB:dstsOk n opsB = true) (hdZ:dstsOk n opsZ = true)
  (hnA:noDefer opsA.toList = true) (hnB:noDefer opsB.toList = true) (hnZ:noDefer opsZ.toList = true) {l:Env} {w:World} (ht:t < n) {gf:Nat} {cap:Array Value} (hg:evo l g = some (.func (.func gf) #[] cap)) (hcan:C.can gf = true)
  {σ:Type} (enc:σ -> Value) (I:List σ -> World -> Prop) (Kp:World -> World -> Prop) (N:Nat) {xs:List σ} (hI0:I [] w)
  (hIe:∀ s W W',I s W -> Ext W W' -> I s W') (hIp:∀ s W W' k o r,w.heap.size <= k -> W.heap[k]? = some (.loop r) -> I s W -> Put W k o W' -> I s W') (hKp:∀ W W' W'' k o r,Kp W W' -> W'.heap[k]? = some (.loop r) -> Put W' k o W'' -> Kp W W'')
  (hround:∀ lp db,w.heap.size <= lp -> w.heap.size <= db -> lp ≠ db -> ∀ s x W,I s W -> s.length < N -> (∃ r,W.heap[lp]? = some (.loop r)) -> W.heap[db]? = some (.deferred (some [])) →
   runL C opsA.toList opsA.toList ((t,enc x) :: l) W fun l' W' => (W'.heap[lp]? = W.heap[lp]? ∧ W'.heap[db]? = W.heap[db]?) ∧ Round C opsB.toList lp db (fun W3 => I (s ++ [x]) W3 ∧ Kp W W3) l' W')
  (hiter:∀ lp (J:List σ -> World -> Prop) W,(∀ s W W',J s W -> Ext W W' -> J s W') -> (∀ s W,J s W -> I s W) →
   (∀ s x W,J s W -> s.length < N -> YieldV C lp #[enc x] W fun v W' => v = .bool true ∧ J (s ++ [x]) W' ∧ Kp W W') -> J [] W -> CallsX C.dr C.P gf (#[.func (.yield lp) #[] #[]] ++ cap) W fun _ W' => J xs W')
  (hz:∀ w' db,I xs w' -> w.heap.size <= db -> w'.heap[db]? = some (.deferred (some [])) -> runL C opsZ.toList opsZ.toList l w' fun l' w'' => w''.heap[db]? = some (.deferred (some [])) ∧
   ∀ w3,Put w'' db (.deferred none) w3 -> resAll C l' w3 fn.results.toList fun vs => match vs with | [v] => K v w3 | vs => K (.tuple vs.toArray) w3) :
  SndR2 C n fn K (.block idk (.rangeFunc g #[t] (.region ida opsA false) (.block idb (.region idc opsB false)))) (.seq (.region idz opsZ false) .ret) l w:=by
 intro d a w₁ hr hs hd
 refine wp_block (wp_mono (wp_range hC hdA hdB hnA hnB hr hs hd ht hg hcan enc I Kp N hI0 hIe hIp hKp hround hiter) ?_)
 rintro e a' w' ⟨rfl,db,w'',rfl,hk,hdb,hi,hs2,hd2⟩
 refine wp_seq ((wpIn_wide (n:=0)).1 (wpIn_region ?_))
 have hZ:dstsOk n opsZ.toList.toArray = true:=by simpa using hdZ
 have key:=runLI (F:=Fence.wide) (nn:=0) (d:=d) (D:=[{ target:=.collected db,args:=#[] }]) (all:=opsZ.toList) (rest:=[]) hC Wide.wide hZ (noDefer_spec hnZ)
  (Q:=Exit.then (Code.ret.wp C.P (bodyPostM Fence.wide 0 C.P fn fun e w' => (∃ v w'',e = .returned v ∧ K v w'' ∧ Same w'' w') ∧ (C.dr = true -> d <= w'.drawn))) (bodyPostM Fence.wide 0 C.P fn fun e w' => (∃ v w'',e = .returned v ∧ K v w'' ∧ Same w'' w') ∧ (C.dr = true -> d <= w'.drawn))) ?_
  opsZ.toList 0 l w'' { a with defers:=[{ target:=.collected db,args:=#[] }] } w' (fun j _ => by rw [Nat.zero_add]) (hz w'' db hi hdb (by rw [<-hs2.heap]; exact hk)) ⟨hr.size,rfl,hr.get⟩ hs2 hd2
 ·rw [List.append_nil,Array.length_toList,<-List.range_eq_range'] at key
  simpa using key
 rintro l3 W3 a3 W3r ⟨hk3,hres⟩ hr3 hs3 hd3
 refine wp_ret ?_
 show LeavesInM _ _ _ _ _ _ a3.defers .returning W3r
 rw [hr3.defers]
 have hk3r:W3r.heap[db]? = some (.deferred (some [])):=by rw [hs3.heap]; exact hk3
 have hput:Put W3 db (.deferred none) (W3.putObj db (.deferred none)):=put_putObj (Array.getElem?_eq_some_iff.1 hk3).1
 refine ⟨by simp,.inl ⟨db,_,rfl,run_takeDeferred hk3r,?_⟩⟩
 obtain ⟨v,hv,hrun⟩:=run_results (fn:=fn) hC hr3.rep (hs3.putObj db (.deferred none)) (hres _ hput)
 exact ⟨v,hrun,⟨v,_,rfl,hv,hs3.putObj db _⟩,hd3⟩
end
end Go.Eng
namespace Go.Proofs.YtdpdjcopkehdjaaGreat.Rk
open Go.Eng Go.RowKit
set_option maxRecDepth 100000 in
set_option maxHeartbeats 8000000 in
theorem cause1_spec {w:World} {gP gR:Nat} {P R:Option Addr} {p:List Prof} {l:List Rl} {cp cl:Nat} (h2:w.heap[gP]? = some (.cells #[.slice P p.length cp] 31 (0,0))) (h3:w.heap[gR]? = some (.cells #[.slice R l.length cl] 29 (0,0)))
  (hP:HL Prof.cells w P p cp) (hR:HRs w R l cl) (x:Arrow) (wv:Bool) {i j k:Nat} (hi:i < p.length) (hj:j < p.length) (hk:k < l.length) (hp:p.length <= 24) (e1:x.fr = (i:Nat)) (e2:x.to = (j:Nat)) (e3:x.rule = (k:Nat)) :
  CallsV C.P 116 #[x.val,.bool wv,.pointer (some ⟨gP,0,none⟩),.pointer (some ⟨gR,0,none⟩)] w fun v w' => v = (causeC l p x wv).val ∧ Ext w w':=by
 obtain ⟨own,hown⟩:∃ own,own = p[i]:=⟨_,rfl⟩
 obtain ⟨oth,hoth⟩:∃ oth,oth = p[j]:=⟨_,rfl⟩
 obtain ⟨rl,hrl⟩:∃ rl,rl = l[k]:=⟨_,rfl⟩
 have hc:causeC l p x wv = ⟨x.fr,x.to,own,oth,x.rule,rl.name,wv⟩:=by
  unfold causeC
  rw [e1,e2,e3]
  simp only [Int.toNat_natCast,List.getD_eq_getElem?_getD,List.getElem?_eq_getElem hi,List.getElem?_eq_getElem hj,List.getElem?_eq_getElem hk,Option.getD_some,hown,hoth,hrl]
 rw [hc]
 refine callsV_of C_ok (args:=[_,_,_,_]) (plans:=plans116) Tryz.func116 rfl Tryz.ntmps116 (by kernel_rfl) (Nat.le_of_ble_eq_true rfl) ?_
 intro g4 w1 h1
 have M:Mem w w1 [(g4,.cells x.cells.toArray 60 (0,0))]:=(Mem.start w).alloc h1
 intro g6 w2 h4
 have M:Mem w w2 [(g6,.cells causeZ.cells.toArray 83 (0,0)),(g4,.cells x.cells.toArray 60 (0,0))]:=M.alloc h4
 obtain ⟨b1,o1,hA1,hc1⟩:=(hP.ext M.ext).at (k:=7) (fun _ => rfl) (by omega) hi
 obtain ⟨b2,o2,hA2,hc2⟩:=(hP.ext M.ext).at (k:=7) (fun _ => rfl) (by omega) hj
 obtain ⟨b3,o3,hA3,hc3⟩:=(hR.ext M.ext).at hk
 rw [<-hown] at hc1
 rw [<-hoth] at hc2
 rw [<-hrl] at hc3
 have q2:=cell_of_block (i:=0) (M.ext.heap h2) rfl
 have q3:=cell_of_block (i:=0) (M.ext.heap h3) rfl
 clear h1 h4
 refine ⟨_,M.cell 1 (i:=0) rfl rfl,?_⟩
 refine ⟨_,M.cell 1 (i:=1) rfl rfl,?_⟩
 refine ⟨_,q2,?_⟩
 refine ⟨_,M.cell 1 (i:=0) rfl rfl,?_⟩
 refine ⟨i,b1,o1,e1,hi,hA1,?_⟩
 refine ⟨own.cells,rfl,hc1,?_⟩
 refine ⟨_,q2,?_⟩
 refine ⟨_,M.cell 1 (i:=1) rfl rfl,?_⟩
 refine ⟨j,b2,o2,e2,hj,hA2,?_⟩
 refine ⟨oth.cells,rfl,hc2,?_⟩
 refine ⟨_,M.cell 1 (i:=2) rfl rfl,?_⟩
 refine ⟨_,q3,?_⟩
 refine ⟨_,M.cell 1 (i:=2) rfl rfl,?_⟩
 refine ⟨k,b3,o3,e3,hk,hA3,?_⟩
 refine ⟨_,hc3 0 _ rfl,?_⟩
 refine ⟨rfl,_,_,M.get 0 rfl,Nat.le_of_ble_eq_true rfl,rfl,?_⟩
 intro w3 h5
 have M:Mem w w3 [(g6,.cells (Cause.mk x.fr x.to own oth x.rule rl.name wv).cells.toArray 83 (0,0)),(g4,.cells x.cells.toArray 60 (0,0))]:=M.put 0 rfl h5
 refine ⟨(Cause.mk x.fr x.to own oth x.rule rl.name wv).cells,rfl,M.rd 0 rfl,?_⟩
 exact ⟨rfl,M.ext⟩
structure CB where
 gl:Nat
 ga:Nat
 gb:Nat
 gc:Nat
 gall:Nat
 gp:Nat
 gr:Nat
 A1:Option Addr
 c1:Nat
 A2:Option Addr
 c2:Nat
 P:Option Addr
 cp:Nat
def CB.caps (k:CB):List Value:=[.pointer (some ⟨k.gl,0,none⟩),.pointer (some ⟨k.ga,0,none⟩),.pointer (some ⟨k.gb,0,none⟩),.pointer (some ⟨k.gc,0,none⟩),.pointer (some ⟨k.gall,0,none⟩)]
structure CFacts (W:World) (B:Nat) (N a b:Int) (X Y:List Arrow) (p:List Prof) (n:Nat) (R:Option Addr) (cl:Nat) (k:CB):Prop where
 left:W.heap[k.gl]? = some (.cells #[.int .i64 N,.slice k.A1 X.length k.c1] 49 (0,0))
 av:W.heap[k.ga]? = some (.cells #[.int .i64 a] 3 (0,0))
 bv:W.heap[k.gb]? = some (.cells #[.int .i64 b] 3 (0,0))
 cv:W.heap[k.gc]? = some (.cells #[.func (.func 116) #[] #[.pointer (some ⟨k.gp,0,none⟩),.pointer (some ⟨k.gr,0,none⟩)]] 169 (0,0))
 all:W.heap[k.gall]? = some (.cells #[.int .i64 N,.slice k.A2 Y.length k.c2] 49 (0,0))
 pv:W.heap[k.gp]? = some (.cells #[.slice k.P p.length k.cp] 31 (0,0))
 rv:W.heap[k.gr]? = some (.cells #[.slice R n cl] 29 (0,0))
 low:B <= k.gl ∧ B <= k.ga ∧ B <= k.gb ∧ B <= k.gc ∧ B <= k.gall ∧ B <= k.gp ∧ B <= k.gr
 relX:W.ownsRow B 60 4 (.slice k.A1 X.length k.c1) X.length (arrows X)
 relY:W.ownsRow B 60 4 (.slice k.A2 Y.length k.c2) Y.length (arrows Y)
 prof:NewL Prof.cells 38 7 B W (.slice k.P p.length k.cp) p
theorem ownsRow_keep {D:Nat -> Prop} {w w':World} {base e size n:Nat} {v:Value} {xs:List Value} (h:w.ownsRow base e size v n xs) (he:Keep D w w') (hD:∀ q,base <= q -> q < w.heap.size -> D q):w'.ownsRow base e size v n xs:=by
 obtain ⟨hl,hv | ⟨g,cap,cur,hv,hb,hg,h1⟩⟩:=h
 ·exact ⟨hl,.inl hv⟩
 ·exact ⟨hl,.inr ⟨g,cap,cur,hv,hb,he.heap (hD g hb (lt_of_heap hg)) hg,h1⟩⟩
theorem CFacts.keep {D:Nat -> Prop} {W W':World} {B:Nat} {N a b:Int} {X Y:List Arrow} {p:List Prof} {n:Nat} {R:Option Addr} {cl:Nat} {k:CB} (h:CFacts W B N a b X Y p n R cl k) (he:Keep D W W') (hD:∀ q,B <= q -> q < W.heap.size -> D q):CFacts W' B N a b X Y p n R cl k:=by
 obtain ⟨l1,l2,l3,l4,l5,l6,l7⟩:=h.low
 exact ⟨he.heap (hD _ l1 (lt_of_heap h.left)) h.left,he.heap (hD _ l2 (lt_of_heap h.av)) h.av,he.heap (hD _ l3 (lt_of_heap h.bv)) h.bv,he.heap (hD _ l4 (lt_of_heap h.cv)) h.cv,he.heap (hD _ l5 (lt_of_heap h.all)) h.all,he.heap (hD _ l6 (lt_of_heap h.pv)) h.pv,he.heap (hD _ l7 (lt_of_heap h.rv)) h.rv,
  h.low,ownsRow_keep h.relX he hD,ownsRow_keep h.relY he hD,ownsRow_keep h.prof he hD⟩
theorem hrel_of {w:World} {B:Nat} {N:Int} {A:Option Addr} {X:List Arrow} {c:Nat} (ho:w.ownsRow B 60 4 (.slice A X.length c) X.length (arrows X)) (hN:In64 N) (hx:∀ x ∈ X,In64 x.fr ∧ In64 x.to ∧ In64 x.rule ∧ In64 x.wt) (hl:X.length <= 9223372036854775807):HRel w N A X c:=by
 obtain ⟨A',c',q1,hr1,hc1⟩:=reads_of_owns ho
 cases q1
 exact ⟨hN,hx,hr1,hc1,hl⟩
structure CRel (l:List Rl) (p:List Prof) (ps:List (Int × Int)) (N:Int) (X Y:List Arrow):Prop where
 hp:p.length <= 24
 hz:chkRl l = 0
 hN:N = ((p.length:Nat):Int)
 hX:X = waiveL (relL l p) ps
 hY:Y = relL l p
 hw:∀ x ∈ l,In64 x.weight
theorem CRel.numsY {l:List Rl} {p:List Prof} {ps:List (Int × Int)} {N:Int} {X Y:List Arrow} (h:CRel l p ps N X Y):∀ x ∈ Y,In64 x.fr ∧ In64 x.to ∧ In64 x.rule ∧ In64 x.wt:=by
 rw [h.hY]; exact relL_nums h.hp (chkRl_zero h.hz).1 h.hw
theorem CRel.numsX {l:List Rl} {p:List Prof} {ps:List (Int × Int)} {N:Int} {X Y:List Arrow} (h:CRel l p ps N X Y):∀ x ∈ X,In64 x.fr ∧ In64 x.to ∧ In64 x.rule ∧ In64 x.wt:=by
 intro x hx
 rw [h.hX] at hx
 refine h.numsY x ?_
 rw [h.hY]; exact (waive_mem.1 hx).1
theorem CRel.lenY {l:List Rl} {p:List Prof} {ps:List (Int × Int)} {N:Int} {X Y:List Arrow} (h:CRel l p ps N X Y):Y.length <= 24 * 48:=by rw [h.hY]; exact relL_len l p h.hp
theorem CRel.lenX {l:List Rl} {p:List Prof} {ps:List (Int × Int)} {N:Int} {X Y:List Arrow} (h:CRel l p ps N X Y):X.length <= 24 * 48:=by
 rw [h.hX]; exact Nat.le_trans (waiveL_le _ _) (relL_len l p h.hp)
theorem CRel.in64 {l:List Rl} {p:List Prof} {ps:List (Int × Int)} {N:Int} {X Y:List Arrow} (h:CRel l p ps N X Y):In64 N:=by
 have:=h.hp
 rw [h.hN]; exact ⟨by omega,by omega⟩
theorem relL_waive_nil (xs:List Arrow):waiveL xs [] = xs:=by
 unfold waiveL
 exact List.filter_eq_self.2 fun x _ => by simp
theorem CRel.findX {l:List Rl} {p:List Prof} {ps:List (Int × Int)} {N:Int} {X Y:List Arrow} (h:CRel l p ps N X Y) {a b:Nat} (ha:a < p.length) (hb:b < p.length) :
  arrowS N X (a:Nat) (b:Nat) = if a ≠ b ∧ ruledI l (p.getD a default) (p.getD b default) >= 0 ∧ (((a:Nat):Int),((b:Nat):Int)) ∉ ps then some (arrAt l p a b) else none:=by
 have hv:Valid N X:=by rw [h.hX,h.hN]; exact (relL_valid h.hp h.hz).filter _
 unfold arrowS
 rw [if_pos hv.chk,h.hX]
 exact rel_find h.hp h.hz ps ha hb
theorem CRel.findY {l:List Rl} {p:List Prof} {ps:List (Int × Int)} {N:Int} {X Y:List Arrow} (h:CRel l p ps N X Y) {a b:Nat} (ha:a < p.length) (hb:b < p.length) :
  arrowS N Y (a:Nat) (b:Nat) = if a ≠ b ∧ ruledI l (p.getD a default) (p.getD b default) >= 0 then some (arrAt l p a b) else none:=by
 have h':CRel l p [] N Y Y:=⟨h.hp,h.hz,h.hN,by rw [relL_waive_nil]; exact h.hY,h.hY,h.hw⟩
 rw [h'.findX ha hb]
 by_cases hc:a ≠ b ∧ ruledI l (p.getD a default) (p.getD b default) >= 0
 ·rw [if_pos hc,if_pos ⟨hc.1,hc.2,by simp⟩]
 ·rw [if_neg hc,if_neg (fun e => hc ⟨e.1,e.2.1⟩)]
end Go.Proofs.YtdpdjcopkehdjaaGreat.Rk
namespace Go.Proofs.YtdpdjcopkehdjaaGreat.Rk
open Go.Eng Go.RowKit
def KeepInts (W W':World):Prop:=∀ (q:Nat) (c:Array Value) (fr:Nat × Nat),W.heap[q]? = some (.cells c 3 fr) -> W'.heap[q]? = some (.cells c 3 fr)
theorem ownsRow_ints {w w':World} {base size n:Nat} {v:Value} {xs:List Value} (h:w.ownsRow base 3 size v n xs) (k:KeepInts w w'):w'.ownsRow base 3 size v n xs:=by
 obtain ⟨hl,hv | ⟨g,cap,cur,hv,hb,hg,h1⟩⟩:=h
 ·exact ⟨hl,.inl hv⟩
 ·exact ⟨hl,.inr ⟨g,cap,cur,hv,hb,k g cur _ hg,h1⟩⟩
theorem ChainPost.row {w w':World} {r:Option (List Int)} {v:Value} (h:ChainPost w r v w'):∃ A c,v = .tuple #[.slice A (r.getD []).length c,.bool r.isSome] ∧ w'.ownsRow w.heap.size 3 1 (.slice A (r.getD []).length c) (r.getD []).length (ints (r.getD [])) ∧ Ext w w':=by
 cases r with
 | none =>
  obtain ⟨rfl,e⟩:=h
  exact ⟨none,0,rfl,World.ownsRow_nil _ _ _ _,e⟩
 | some l =>
  obtain ⟨⟨s,rfl,hn⟩,e⟩:=h
  obtain ⟨A,c,rfl,_,_⟩:=hn.slice
  exact ⟨A,c,rfl,hn,e⟩
set_option maxRecDepth 100000 in
set_option maxHeartbeats 16000000 in
theorem causes2_spec {lp:Nat} {J:List Cause -> World -> Prop} {B:Nat} {N:Int} {a b:Nat} {X Y:List Arrow} {p:List Prof} {l:List Rl} {ps:List (Int × Int)} {R:Option Addr} {cl:Nat} {k:CB} {Kp:World -> World -> Prop}
  (hr:CRel l p ps N X Y) (ha:a < p.length) (hb:b < p.length) (hJe:∀ s W W',J s W -> Ext W W' -> J s W') (hJf:∀ s W,J s W -> CFacts W B N (a:Nat) (b:Nat) X Y p l.length R cl k ∧ HRs W R l cl) (hKi:∀ W W',Kp W W' -> KeepInts W W')
  (hY:∀ s x W,J s W -> s.length < 64 -> YieldV C lp #[x.val] W fun v W' => v = .bool true ∧ J (s ++ [x]) W' ∧ Kp W W') {W:World} (h0:J [] W) :
  CallsV C.P 117 (#[.func (.yield lp) #[] #[]] ++ k.caps.toArray) W fun _ W' => J (causesL l p ps a b) W':=by
 have hp24:=hr.hp
 have hlX:=hr.lenX
 have hlY:=hr.lenY
 have hN64:=hr.in64
 obtain ⟨hl24,hgood⟩:=chkRl_zero hr.hz
 have relX:∀ {W:World},CFacts W B N (a:Nat) (b:Nat) X Y p l.length R cl k -> HRel W N k.A1 X k.c1:=fun h => hrel_of h.relX hN64 hr.numsX (by omega)
 have relY:∀ {W:World},CFacts W B N (a:Nat) (b:Nat) X Y p l.length R cl k -> HRel W N k.A2 Y k.c2:=fun h => hrel_of h.relY hN64 hr.numsY (by omega)
 have profs:∀ {W:World},CFacts W B N (a:Nat) (b:Nat) X Y p l.length R cl k -> HL Prof.cells W k.P p k.cp:=fun h => by
  obtain ⟨A,c,e,hh⟩:=h.prof.hl
  cases e
  exact hh
 refine callsV_ofS (args:=[_,_,_,_,_,_]) Tryz.func117 rfl Tryz.ntmps117 C_ok (Nat.le_of_ble_eq_true rfl) ?_
 refine Snd.go C_ok plans117 (by kernel_rfl) ?_
 obtain ⟨F,hR⟩:=hJf _ _ h0
 refine ⟨[.int .i64 N,.slice k.A1 X.length k.c1],rfl,Rd.of_block F.left,?_⟩
 refine ⟨_,cell_of_block (i:=0) F.av rfl,?_⟩
 refine ⟨_,cell_of_block (i:=0) F.bv rfl,?_⟩
 obtain ⟨r,hrr⟩:∃ r,r = chainS N X (a:Nat) (b:Nat):=⟨_,rfl⟩
 have Z:=Chain_spec (relX F) (a:Nat) (b:Nat)
 rw [<-hrr] at Z
 refine Z.mono ?_
 clear Z
 rintro v w1 hch
 obtain ⟨A,c,rfl,hrow,e1⟩:=hch.row
 have J1:=hJe _ _ _ h0 e1
 obtain ⟨ch,hchd⟩:∃ ch,ch = r.getD []:=⟨_,rfl⟩
 obtain ⟨is,his⟩:∃ is,is = r.isSome:=⟨_,rfl⟩
 rw [<-hchd] at hrow ⊢
 rw [<-his]
 have CH:is = true -> ChainIs l p ps ch:=fun h => by
  cases r with
  | none => rw [his] at h; cases h
  | some m =>
   rw [hchd]
   refine chain_is (a:=(a:Nat)) (b:=(b:Nat)) hr.hp hr.hz ?_
   rw [<-hr.hN,<-hr.hX]; exact hrr.symm
 have hch0:is = false -> ch = []:=fun h => by
  cases r with
  | none => exact hchd
  | some m => rw [his] at h; cases h
 have hchl:ch.length <= 25:=by
  cases hh:is with
  | true => exact (CH hh).len
  | false => rw [hch0 hh]; exact Nat.zero_le _
 have hfin:causesL l p ps a b = if is = true then causesTo l p ch (ch.length - 1) else if a ≠ b ∧ ruledI l (p.getD a default) (p.getD b default) >= 0 then [causeC l p (arrAt l p a b) true] else []:=by
  unfold causesL
  rw [<-hr.hN,<-hr.hX,<-hrr]
  cases r with
  | none => rw [his]; rfl
  | some m => rw [his,hchd]; rfl
 have his2:is = false -> ch.length - 1 = 0:=fun h => by rw [hch0 h]; rfl
 clear hrr hchd his
 refine ⟨Snd.join C_ok plans117 (fun _:Unit => [(0,.func (.yield lp) #[] #[]),(1,.pointer (some ⟨k.gl,0,none⟩)),(2,.pointer (some ⟨k.ga,0,none⟩)),(3,.pointer (some ⟨k.gb,0,none⟩)),(4,.pointer (some ⟨k.gc,0,none⟩)),(5,.pointer (some ⟨k.gall,0,none⟩)),(8,.bool is)]) (fun _ w' => J (causesTo l p ch (ch.length - 1)) w') (by kernel_rfl) ?_ ?_⟩
 ·intro _
  refine Snd.loop (fun i:Nat => [(0,.func (.yield lp) #[] #[]),(1,.pointer (some ⟨k.gl,0,none⟩)),(2,.pointer (some ⟨k.ga,0,none⟩)),(3,.pointer (some ⟨k.gb,0,none⟩)),(4,.pointer (some ⟨k.gc,0,none⟩)),(5,.pointer (some ⟨k.gall,0,none⟩)),(7,.slice A ch.length c),(8,.bool is),(9,.int .i64 ((i + 1:Nat):Int))])
   (fun i w' => (i = 0 ∨ i + 1 <= ch.length) ∧ J (causesTo l p ch i) w' ∧ w'.ownsRow W.heap.size 3 1 (.slice A ch.length c) ch.length (ints ch)) (fun i => ch.length - i) 0 ⟨rfl,rfl,rfl,rfl,rfl,rfl,rfl,rfl,rfl,trivial⟩ ⟨.inl rfl,J1,hrow⟩ ?_
  rintro i w2 ⟨hi,hJ,hrow2⟩
  refine Snd.go C_ok plans117 (by kernel_rfl) ?_
  refine brE_dec (fun hlt => ?_) (fun hge => ?_)
  ·have hlti:i + 1 < ch.length:=by have:((i + 1:Nat):Int) < (ch.length:Nat):=hlt; omega
   have hist:is = true:=by
    cases hh:is with
    | true => rfl
    | false => rw [hch0 hh] at hlti; exact absurd hlti (by simp)
   obtain ⟨x,y,hx,hy,hxl,hyl,hxy,hru,hps⟩:=(CH hist).step i hlti
   have hF:=hr.findX hxl hyl
   rw [if_pos ⟨hxy,hru,hps⟩] at hF
   obtain ⟨ar,har⟩:∃ ar,ar = arrAt l p x y:=⟨_,rfl⟩
   rw [<-har] at hF
   have hlt0:=ruledI_lt l (p.getD x default) (p.getD y default)
   obtain ⟨n,hn⟩:=Int.eq_ofNat_of_zero_le hru
   have hnl:n < l.length:=by omega
   have q1:ar.fr = (x:Nat):=by rw [har]; rfl
   have q2:ar.to = (y:Nat):=by rw [har]; rfl
   have q3:ar.rule = (n:Nat):=by rw [har]; exact hn
   have hg1:ch.getD i 0 = (x:Int):=by rw [List.getD_eq_getElem?_getD,List.getElem?_eq_getElem (by omega),<-hx]; rfl
   have hg2:ch.getD (i + 1) 0 = (y:Int):=by rw [List.getD_eq_getElem?_getD,List.getElem?_eq_getElem hlti,<-hy]; rfl
   have hsucc:causesTo l p ch (i + 1) = causesTo l p ch i ++ [causeC l p ar false]:=by
    rw [causesTo_succ,hg1,hg2]
    simp only [Int.toNat_natCast,har]
   refine ⟨Snd.seq (Snd.block (Snd.join C_ok plans117 (fun g:Nat => [(0,.func (.yield lp) #[] #[]),(1,.pointer (some ⟨k.gl,0,none⟩)),(2,.pointer (some ⟨k.ga,0,none⟩)),(3,.pointer (some ⟨k.gb,0,none⟩)),(4,.pointer (some ⟨k.gc,0,none⟩)),(5,.pointer (some ⟨k.gall,0,none⟩)),(7,.slice A ch.length c),(8,.bool is),(9,.int .i64 ((i + 1:Nat):Int)),(10,.pointer (some ⟨g,0,none⟩))])
    (fun g w' => J (causesTo l p ch i) w' ∧ w'.ownsRow W.heap.size 3 1 (.slice A ch.length c) ch.length (ints ch) ∧ w'.heap[g]? = some (.cells ar.cells.toArray 60 (0,0))) (by kernel_rfl) ?_ ?_))⟩
   ·obtain ⟨F2,_⟩:=hJf _ _ hJ
    obtain ⟨A',c',qq,hrd,_⟩:=reads_of_owns hrow2
    cases qq
    obtain ⟨b1,o1,hA1,hc1⟩:=Reads.int hrd (i:=i) (by omega)
    obtain ⟨b2,o2,hA2,hc2⟩:=Reads.int hrd (i:=i + 1) hlti
    rw [hx] at hc1
    rw [hy] at hc2
    refine ⟨[.int .i64 N,.slice k.A1 X.length k.c1],rfl,Rd.of_block F2.left,?_⟩
    refine ⟨((i:Nat):Int),by rw [fit ⟨by omega,by omega⟩]; omega,?_⟩
    refine ⟨i,b1,o1,rfl,by omega,hA1,?_⟩
    refine ⟨_,by simpa using hc1,?_⟩
    refine ⟨i + 1,b2,o2,rfl,hlti,hA2,?_⟩
    refine ⟨_,by simpa using hc2,?_⟩
    have hAr:∀ w',Ext w2 w' -> CallsV C.P 22 #[relVal N k.A1 X.length k.c1,.int .i64 (x:Nat),.int .i64 (y:Nat)] w' fun v w'' => v = .tuple #[ar.val,.bool true] ∧ Ext w' w'':=fun w' e => by
     have Z:=Arrow_spec ((relX F2).ext e) (by omega) (x:Nat) (y:Nat)
     rw [hF] at Z
     exact Z
    refine ⟨?A,?B⟩
    case' A =>
     refine (hAr _ (Ext.refl _)).mono ?_
     rintro v w3 ⟨rfl,e3⟩
     refine ⟨e3,?_⟩
     intro g w4 h4
     refine ⟨h4.ext,?_⟩
     have e4:Ext w2 w4:=e3.trans h4.ext
     have hh:w4.heap[g]? = _:=h4.here
     have hgn:w2.heap.size <= g:=by rw [h4.new]; exact e3.size
    case' B =>
     intro g w3 h3
     refine ⟨h3.ext,?_⟩
     refine (hAr _ h3.ext).mono ?_
     rintro v w4 ⟨rfl,e4'⟩
     refine ⟨e4',?_⟩
     have e4:Ext w2 w4:=h3.ext.trans e4'
     have hh:w4.heap[g]? = _:=e4'.heap h3.here
     have hgn:w2.heap.size <= g:=by rw [h3.new]; exact Nat.le_refl _
    all_goals
     refine ⟨rfl,_,_,hh,Nat.le_of_ble_eq_true rfl,rfl,?_⟩
     intro w5 h5
     have h5:Put w4 g (.cells ar.cells.toArray 60 (0,0)) w5:=h5
     have e5:Ext w2 w5:=h5.ext_of e4 hgn
     exact ⟨⟨g,⟨rfl,rfl,rfl,rfl,rfl,rfl,rfl,rfl,rfl,rfl,trivial⟩,hJe _ _ _ hJ e5,ownsRow_ext hrow2 e5,h5.here⟩⟩
   ·rintro g w3 ⟨hJ3,hrow3,hg3⟩
    obtain ⟨F3,hR3⟩:=hJf _ _ hJ3
    refine Snd.seq (regionYi C_ok (by kernel_rfl) (by kernel_rfl) 4 rfl rfl rfl ?_)
    refine ⟨_,cell_of_block (i:=0) F3.cv rfl,?_⟩
    refine ⟨ar.cells,rfl,Rd.of_block hg3,?_⟩
    refine (cause1_spec F3.pv F3.rv (profs F3) hR3 ar false hxl hyl hnl hp24 q1 q2 q3).mono ?_
    rintro v w4 ⟨rfl,e4⟩
    refine ⟨⟨lp,[_],rfl,rfl,?_⟩⟩
    refine (hY _ (causeC l p ar false) w4 (hJe _ _ _ hJ3 e4) (by rw [causesTo_len]; omega)).mono ?_
    rintro v w5 ⟨rfl,hJ5,hK5⟩
    rw [<-hsucc] at hJ5
    have hrow5:=ownsRow_ints (ownsRow_ext hrow3 e4) (hKi _ _ hK5)
    refine ⟨Snd.cond (b:=false) rfl (fun h => by cases h) (fun _ => Snd.skip ?_)⟩
    refine ⟨Snd.fin C_ok (plans:=plans117) (by kernel_rfl) ?_⟩
    refine ⟨((i + 1 + 1:Nat):Int),fit ⟨by omega,by omega⟩,?_⟩
    exact ⟨⟨i + 1,⟨rfl,rfl,rfl,rfl,rfl,rfl,rfl,rfl,rfl,trivial⟩,⟨.inr (by omega),hJ5,hrow5⟩,by omega⟩⟩
  ·have hge:¬ i + 1 < ch.length:=by have:¬ ((i + 1:Nat):Int) < (ch.length:Nat):=hge; omega
   refine ⟨⟨(),⟨rfl,rfl,rfl,rfl,rfl,rfl,rfl,trivial⟩,?_⟩⟩
   have:ch.length - 1 = i:=by omega
   rw [this]; exact hJ
 ·rintro _ w2 hJ
  obtain ⟨F2,hR2⟩:=hJf _ _ hJ
  refine Snd.go C_ok plans117 (by kernel_rfl) ?_
  refine ⟨[.int .i64 N,.slice k.A2 Y.length k.c2],rfl,Rd.of_block F2.all,?_⟩
  refine ⟨_,cell_of_block (i:=0) F2.av rfl,?_⟩
  refine ⟨_,cell_of_block (i:=0) F2.bv rfl,?_⟩
  obtain ⟨z,has,ea,hhas,hz0⟩:∃ (z:Arrow) (has:Bool),arrowVal (arrowS N Y (a:Nat) (b:Nat)) = .tuple #[z.val,.bool has] ∧ has = decide (a ≠ b ∧ ruledI l (p.getD a default) (p.getD b default) >= 0) ∧ (has = true -> z = arrAt l p a b):=by
   refine ⟨_,_,rfl,?_,?_⟩
   ·rw [hr.findY ha hb]
    split
    ·next hc => exact (decide_eq_true hc).symm
    ·next hc => exact (decide_eq_false hc).symm
   ·rw [hr.findY ha hb]
    split
    ·exact fun _ => rfl
    ·exact fun h => by cases h
  have Z:=Arrow_spec (relY F2) (by omega) (a:Nat) (b:Nat)
  rw [ea] at Z
  refine Z.mono ?_
  clear Z
  rintro v w3 ⟨rfl,e3⟩
  intro g w4 h4
  refine ⟨rfl,_,_,h4.here,Nat.le_of_ble_eq_true rfl,rfl,?_⟩
  intro w5 h5
  have h5:Put w4 g (.cells z.cells.toArray 60 (0,0)) w5:=h5
  have e5:Ext w2 w5:=h5.ext_of (e3.trans h4.ext) (by rw [h4.new]; exact e3.size)
  have hJ5:=hJe _ _ _ hJ e5
  have hg5:=h5.here
  clear h4 h5 e3
  refine ⟨Snd.go C_ok plans117 (by kernel_rfl) ?_⟩
  refine brE_mk (fun hb0 => ?_) (fun hb0 => ?_)
  ·have hisf:is = false:=by simpa using hb0
   rw [his2 hisf] at hJ5
   rw [hisf] at hfin
   have hfin:causesL l p ps a b = if a ≠ b ∧ ruledI l (p.getD a default) (p.getD b default) >= 0 then [causeC l p (arrAt l p a b) true] else []:=hfin.trans (if_neg (by simp))
   refine ⟨Snd.cond (b:=has) rfl (fun h => ?_) (fun h => ?_)⟩
   ·have hcc:a ≠ b ∧ ruledI l (p.getD a default) (p.getD b default) >= 0:=by rw [hhas] at h; exact of_decide_eq_true h
    have hze:=hz0 h
    rw [if_pos hcc,<-hze] at hfin
    have hlt0:=ruledI_lt l (p.getD a default) (p.getD b default)
    obtain ⟨n,hn⟩:=Int.eq_ofNat_of_zero_le hcc.2
    have hnl:n < l.length:=by omega
    have q1:z.fr = (a:Nat):=by rw [hze]; rfl
    have q2:z.to = (b:Nat):=by rw [hze]; rfl
    have q3:z.rule = (n:Nat):=by rw [hze]; exact hn
    obtain ⟨F5,hR5⟩:=hJf _ _ hJ5
    refine regionYi C_ok (by kernel_rfl) (by kernel_rfl) 4 rfl rfl rfl ?_
    refine ⟨_,cell_of_block (i:=0) F5.cv rfl,?_⟩
    refine ⟨z.cells,rfl,Rd.of_block hg5,?_⟩
    refine (cause1_spec F5.pv F5.rv (profs F5) hR5 z true ha hb hnl hp24 q1 q2 q3).mono ?_
    rintro v w6 ⟨rfl,e6⟩
    refine ⟨⟨lp,[_],rfl,rfl,?_⟩⟩
    refine (hY _ (causeC l p z true) w6 (hJe _ _ _ hJ5 e6) (by rw [causesTo_len]; omega)).mono ?_
    rintro v w7 ⟨rfl,hJ7,_⟩
    show J (causesL l p ps a b) w7
    rw [hfin]; exact hJ7
   ·refine Snd.skip ?_
    show J (causesL l p ps a b) w5
    have hcc:¬ (a ≠ b ∧ ruledI l (p.getD a default) (p.getD b default) >= 0):=by rw [hhas] at h; exact of_decide_eq_false h
    rw [hfin,if_neg hcc]; exact hJ5
  ·have hist:is = true:=by simpa using hb0
   refine ⟨Snd.cond (b:=false) rfl (fun h => by cases h) (fun _ => Snd.skip ?_)⟩
   show J (causesL l p ps a b) w5
   rw [hfin,if_pos hist]; exact hJ5
end Go.Proofs.YtdpdjcopkehdjaaGreat.Rk
namespace Go.Proofs.YtdpdjcopkehdjaaGreat.Rk
open Go.Eng Go.RowKit
set_option maxRecDepth 100000 in
set_option maxHeartbeats 8000000 in
theorem causes_spec {w:World} {A R B Q:Option Addr} {f:List Fact} {l:List Rl} {c cl d e:Nat} {gs ps:List (Int × Int)} (hf:HF w A f c) (hl:f.length <= 2 ^ 20) (hR:HRs w R l cl) (hz:chkRl l = 0) (s:Scn) (hr:Reads w B (prCells gs)) (hg:∀ g ∈ gs,In64 g.1) (hgl:gs.length <= 24) (hps:∀ p ∈ ps,In64 p.1 ∧ In64 p.2) (hrp:Reads w Q (prCells ps)) (hpl:ps.length <= 2 ^ 44) (a b:Int) :
  CallsV C.P 60 #[.slice A f.length c,.agg #[.slice R l.length cl],s.val,.slice B gs.length d,.slice Q ps.length e,.int .i64 a,.int .i64 b] w fun v w' =>
   (∃ k:CB,v = .func (.func 117) #[] k.caps.toArray ∧ CFacts w' w.heap.size (((profsOf f s gs).length:Nat):Int) a b (waiveL (relL l (profsOf f s gs)) ps) (relL l (profsOf f s gs)) (profsOf f s gs) l.length R cl k) ∧ Ext w w':=by
 obtain ⟨p,hpe⟩:∃ p,p = profsOf f s gs:=⟨_,rfl⟩
 have hpn:p.length = gs.length:=by rw [hpe]; exact List.length_map _
 obtain ⟨N,hN⟩:∃ N:Int,N = ((p.length:Nat):Int):=⟨_,rfl⟩
 obtain ⟨Y,hY⟩:∃ Y,Y = relL l p:=⟨_,rfl⟩
 obtain ⟨X,hX⟩:∃ X,X = waiveL Y ps:=⟨_,rfl⟩
 have hYl:=relL_len l p (by omega)
 rw [<-hY] at hYl
 obtain ⟨hl24,hgood⟩:=chkRl_zero hz
 have hYn:∀ x ∈ Y,In64 x.fr ∧ In64 x.to ∧ In64 x.rule ∧ In64 x.wt:=by rw [hY]; exact relL_nums (by omega) hl24 fun x hx => (hR.each x hx).weight
 have hN64:In64 N:=by rw [hN]; exact ⟨by omega,by omega⟩
 rw [<-hpe,<-hN,<-hY,<-hX]
 refine callsV_of C_ok (args:=[_,_,_,_,_,_,_]) (plans:=[]) Tryz.func60 rfl Tryz.ntmps60 (by kernel_rfl) (Nat.le_of_ble_eq_true rfl) ?_
 intro g8 w1 h1
 have M:Mem w w1 [(g8,.cells #[.slice R l.length cl] 29 (0,0))]:=(Mem.start w).alloc h1
 intro g9 w2 h2
 have M:Mem w w2 [(g9,.cells s.cells.toArray 24 (0,0)),(g8,.cells #[.slice R l.length cl] 29 (0,0))]:=M.alloc h2
 intro g12 w3 h3
 have M:Mem w w3 [(g12,.cells #[.int .i64 a] 3 (0,0)),(g9,.cells s.cells.toArray 24 (0,0)),(g8,.cells #[.slice R l.length cl] 29 (0,0))]:=M.alloc h3
 intro g13 w4 h4
 have M:Mem w w4 [(g13,.cells #[.int .i64 b] 3 (0,0)),(g12,.cells #[.int .i64 a] 3 (0,0)),(g9,.cells s.cells.toArray 24 (0,0)),(g8,.cells #[.slice R l.length cl] 29 (0,0))]:=M.alloc h4
 clear h1 h2 h3 h4
 refine ⟨s.cells,rfl,M.rd 2 rfl,?_⟩
 have Z:=profiles_spec (c:=c) (d:=d) (hf.ext M.ext) hl s (hr.ext M.ext) hg (by omega)
 rw [<-hpe] at Z
 refine Z.mono ?_
 clear Z
 rintro v w5 ⟨hp5,e5⟩
 have hs4:=M.ext.size
 have M:=M.grow e5
 obtain ⟨P,cp,rfl,hHL5⟩:=hp5.hl
 intro g15 w6 h6
 have M6:=M.alloc h6
 refine ⟨rfl,_,_,M6.get 0 rfl,Nat.le_of_ble_eq_true rfl,rfl,?_⟩
 intro w7 h7
 have M:Mem w w7 [(g15,.cells #[.slice P p.length cp] 31 (0,0)),(g13,.cells #[.int .i64 b] 3 (0,0)),(g12,.cells #[.int .i64 a] 3 (0,0)),(g9,.cells s.cells.toArray 24 (0,0)),(g8,.cells #[.slice R l.length cl] 29 (0,0))]:=M6.put 0 rfl h7
 have e57:Ext w5 w7:=h7.ext_of h6.ext (by rw [h6.new]; exact Nat.le_refl _)
 have hp7:=(hp5.ext e57).base hs4
 have hHL7:=hHL5.ext e57
 clear M6 h6 h7 hp5 hHL5
 refine ⟨[.slice R l.length cl],rfl,M.rd 4 rfl,?_⟩
 refine ⟨_,M.cell 0 rfl rfl,?_⟩
 have Z:=relate_spec (hR.ext M.ext) hHL7 (by omega)
 rw [<-hY] at Z
 refine Z.mono ?_
 clear Z
 rintro v w8 ⟨hrel,e8⟩
 rw [<-hN] at hrel
 have hs7:=M.ext.size
 have M:=M.grow e8
 have hp8:=hp7.ext e8
 obtain ⟨A2,c2,rfl,hoY⟩:=hrel
 intro g16 w9 h9
 have M9:=M.alloc h9
 refine ⟨rfl,_,_,M9.get 0 rfl,Nat.le_of_ble_eq_true rfl,rfl,?_⟩
 intro w10 h10
 have M:Mem w w10 [(g16,.cells #[.int .i64 N,.slice A2 Y.length c2] 49 (0,0)),(g15,.cells #[.slice P p.length cp] 31 (0,0)),(g13,.cells #[.int .i64 b] 3 (0,0)),(g12,.cells #[.int .i64 a] 3 (0,0)),(g9,.cells s.cells.toArray 24 (0,0)),(g8,.cells #[.slice R l.length cl] 29 (0,0))]:=M9.put 0 rfl h10
 have e810:Ext w8 w10:=h10.ext_of h9.ext (by rw [h9.new]; exact Nat.le_refl _)
 have hoY10:=ownsRow_base (ownsRow_ext hoY e810) hs7
 have hp10:=hp8.ext e810
 clear M9 h9 h10 hoY hp7 hp8
 refine ⟨[.int .i64 N,.slice A2 Y.length c2],rfl,M.rd 0 rfl,?_⟩
 refine (waive_spec (hrel_of hoY10 hN64 hYn (by omega)) (by omega) hps (hrp.ext M.ext) hpl).mono ?_
 rintro v w11 ⟨⟨A1,c1,rfl,hoX⟩,e11⟩
 rw [<-hX] at hoX ⊢
 have hs10:=M.ext.size
 have M:=M.grow e11
 have hoY11:=ownsRow_ext hoY10 e11
 have hp11:=hp10.ext e11
 intro g17 w12 h12
 have M12:=M.alloc h12
 refine ⟨rfl,_,_,M12.get 0 rfl,Nat.le_of_ble_eq_true rfl,rfl,?_⟩
 intro w13 h13
 have M:Mem w w13 [(g17,.cells #[.int .i64 N,.slice A1 X.length c1] 49 (0,0)),(g16,.cells #[.int .i64 N,.slice A2 Y.length c2] 49 (0,0)),(g15,.cells #[.slice P p.length cp] 31 (0,0)),(g13,.cells #[.int .i64 b] 3 (0,0)),(g12,.cells #[.int .i64 a] 3 (0,0)),(g9,.cells s.cells.toArray 24 (0,0)),(g8,.cells #[.slice R l.length cl] 29 (0,0))]:=M12.put 0 rfl h13
 have e1113:Ext w11 w13:=h13.ext_of h12.ext (by rw [h12.new]; exact Nat.le_refl _)
 have hoX13:=ownsRow_base (ownsRow_ext hoX e1113) hs10
 have hoY13:=ownsRow_ext hoY11 e1113
 have hp13:=hp11.ext e1113
 clear M12 h12 h13 hoX hoY10 hoY11 hp10 hp11
 refine ⟨[],[.pointer (some ⟨g15,0,none⟩),.pointer (some ⟨g8,0,none⟩)],rfl,rfl,?_⟩
 intro g18 w14 h14
 have M14:=M.alloc h14
 refine ⟨rfl,_,_,M14.get 0 rfl,Nat.le_of_ble_eq_true rfl,rfl,?_⟩
 intro w15 h15
 have M:Mem w w15 [(g18,.cells #[.func (.func 116) #[] #[.pointer (some ⟨g15,0,none⟩),.pointer (some ⟨g8,0,none⟩)]] 169 (0,0)),(g17,.cells #[.int .i64 N,.slice A1 X.length c1] 49 (0,0)),(g16,.cells #[.int .i64 N,.slice A2 Y.length c2] 49 (0,0)),(g15,.cells #[.slice P p.length cp] 31 (0,0)),(g13,.cells #[.int .i64 b] 3 (0,0)),(g12,.cells #[.int .i64 a] 3 (0,0)),(g9,.cells s.cells.toArray 24 (0,0)),(g8,.cells #[.slice R l.length cl] 29 (0,0))]:=M14.put 0 rfl h15
 have e1315:Ext w13 w15:=h15.ext_of h14.ext (by rw [h14.new]; exact Nat.le_refl _)
 clear M14 h14 h15
 refine ⟨[],[.pointer (some ⟨g17,0,none⟩),.pointer (some ⟨g12,0,none⟩),.pointer (some ⟨g13,0,none⟩),.pointer (some ⟨g18,0,none⟩),.pointer (some ⟨g16,0,none⟩)],rfl,rfl,?_⟩
 refine ⟨⟨⟨g17,g12,g13,g18,g16,g15,g8,A1,c1,A2,c2,P,cp⟩,rfl,?_⟩,M.ext⟩
 exact ⟨M.get 1 rfl,M.get 5 rfl,M.get 4 rfl,M.get 0 rfl,M.get 2 rfl,M.get 3 rfl,M.get 7 rfl,⟨M.new 1 rfl,M.new 5 rfl,M.new 4 rfl,M.new 0 rfl,M.new 2 rfl,M.new 3 rfl,M.new 7 rfl⟩,ownsRow_ext hoX13 e1315,ownsRow_ext hoY13 e1315,hp13.ext e1315⟩
theorem ext_of_keep {D:Nat -> Prop} {w w9 W:World} (e:Ext w w9) (k:Keep D w9 W) (h:∀ q,q < w.heap.size -> D q):Ext w W :=
 ⟨k.os.trans e.os,k.tape.trans e.tape,k.output.trans e.output,Nat.le_trans e.size k.size,fun q hq => (k.block q (h q hq) (Nat.lt_of_lt_of_le hq e.size)).trans (e.block q hq)⟩
theorem ownsRow_other {w w':World} {base e size n:Nat} {v:Value} {xs:List Value} (h:w.ownsRow base e size v n xs) {g:Nat} {o:Obj} (p:Put w g o w') (hne:∀ c t fr,w.heap[g]? ≠ some (.cells c t fr)):w'.ownsRow base e size v n xs :=
 ownsRow_put h p fun eq => by
  obtain ⟨_,hv | ⟨g',cap,cur,hv,hb,hg,h1⟩⟩:=h
  ·rw [hv.1] at eq; cases eq
  ·rw [hv] at eq
   have eq:g' = g:=by simpa [Value.ownBlock] using eq
   subst eq
   exact hne _ _ _ hg
theorem ownsRow_type {w:World} {base e size n g t:Nat} {v:Value} {xs:List Value} {c:Array Value} {fr:Nat × Nat} (h:w.ownsRow base e size v n xs) (hq:w.heap[g]? = some (.cells c t fr)) (hne:t ≠ e):v.ownBlock ≠ some g:=fun eq => by
 obtain ⟨_,hv | ⟨g',cap,cur,hv,hb,hg,h1⟩⟩:=h
 ·rw [hv.1] at eq; cases eq
 ·rw [hv] at eq
  have eq:g' = g:=by simpa [Value.ownBlock] using eq
  subst eq
  rw [hq] at hg
  cases hg
  exact hne rfl
def causesE (k:Int) (n:Nat) (a b:Int):Int:=if k ≠ 0 then k else if (0 <= a ∧ a <= (n:Int) - 1) ∧ (0 <= b ∧ b <= (n:Int) - 1) then 0 else 1
end Go.Proofs.YtdpdjcopkehdjaaGreat.Rk
namespace Go.Proofs.YtdpdjcopkehdjaaGreat.Rk
open Go.Eng Go.RowKit
theorem cause_row {w:World} {v:Value} {B:Nat} {s:List Cause} (h:NewL Cause.cells 83 19 B w v s):∃ A n c,v = .slice A n c:=by
 obtain ⟨A,c,e,_,_⟩:=reads_of_owns h
 exact ⟨A,_,c,e⟩
set_option maxRecDepth 100000 in
set_option maxHeartbeats 16000000 in
theorem Causes_spec {w:World} {A R B Q:Option Addr} {f:List Fact} {l:List Rl} {c cl d e:Nat} {gs ps:List (Int × Int)} (hf:HF w A f c) (hl:f.length <= 2 ^ 20) (hR:HRs w R l cl) (s:Scn) (hr:Reads w B (prCells gs)) (hg:∀ g ∈ gs,In64 g.1) (hgcap:gs.length <= 2 ^ 40) (hps:∀ p ∈ ps,In64 p.1 ∧ In64 p.2) (hrp:Reads w Q (prCells ps)) (hpl:ps.length <= 2 ^ 44) (a b:Int) :
  CallsV C.P 25 #[.slice A f.length c,.agg #[.slice R l.length cl],s.val,.slice B gs.length d,.slice Q ps.length e,.int .i64 a,.int .i64 b] w fun v w' =>
   (∃ u,v = .tuple #[u,.int .i64 (causesE (chkR f (chkRl l) s gs) gs.length a b)] ∧ NewL Cause.cells 83 19 w.heap.size w' u (if causesE (chkR f (chkRl l) s gs) gs.length a b = 0 then causesL l (profsOf f s gs) ps a.toNat b.toNat else [])) ∧ Ext w w':=by
 obtain ⟨k,hk⟩:∃ k,k = chkR f (chkRl l) s gs:=⟨_,rfl⟩
 obtain ⟨E,hE⟩:∃ E,E = causesE k gs.length a b:=⟨_,rfl⟩
 obtain ⟨L,hL⟩:∃ L,L = (if E = 0 then causesL l (profsOf f s gs) ps a.toNat b.toNat else []):=⟨_,rfl⟩
 rw [<-hk,<-hE,<-hL]
 have hE':E = if k ≠ 0 then k else if (0 <= a ∧ a <= ((gs.length:Nat):Int) - 1) ∧ (0 <= b ∧ b <= ((gs.length:Nat):Int) - 1) then 0 else 1:=hE
 refine callsV_ofR (args:=[_,_,_,_,_,_,_]) Tryz.func25 rfl Tryz.ntmps25 (Nat.le_of_ble_eq_true rfl) ?_
 refine SndR.go C_ok [] (by kernel_rfl) ?_
 intro g8 w1 h1
 have M:Mem w w1 [(g8,.cells #[.slice R l.length cl] 29 (0,0))]:=(Mem.start w).alloc h1
 intro g9 w2 h2
 have M:Mem w w2 [(g9,.cells s.cells.toArray 24 (0,0)),(g8,.cells #[.slice R l.length cl] 29 (0,0))]:=M.alloc h2
 clear h1 h2
 refine ⟨SndR.go C_ok [] (by kernel_rfl) ?_⟩
 refine ⟨s.cells,rfl,M.rd 0 rfl,?_⟩
 have X:=check_spec (p:=some ⟨g8,0,none⟩) (re:=chkRl l) (c:=c) (d:=d) (hf.ext M.ext) hl s (hr.ext M.ext) (fun w' g5 e5 h5 => someRules ((hR.ext M.ext).ext e5) (e5.heap (M.get 1 rfl)) h5)
 rw [<-hk] at X
 refine X.mono ?_
 clear X
 rintro v w4 ⟨rfl,e4⟩
 have M:=M.grow e4
 have stop:∀ (K':Int) (w':World),K' = E -> E ≠ 0 -> Ext w w' -> (∃ u,(Value.tuple #[.slice none 0 0,.int .i64 K']) = .tuple #[u,.int .i64 E] ∧ NewL Cause.cells 83 19 w.heap.size w' u L) ∧ Ext w w':=by
  intro K' w' h1 h2 h3
  refine ⟨⟨_,by rw [h1],?_⟩,h3⟩
  rw [hL,if_neg h2]
  exact newL_nil
 refine brE_ndec (fun c0 => ?_) (fun c0 => ?_)
 ·have c0:k ≠ 0:=c0
  rw [if_pos c0] at hE'
  exact stop k w4 hE'.symm (by rw [hE']; exact c0) M.ext
 have c0:k = 0:=c0
 rw [if_neg (fun h => h c0)] at hE'
 obtain ⟨hcf,hz,_,hgz⟩:=chkR_zero (hk.symm.trans c0)
 have hgl:=gchk_len hgz
 obtain ⟨n,hn⟩:∃ n,n = gs.length:=⟨_,rfl⟩
 refine ⟨SndR.go C_ok [] (by kernel_rfl) ?_⟩
 obtain ⟨hi,hhi⟩:∃ hi:Int,hi = ((gs.length:Nat):Int) - 1:=⟨_,rfl⟩
 have hsub:IntKind.i64.wrap (((gs.length:Nat):Int) - 1) = hi:=by rw [hhi]; exact fit ⟨by omega,by omega⟩
 rw [<-hhi] at hE'
 refine ⟨_,hsub,?_⟩
 refine (in_spec a 0 hi _).mono ?_
 rintro v w5 ⟨rfl,rfl⟩
 refine brE_ndec (fun c1 => ?_) (fun c1 => ?_)
 ·rw [if_neg (fun h => c1 h.1)] at hE'
  exact stop 1 _ hE'.symm (by rw [hE']; decide) M.ext
 refine ⟨_,hsub,?_⟩
 refine (in_spec b 0 hi _).mono ?_
 rintro v w6 ⟨rfl,rfl⟩
 refine brE_ndec (fun c2 => ?_) (fun c2 => ?_)
 ·rw [if_neg (fun h => c2 h.2)] at hE'
  exact stop 1 _ hE'.symm (by rw [hE']; decide) M.ext
 have c1:0 <= a ∧ a <= hi:=c1
 have c2:0 <= b ∧ b <= hi:=c2
 rw [if_pos ⟨c1,c2⟩] at hE'
 rw [if_pos hE'] at hL
 obtain ⟨i,rfl⟩:=Int.eq_ofNat_of_zero_le c1.1
 obtain ⟨j,rfl⟩:=Int.eq_ofNat_of_zero_le c2.1
 simp only [Int.toNat_natCast] at hL
 obtain ⟨p,hpe⟩:∃ p,p = profsOf f s gs:=⟨_,rfl⟩
 have hpn:p.length = gs.length:=by rw [hpe]; exact List.length_map _
 rw [<-hpe] at hL
 have hip:i < p.length:=by omega
 have hjp:j < p.length:=by omega
 refine ⟨SndR.go C_ok [] (by kernel_rfl) ?_⟩
 intro g17 w7 h7
 have M:Mem w w7 [(g17,.cells #[.slice none 0 0] 73 (0,0)),(g9,.cells s.cells.toArray 24 (0,0)),(g8,.cells #[.slice R l.length cl] 29 (0,0))]:=M.alloc h7
 have hg17:g17 < w7.heap.size:=by rw [h7.size,h7.new]; exact Nat.lt_succ_self _
 have hg17w:w.heap.size <= g17:=M.new 0 rfl
 clear h7
 refine ⟨SndR.go2 C_ok [] (by kernel_rfl) ?_⟩
 refine ⟨[.slice R l.length cl],rfl,M.rd 2 rfl,?_⟩
 refine ⟨s.cells,rfl,M.rd 1 rfl,?_⟩
 have X:=causes_spec (c:=c) (d:=d) (e:=e) (hf.ext M.ext) hl (hR.ext M.ext) hz s (hr.ext M.ext) hg (by omega) hps (hrp.ext M.ext) hpl (i:Nat) (j:Nat)
 rw [<-hpe] at X
 obtain ⟨N,hN⟩:∃ N:Int,N = ((p.length:Nat):Int):=⟨_,rfl⟩
 obtain ⟨Y,hY⟩:∃ Y,Y = relL l p:=⟨_,rfl⟩
 obtain ⟨Xr,hX⟩:∃ Xr,Xr = waiveL Y ps:=⟨_,rfl⟩
 rw [<-hN,<-hY,<-hX] at X
 refine X.mono ?_
 clear X
 rintro v w9 ⟨⟨kb,rfl,F9⟩,e9⟩
 have hrel:CRel l p ps N Xr Y:=⟨by omega,hz,hN,by rw [hX,hY],hY,fun x hx => (hR.each x hx).weight⟩
 have hg17':g17 < w9.heap.size:=Nat.lt_of_lt_of_le hg17 e9.size
 have M:=M.grow e9
 obtain ⟨D,hD⟩:∃ D:Nat -> Prop,D = fun q => q ≠ g17 ∧ q < w9.heap.size:=⟨_,rfl⟩
 have hDl:∀ q,w7.heap.size <= q -> q < w9.heap.size -> D q:=fun q h1 h2 => by rw [hD]; exact ⟨by omega,h2⟩
 have hDw:∀ q,q < w.heap.size -> D q:=fun q hq => by rw [hD]; exact ⟨by omega,Nat.lt_of_lt_of_le hq M.ext.size⟩
 refine ⟨SndR2.range C_ok (by kernel_rfl) (by kernel_rfl) (by kernel_rfl) (by kernel_rfl) (by kernel_rfl) (by kernel_rfl) (Nat.lt_of_lt_of_le (Nat.lt_succ_self 48) (Nat.le_of_ble_eq_true rfl)) (gf:=117) (cap:=kb.caps.toArray) rfl rfl Cause.val
  (fun L' W => Keep D w9 W ∧ ∃ u,W.heap[g17]? = some (.cells #[u] 73 (0,0)) ∧ NewL Cause.cells 83 19 w9.heap.size W u L') KeepInts 64 (xs:=L)
  ⟨Keep.refl _ _,_,M.get 0 rfl,newL_nil⟩ ?_ ?_ ?_ ?_ ?_ ?_⟩
 ·rintro s' W W' ⟨hk',u,hu,hn'⟩ ee
  exact ⟨hk'.ext ee,u,ee.heap hu,hn'.ext ee⟩
 ·rintro s' W W' q o r hq hlp ⟨hk',u,hu,hn'⟩ hput
  refine ⟨hk'.put hput (by rw [hD]; rintro ⟨_,h⟩; omega),u,?_,ownsRow_other hn' hput (fun c t fr hh => by rw [hlp] at hh; cases hh)⟩
  rw [hput.there g17 (by omega)]; exact hu
 ·intro W W' W'' q o r hKW hlp hput q' c' fr hq'
  have h1:=hKW q' c' fr hq'
  rw [hput.there q' (fun ee => by subst ee; rw [hlp] at h1; cases h1)]
  exact h1
 ·rintro lp db hlp hdb hne s' x W ⟨hk',u,hu,hn'⟩ hlen ⟨rr,hrr⟩ hdd
  obtain ⟨A0,n0,c0',rfl⟩:=cause_row hn'
  have hWs:=hk'.size
  intro g18 W1 H1
  refine ⟨rfl,_,_,H1.here,Nat.le_of_ble_eq_true rfl,rfl,?_⟩
  intro W2 H2
  have H2:Put W1 g18 (.cells x.cells.toArray 83 (0,0)) W2:=H2
  have E2:Ext W W2:=H2.ext_of H1.ext (by rw [H1.new]; exact Nat.le_refl _)
  have hg18:g18 = W.heap.size:=H1.new
  refine ⟨⟨by rw [E2.heap hrr,hrr],by rw [E2.heap hdd,hdd]⟩,⟨fun o W3 H3 => ?_⟩⟩
  have hlpW:lp < W.heap.size:=lt_of_heap hrr
  have hdbW:db < W.heap.size:=lt_of_heap hdd
  have hu3:W3.heap[g17]? = some (.cells #[.slice A0 n0 c0'] 73 (0,0)):=by rw [H3.there g17 (by omega)]; exact E2.heap hu
  have hx3:W3.heap[g18]? = some (.cells x.cells.toArray 83 (0,0)):=by rw [H3.there g18 (by omega)]; exact H2.here
  have hn3:NewL Cause.cells 83 19 w9.heap.size W3 (.slice A0 n0 c0') s':=ownsRow_other (hn'.ext E2) H3 (fun c t fr hh => by rw [E2.heap hrr] at hh; cases hh)
  have hk3:Keep D w9 W3:=(hk'.ext E2).put H3 (by rw [hD]; rintro ⟨_,h⟩; omega)
  have hi3:KeepInts W W3:=fun q c fr hq => by
   rw [H3.there q (fun ee => by subst ee; rw [hrr] at hq; cases hq)]
   exact E2.heap hq
  have hs3:w9.heap.size <= W3.heap.size:=hk3.size
  refine ⟨_,cell_of_block (i:=0) hu3 rfl,?_⟩
  refine ⟨x.cells,rfl,Rd.of_block hx3,?_⟩
  intro g19 W4 H4
  have hn4:=hn3.ext H4.ext
  refine ⟨rfl,rfl,rfl,w9.heap.size,_,_,x.cells,hn4,Nat.le_trans hs3 H4.ext.size,Nat.le_of_ble_eq_true rfl,rfl,rfl,.inr ⟨g19,0,rfl,Rd.of_block H4.here⟩,rfl,rfl,by omega,by simp only [maxLen]; omega,?_⟩
  intro v5 W5 ho5 hg5 _
  have ho5:NewL Cause.cells 83 19 w9.heap.size W5 v5 (s' ++ [x]):=by
   unfold NewL
   rw [List.length_append,List.flatMap_append]
   simpa using ho5
  obtain ⟨A5,n5,c5,rfl⟩:=cause_row ho5
  have keepB:∀ (q:Nat) (ob:Obj),W4.heap[q]? = some ob -> (∀ c fr,ob ≠ .cells c 83 fr) -> W5.heap[q]? = some ob:=fun q ob hq hne' => by
   rw [hg5.block q (lt_of_heap hq) (fun ee => ?_)]
   ·exact hq
   ·obtain ⟨_,hv | ⟨g',cap,cur,hv,hb,hgg,h1⟩⟩:=hn4
    ·rw [hv.1] at ee; cases ee
    ·rw [hv] at ee
     have ee:q = g':=by simpa [Value.ownBlock] using ee
     subst ee
     rw [hgg] at hq
     cases hq
     exact hne' _ _ rfl
  have hu5:=keepB _ _ (H4.ext.heap hu3) (fun c fr hh => by cases hh)
  refine ⟨rfl,_,_,hu5,Nat.le_of_ble_eq_true rfl,rfl,?_⟩
  intro W6 H6
  have H6:Put W5 g17 (.cells #[.slice A5 n5 c5] 73 (0,0)) W6:=H6
  have hk5:Keep D w9 W5:=by
   refine ⟨hg5.os.trans (hk3.ext H4.ext).os,hg5.tape.trans (hk3.ext H4.ext).tape,hg5.output.trans (hk3.ext H4.ext).output,Nat.le_trans (hk3.ext H4.ext).size hg5.size,fun q hDq hq => ?_⟩
   rw [hg5.block q (Nat.lt_of_lt_of_le hq (hk3.ext H4.ext).size) (fun ee => ?_)]
   ·exact (hk3.ext H4.ext).block q hDq hq
   ·have:=(hn4.lt q ee.symm).1
    omega
  refine ⟨⟨⟨hk5.put H6 (by rw [hD]; rintro ⟨h,_⟩; exact h rfl),_,H6.here,ownsRow_put ho5 H6 (ownsRow_type ho5 hu5 (by decide))⟩,?_⟩,?_,?_⟩
  ·intro q c fr hq
   have h4:=H4.ext.heap (hi3 q c fr hq)
   have h5:=keepB _ _ h4 (fun c fr hh => by cases hh)
   rw [H6.there q (fun ee => by subst ee; rw [hu5] at h5; cases h5)]
   exact h5
  ·rw [H6.there lp (by omega)]
   exact keepB _ _ (H4.ext.heap H3.here) (fun c fr hh => by cases hh)
  ·rw [H6.there db (by omega)]
   have h3:W3.heap[db]? = some (.deferred (some [])):=by rw [H3.there db (fun ee => hne ee.symm)]; exact E2.heap hdd
   rw [h3]
   exact keepB _ _ (H4.ext.heap h3) (fun c fr hh => by cases hh)
 ·intro lp J W hJe hJI hJY hJ0
  rw [hL]
  exact causes2_spec (B:=w7.heap.size) (N:=N) (X:=Xr) (Y:=Y) (p:=p) (l:=l) (ps:=ps) (R:=R) (cl:=cl) (k:=kb) (Kp:=KeepInts) hrel hip hjp hJe (fun s' W' hJ => by
   have hk':=(hJI s' W' hJ).1
   exact ⟨F9.keep hk' hDl,hR.ext (ext_of_keep M.ext hk' hDw)⟩) (fun _ _ h => h) hJY hJ0
 ·rintro W db ⟨hk',u,hu,hn'⟩ hdb hdd
  refine ⟨_,cell_of_block (i:=0) hu rfl,?_⟩
  refine ⟨hdd,fun W3 H3 => ?_⟩
  have hk3:Keep D w9 W3:=hk'.put H3 (by rw [hD]; rintro ⟨_,h⟩; omega)
  refine ⟨⟨u,by rw [hE']; rfl,?_⟩,ext_of_keep M.ext hk3 hDw⟩
  exact NewL.base (ownsRow_other hn' H3 (fun c t fr hh => by rw [hdd] at hh; cases hh)) M.ext.size
end Go.Proofs.YtdpdjcopkehdjaaGreat.Rk
namespace Go.Proofs.YtdpdjcopkehdjaaGreat.Rk
open Go.Eng Go.RowKit
theorem inR_range {N a:Int} (h:inR N a = true):0 <= a ∧ a <= N - 1:=of_decide_eq_true h
theorem inR_not {N a:Int} (h:inR N a = false):¬ (0 <= a ∧ a <= N - 1):=of_decide_eq_false h
set_option maxRecDepth 100000 in
set_option maxHeartbeats 16000000 in
theorem refCauses_spec {w:World} {A R B Q:Option Addr} {f:List Fact} {l:List Rl} {c cl d e:Nat} {gs ps:List (Int × Int)} (hf:HF w A f c) (hl:f.length <= 2 ^ 20) (hR:HRs w R l cl) (s:Scn) (hr:Reads w B (prCells gs)) (hg:∀ g ∈ gs,In64 g.1) (hrp:Reads w Q (prCells ps)) (hpl:ps.length <= 2 ^ 44) (a b:Int) :
  CallsV C.P 26 #[.slice A f.length c,.agg #[.slice R l.length cl],s.val,.slice B gs.length d,.slice Q ps.length e,.int .i64 a,.int .i64 b] w fun v w' =>
   (∃ u,v = .tuple #[u,.int .i64 (causesE (chkR f (chkRl l) s gs) gs.length a b)] ∧ NewL Cause.cells 83 19 w.heap.size w' u (if causesE (chkR f (chkRl l) s gs) gs.length a b = 0 then causesL l (profsOf f s gs) ps a.toNat b.toNat else [])) ∧ Ext w w':=by
 obtain ⟨k,hk⟩:∃ k,k = chkR f (chkRl l) s gs:=⟨_,rfl⟩
 obtain ⟨E,hE⟩:∃ E,E = causesE k gs.length a b:=⟨_,rfl⟩
 obtain ⟨L,hL⟩:∃ L,L = (if E = 0 then causesL l (profsOf f s gs) ps a.toNat b.toNat else []):=⟨_,rfl⟩
 rw [<-hk,<-hE,<-hL]
 have hE':E = if k ≠ 0 then k else if (0 <= a ∧ a <= ((gs.length:Nat):Int) - 1) ∧ (0 <= b ∧ b <= ((gs.length:Nat):Int) - 1) then 0 else 1:=hE
 refine callsV_ofS (args:=[_,_,_,_,_,_,_]) Tryz.func26 rfl Tryz.ntmps26 C_ok (Nat.le_of_ble_eq_true rfl) ?_
 refine Snd.go C_ok plans26 (by kernel_rfl) ?_
 intro g8 w1 h1
 have M:Mem w w1 [(g8,.cells #[.slice R l.length cl] 29 (0,0))]:=(Mem.start w).alloc h1
 intro g9 w2 h2
 have M:Mem w w2 [(g9,.cells s.cells.toArray 24 (0,0)),(g8,.cells #[.slice R l.length cl] 29 (0,0))]:=M.alloc h2
 clear h1 h2
 refine ⟨Snd.go C_ok plans26 (by kernel_rfl) ?_⟩
 refine ⟨[.slice R l.length cl],rfl,M.rd 1 rfl,?_⟩
 refine ⟨s.cells,rfl,M.rd 0 rfl,?_⟩
 have Z:=refRelate_spec (c:=c) (cl:=cl) (d:=d) (e:=e) (hf.ext M.ext) hl (hR.ext M.ext) s (hr.ext M.ext) hg (hrp.ext M.ext) hpl
 obtain ⟨N,hN⟩:∃ N:Int,N = (if k = 0 then ((gs.length:Nat):Int) else 0):=⟨_,rfl⟩
 obtain ⟨X,hX⟩:∃ X,X = (if k = 0 then waiveL (relL l (profsOf f s gs)) ps else []):=⟨_,rfl⟩
 rw [<-hk,<-hN,<-hX] at Z
 refine Z.mono ?_
 clear Z
 rintro v w4 ⟨⟨u1,rfl,A1,c1,rfl,ho1⟩,e4⟩
 have M:=M.grow e4
 intro g16 w5 h5
 have M5:=M.alloc h5
 refine ⟨rfl,_,_,M5.get 0 rfl,Nat.le_of_ble_eq_true rfl,rfl,?_⟩
 intro w6 h6
 have M:Mem w w6 [(g16,.cells #[.int .i64 N,.slice A1 X.length c1] 49 (0,0)),(g9,.cells s.cells.toArray 24 (0,0)),(g8,.cells #[.slice R l.length cl] 29 (0,0))]:=M5.put 0 rfl h6
 have ho6:=ownsRow_ext ho1 (h6.ext_of h5.ext (by rw [h5.new]; exact Nat.le_refl _))
 clear M5 h5 h6 ho1
 have stop:∀ (K':Int) (w':World),K' = E -> E ≠ 0 -> Ext w w' -> (∃ u,(Value.tuple #[.slice none 0 0,.int .i64 K']) = .tuple #[u,.int .i64 E] ∧ NewL Cause.cells 83 19 w.heap.size w' u L) ∧ Ext w w':=by
  intro K' w' h1 h2 h3
  refine ⟨⟨_,by rw [h1],?_⟩,h3⟩
  rw [hL,if_neg h2]
  exact newL_nil
 refine ⟨Snd.go C_ok plans26 (by kernel_rfl) ?_⟩
 refine brE_ndec (fun c0 => ?_) (fun c0 => ?_)
 ·have c0:k ≠ 0:=c0
  rw [if_pos c0] at hE'
  exact stop k w6 hE'.symm (by rw [hE']; exact c0) M.ext
 have c0:k = 0:=c0
 rw [if_neg (fun h => h c0)] at hE'
 rw [if_pos c0] at hN hX
 obtain ⟨hcf,hz,_,hgz⟩:=chkR_zero (hk.symm.trans c0)
 have hkz:chkR f 0 s gs = 0:=by have h:=hk.symm.trans c0; rw [hz] at h; exact h
 have hgl:=gchk_len hgz
 refine ⟨Snd.go C_ok plans26 (by kernel_rfl) ?_⟩
 refine ⟨[.int .i64 N,.slice A1 X.length c1],rfl,M.rd 0 rfl,?_⟩
 refine (refIn_spec N A1 X.length c1 a _).mono ?_
 rintro v w7 ⟨rfl,e7⟩
 have M:=M.grow e7
 refine brE_mk (fun c1' => ?_) (fun c1' => ?_)
 ·rw [Bool.not_eq_true'] at c1'
  have:=inR_not c1'
  rw [hN] at this
  rw [if_neg (fun h => this h.1)] at hE'
  exact stop 1 _ hE'.symm (by rw [hE']; decide) M.ext
 rw [Bool.not_eq_false'] at c1'
 refine ⟨[.int .i64 N,.slice A1 X.length c1],rfl,M.rd 0 rfl,?_⟩
 refine (refIn_spec N A1 X.length c1 b _).mono ?_
 rintro v w8 ⟨rfl,e8⟩
 have M:=M.grow e8
 refine brE_mk (fun c2 => ?_) (fun c2 => ?_)
 ·rw [Bool.not_eq_true'] at c2
  have:=inR_not c2
  rw [hN] at this
  rw [if_neg (fun h => this h.2)] at hE'
  exact stop 1 _ hE'.symm (by rw [hE']; decide) M.ext
 rw [Bool.not_eq_false'] at c2
 have r1:=inR_range c1'
 have r2:=inR_range c2
 rw [hN] at r1 r2
 rw [if_pos ⟨r1,r2⟩] at hE'
 rw [if_pos hE'] at hL
 obtain ⟨i,rfl⟩:=Int.eq_ofNat_of_zero_le r1.1
 obtain ⟨j,rfl⟩:=Int.eq_ofNat_of_zero_le r2.1
 simp only [Int.toNat_natCast] at hL
 obtain ⟨p,hpe⟩:∃ p,p = profsOf f s gs:=⟨_,rfl⟩
 have hpn:p.length = gs.length:=by rw [hpe]; exact List.length_map _
 have hpR:profsR f s gs = p:=by rw [hpe]; exact if_pos hkz
 rw [<-hpe] at hL hX
 have hip:i < p.length:=by omega
 have hjp:j < p.length:=by omega
 have ho8:=ownsRow_ext ho6 (e7.trans e8)
 have hrel:CRel l p ps N X (relL l p):=⟨by omega,hz,by rw [hN,hpn],hX,rfl,fun x hx => (hR.each x hx).weight⟩
 have hXl:=hrel.lenX
 refine ⟨Snd.go C_ok plans26 (by kernel_rfl) ?_⟩
 refine ⟨s.cells,rfl,M.rd 1 rfl,?_⟩
 have Z:=refProfiles_spec (c:=c) (d:=d) (hf.ext M.ext) hl s (hr.ext M.ext) hg
 rw [hkz,hpR] at Z
 refine Z.mono ?_
 clear Z
 rintro v w9 ⟨⟨vp,rfl,hp9⟩,e9⟩
 have M:=M.grow e9
 obtain ⟨P,cp,rfl,hHL⟩:=hp9.hl
 refine ⟨Snd.go C_ok plans26 (by kernel_rfl) ?_⟩
 refine ⟨[.int .i64 N,.slice A1 X.length c1],rfl,M.rd 0 rfl,?_⟩
 obtain ⟨r,hrr⟩:∃ r,r = chainS N X (i:Nat) (j:Nat):=⟨_,rfl⟩
 have Z:=refChain_spec (hrel_of (ownsRow_ext ho8 e9) hrel.in64 hrel.numsX (by omega)) (i:Nat) (j:Nat)
 rw [<-hrr] at Z
 refine Z.mono ?_
 clear Z
 rintro v w10 hch
 obtain ⟨Ac,cc,rfl,hrow,e10⟩:=hch.row
 have M:=M.grow e10
 have hs10:w.heap.size <= w10.heap.size:=M.ext.size
 have hHL:=hHL.ext e10
 obtain ⟨ch,hchd⟩:∃ ch,ch = r.getD []:=⟨_,rfl⟩
 obtain ⟨is,his⟩:∃ is,is = r.isSome:=⟨_,rfl⟩
 rw [<-hchd] at hrow ⊢
 rw [<-his]
 have CH:is = true -> ChainIs l p ps ch:=fun h => by
  cases r with
  | none => rw [his] at h; cases h
  | some m =>
   rw [hchd]
   refine chain_is (a:=(i:Nat)) (b:=(j:Nat)) hrel.hp hrel.hz ?_
   rw [<-hrel.hN,<-hrel.hX]; exact hrr.symm
 have hfin:L = if is = true then causesTo l p ch (ch.length - 1) else if i ≠ j ∧ ruledI l (p.getD i default) (p.getD j default) >= 0 then [causeC l p (arrAt l p i j) true] else []:=by
  rw [hL]
  unfold causesL
  rw [<-hrel.hN,<-hrel.hX,<-hrr]
  cases r with
  | none => rw [his]; rfl
  | some m => rw [his,hchd]; rfl
 clear hrr hchd his
 have cellsOf:∀ (ii jj n:Nat) (hi:ii < p.length) (hj:jj < p.length) (hn:n < l.length) (wv:Bool),causeC l p (arrAt l p ii jj) wv = ⟨(ii:Nat),(jj:Nat),p[ii],p[jj],ruledI l (p.getD ii default) (p.getD jj default),(l.getD (ruledI l (p.getD ii default) (p.getD jj default)).toNat default).name,wv⟩:=by
  intro ii jj n hi hj hn wv
  unfold causeC arrAt
  simp only [Int.toNat_natCast,List.getD_eq_getElem?_getD,List.getElem?_eq_getElem hi,List.getElem?_eq_getElem hj,Option.getD_some]
 have getp:∀ (ii:Nat) (hi:ii < p.length),p.getD ii default = p[ii]:=fun ii hi => by rw [List.getD_eq_getElem?_getD,List.getElem?_eq_getElem hi]; rfl
 refine ⟨Snd.go C_ok plans26 (by kernel_rfl) ?_⟩
 refine brE_mk (fun hb0 => ?_) (fun hb0 => ?_)
 ·have hisf:is = false:=by simpa using hb0
  rw [hisf] at hfin
  have hfin:L = if i ≠ j ∧ ruledI l (p.getD i default) (p.getD j default) >= 0 then [causeC l p (arrAt l p i j) true] else []:=hfin.trans (if_neg (by simp))
  obtain ⟨x,hx⟩:∃ x,x = p[i]:=⟨_,rfl⟩
  obtain ⟨y,hy⟩:∃ y,y = p[j]:=⟨_,rfl⟩
  have CE:=fun n hn => cellsOf i j n hip hjp hn true
  rw [<-hx,<-hy,getp i hip,getp j hjp,<-hx,<-hy] at CE
  rw [getp i hip,getp j hjp,<-hx,<-hy] at hfin
  obtain ⟨b1,o1,hA1,hc1⟩:=hHL.at (k:=7) (fun _ => rfl) (by omega) hip
  obtain ⟨b2,o2,hA2,hc2⟩:=hHL.at (k:=7) (fun _ => rfl) (by omega) hjp
  rw [<-hx] at hc1
  rw [<-hy] at hc2
  obtain ⟨q,hq⟩:∃ q,q = ruledI l x y:=⟨_,rfl⟩
  have l1:=ruledI_lt l x y
  rw [<-hq] at l1 hfin CE
  refine ⟨[.slice R l.length cl],rfl,M.rd 2 rfl,?_⟩
  refine ⟨i,b1,o1,rfl,hip,hA1,?_⟩
  refine ⟨x.cells,rfl,hc1,?_⟩
  refine ⟨j,b2,o2,rfl,hjp,hA2,?_⟩
  refine ⟨y.cells,rfl,hc2,?_⟩
  have Z:=ruled_spec (hR.ext M.ext) x y
  rw [<-hq] at Z
  refine Z.mono ?_
  clear Z
  rintro v w11 ⟨rfl,e11⟩
  have M:=M.grow e11
  have nil:¬ (i ≠ j ∧ q >= 0) -> Ext w w11 -> (∃ u,(Value.tuple #[.slice none 0 0,.int .i64 0]) = .tuple #[u,.int .i64 E] ∧ NewL Cause.cells 83 19 w.heap.size w11 u L) ∧ Ext w w11:=by
   intro h1 h2
   refine ⟨⟨_,by rw [hE'],?_⟩,h2⟩
   rw [hfin,if_neg h1]
   exact newL_nil
  refine brE_dec (fun hij => ?_) (fun hij => ?_)
  ·have hij:i = j:=by have:((i:Nat):Int) = (j:Nat):=hij; omega
   exact nil (fun h => h.1 hij) M.ext
  have hij:i ≠ j:=fun h => hij (by rw [h])
  refine brE_dec (fun hq0 => ?_) (fun hq0 => ?_)
  ·have hq0:q < 0:=hq0
   exact nil (fun h => by omega) M.ext
  have hq0:q >= 0:=by have:¬ q < 0:=hq0; omega
  rw [if_pos ⟨hij,hq0⟩] at hfin
  obtain ⟨n,hn⟩:=Int.eq_ofNat_of_zero_le hq0
  have hnl:n < l.length:=by omega
  rw [CE n hnl] at hfin
  have hnm:(l.getD q.toNat default).name = l[n].name:=by rw [hn,Int.toNat_natCast,List.getD_eq_getElem?_getD,List.getElem?_eq_getElem hnl]; rfl
  rw [hnm] at hfin
  obtain ⟨nm,hnme⟩:∃ nm,nm = l[n].name:=⟨_,rfl⟩
  obtain ⟨bb,oo,hRR,hc8⟩:=(hR.ext M.ext).at hnl
  have hc9:=hc8 0 _ rfl
  rw [<-hnme] at hfin hc9
  refine ⟨i,b1,o1,rfl,hip,hA1,?_⟩
  refine ⟨x.cells,rfl,hc1.ext e11,?_⟩
  refine ⟨j,b2,o2,rfl,hjp,hA2,?_⟩
  refine ⟨y.cells,rfl,hc2.ext e11,?_⟩
  refine ⟨_,M.cell 2 rfl rfl,?_⟩
  refine ⟨n,bb,oo,hn,hnl,hRR,?_⟩
  refine ⟨_,hc9,?_⟩
  intro g12 w12 h12
  refine ⟨⟨_,by rw [hE'],?_⟩,M.ext.trans h12.ext⟩
  rw [hfin]
  have hb:w12.heap[g12]? = some (.cells (Cause.mk (i:Nat) (j:Nat) x y q nm true).cells.toArray 83 (0,0)):=h12.here
  unfold NewL
  have e1:[Cause.mk (i:Nat) (j:Nat) x y q nm true].flatMap Cause.cells = (Cause.mk (i:Nat) (j:Nat) x y q nm true).cells:=by simp
  rw [e1]
  exact owns_block hb (by rw [h12.new]; exact M.ext.size) rfl (by simp [maxLen])
 ·have hist:is = true:=by simpa using hb0
  have CI:=CH hist
  have h2:=CI.two
  have h25:=CI.len
  rw [if_pos hist] at hfin
  refine ⟨Snd.go C_ok plans26 (by kernel_rfl) ?_⟩
  refine ⟨Snd.fin C_ok (plans:=plans26) (by kernel_rfl) ?_⟩
  refine loopE C_ok (fun (t:Nat × Value) => [(8,.pointer (some ⟨g8,0,none⟩)),(18,.slice P p.length cp),(20,.slice Ac ch.length cc),(23,t.2),(24,.int .i64 ((t.1 + 1:Nat):Int))])
   (fun t w' => t.1 + 1 <= ch.length ∧ NewL Cause.cells 83 19 w10.heap.size w' t.2 (causesTo l p ch t.1) ∧ Ext w10 w') (fun t => ch.length - t.1) (0,.slice none 0 0) ⟨rfl,rfl,rfl,rfl,rfl,trivial⟩ ⟨by show 0 + 1 <= _; omega,newL_nil,Ext.refl _⟩ ?_
  rintro ⟨t,v⟩ w11 ⟨ht',ho',e11'⟩
  have ht:t + 1 <= ch.length:=ht'
  have ho:NewL Cause.cells 83 19 w10.heap.size w11 v (causesTo l p ch t):=ho'
  have e11:Ext w10 w11:=e11'
  clear ht' ho' e11'
  have M:=M.grow e11
  refine brE_dec (fun hlt => ?_) (fun hge => ?_)
  ·have hlti:t + 1 < ch.length:=by have:((t + 1:Nat):Int) < (ch.length:Nat):=hlt; omega
   obtain ⟨xi,yi,hxe,hye,hxl,hyl,hxy,hru,hps⟩:=CI.step t hlti
   have hg1:ch.getD t 0 = (xi:Int):=by rw [List.getD_eq_getElem?_getD,List.getElem?_eq_getElem (by omega),<-hxe]; rfl
   have hg2:ch.getD (t + 1) 0 = (yi:Int):=by rw [List.getD_eq_getElem?_getD,List.getElem?_eq_getElem hlti,<-hye]; rfl
   have hsucc:causesTo l p ch (t + 1) = causesTo l p ch t ++ [causeC l p (arrAt l p xi yi) false]:=by
    rw [causesTo_succ,hg1,hg2]
    simp only [Int.toNat_natCast]
   obtain ⟨x,hx⟩:∃ x,x = p[xi]:=⟨_,rfl⟩
   obtain ⟨y,hy⟩:∃ y,y = p[yi]:=⟨_,rfl⟩
   have CE:=fun n hn => cellsOf xi yi n hxl hyl hn false
   rw [<-hx,<-hy,getp xi hxl,getp yi hyl,<-hx,<-hy] at CE
   rw [getp xi hxl,getp yi hyl,<-hx,<-hy] at hru
   obtain ⟨q,hq⟩:∃ q,q = ruledI l x y:=⟨_,rfl⟩
   have l1:=ruledI_lt l x y
   rw [<-hq] at l1 CE hru
   obtain ⟨n,hn⟩:=Int.eq_ofNat_of_zero_le hru
   have hnl:n < l.length:=by omega
   rw [CE n hnl] at hsucc
   have hnm:(l.getD q.toNat default).name = l[n].name:=by rw [hn,Int.toNat_natCast,List.getD_eq_getElem?_getD,List.getElem?_eq_getElem hnl]; rfl
   rw [hnm] at hsucc
   obtain ⟨nm,hnme⟩:∃ nm,nm = l[n].name:=⟨_,rfl⟩
   rw [<-hnme] at hsucc
   obtain ⟨Ac',cc',qq,hrd,_⟩:=reads_of_owns (ownsRow_ext hrow e11)
   cases qq
   obtain ⟨d1,p1,hD1,hd1⟩:=Reads.int hrd (i:=t) (by omega)
   obtain ⟨d2,p2,hD2,hd2⟩:=Reads.int hrd (i:=t + 1) hlti
   rw [hxe] at hd1
   rw [hye] at hd2
   refine ⟨((t:Nat):Int),by rw [fit ⟨by omega,by omega⟩]; omega,?_⟩
   refine ⟨t,d1,p1,rfl,by omega,hD1,?_⟩
   refine ⟨_,by simpa using hd1,?_⟩
   refine ⟨t + 1,d2,p2,rfl,hlti,hD2,?_⟩
   refine ⟨_,by simpa using hd2,?_⟩
   obtain ⟨b1,o1,hA1,hc1⟩:=(hHL.ext e11).at (k:=7) (fun _ => rfl) (by omega) hxl
   obtain ⟨b2,o2,hA2,hc2⟩:=(hHL.ext e11).at (k:=7) (fun _ => rfl) (by omega) hyl
   rw [<-hx] at hc1
   rw [<-hy] at hc2
   refine ⟨[.slice R l.length cl],rfl,M.rd 2 rfl,?_⟩
   refine ⟨xi,b1,o1,rfl,hxl,hA1,?_⟩
   refine ⟨x.cells,rfl,hc1,?_⟩
   refine ⟨yi,b2,o2,rfl,hyl,hA2,?_⟩
   refine ⟨y.cells,rfl,hc2,?_⟩
   have Z:=ruled_spec (hR.ext M.ext) x y
   rw [<-hq] at Z
   refine Z.mono ?_
   clear Z
   rintro u w12 ⟨rfl,e12⟩
   have M:=M.grow e12
   have ho:=ho.ext e12
   obtain ⟨bb,oo,hRR,hc8⟩:=(hR.ext M.ext).at hnl
   have hc9:=hc8 0 _ rfl
   rw [<-hnme] at hc9
   refine ⟨xi,b1,o1,rfl,hxl,hA1,?_⟩
   refine ⟨x.cells,rfl,hc1.ext e12,?_⟩
   refine ⟨yi,b2,o2,rfl,hyl,hA2,?_⟩
   refine ⟨y.cells,rfl,hc2.ext e12,?_⟩
   refine ⟨_,M.cell 2 rfl rfl,?_⟩
   refine ⟨n,bb,oo,hn,hnl,hRR,?_⟩
   refine ⟨_,hc9,?_⟩
   intro g13 w13 h13
   have ho:=ho.ext h13.ext
   have e13:=(e11.trans e12).trans h13.ext
   have hlen:=causesTo_len l p ch t
   have hb:w13.heap[g13]? = some (.cells (Cause.mk (xi:Nat) (yi:Nat) x y q nm false).cells.toArray 83 (0,0)):=h13.here
   refine ⟨rfl,rfl,rfl,w10.heap.size,_,_,(Cause.mk (xi:Nat) (yi:Nat) x y q nm false).cells,ho,e13.size,Nat.le_of_ble_eq_true rfl,rfl,rfl,.inr ⟨g13,0,rfl,Rd.of_block hb⟩,rfl,rfl,by omega,by simp only [maxLen]; omega,?_⟩
   intro v14 w14 ho14 hg14 _
   refine ⟨((t + 1 + 1:Nat):Int),fit ⟨by omega,by omega⟩,?_⟩
   refine ⟨(t + 1,v14),⟨rfl,rfl,rfl,rfl,rfl,trivial⟩,⟨by show t + 1 + 1 <= _; omega,?_,app_ext e13 ho hg14⟩,by show ch.length - (t + 1) < ch.length - t; omega⟩
   show NewL _ _ _ _ _ _ (causesTo l p ch (t + 1))
   rw [hsucc]
   unfold NewL
   rw [List.length_append,List.flatMap_append]
   simpa using ho14
  ·have hge:¬ t + 1 < ch.length:=by have:¬ ((t + 1:Nat):Int) < (ch.length:Nat):=hge; omega
   have hte:t = ch.length - 1:=by omega
   rw [hte,<-hfin] at ho
   exact ⟨⟨v,by rw [hE'],ho.base hs10⟩,M.ext⟩
set_option maxRecDepth 100000 in
theorem SameCauses_spec {w:World} {A B:Option Addr} {xs ys:List Cause} {c d:Nat} (hx:HL Cause.cells w A xs c) (hy:HL Cause.cells w B ys d) :
  CallsV C.P 27 #[.slice A xs.length c,.slice B ys.length d] w fun v w' => v = .bool (decide (xs = ys)) ∧ w' = w:=by
 have hl:=hx.cap
 refine callsV_of C_ok (args:=[_,_]) (plans:=plans27) Tryz.func27 rfl Tryz.ntmps27 (by kernel_rfl) (Nat.le_of_ble_eq_true rfl) ?_
 refine brE_mk (fun hb => ?_) (fun hb => ?_)
 ·have hb:¬ (xs.length:Int) = (ys.length:Int):=by simpa using hb
  have hne:xs ≠ ys:=fun e => hb (by rw [e])
  exact ⟨by rw [decide_eq_false hne],rfl⟩
 ·have hb:(xs.length:Int) = (ys.length:Int):=by simpa using hb
  have hlen:xs.length = ys.length:=by omega
  refine loopE C_ok (fun (i:Nat) => [(0,.slice A xs.length c),(1,.slice B ys.length d),(5,.int .i64 i)])
   (fun i w' => w' = w ∧ i <= xs.length ∧ xs.take i = ys.take i) (fun i => xs.length - i) 0 ⟨rfl,rfl,rfl,trivial⟩ ⟨rfl,Nat.zero_le _,rfl⟩ ?_
  rintro i w1 ⟨rfl,hi,ht⟩
  refine brE_dec (fun hlt => ?_) (fun hge => ?_)
  ·have hlt:i < xs.length:=by have:(i:Int) < (xs.length:Nat):=hlt; omega
   have hlt2:i < ys.length:=by omega
   obtain ⟨b1,o1,hA,hc1⟩:=hx.at (k:=19) (fun _ => rfl) (by omega) hlt
   obtain ⟨b2,o2,hB,hc2⟩:=hy.at (k:=19) (fun _ => rfl) (by omega) hlt2
   refine ⟨i,b1,o1,rfl,hlt,hA,?_⟩
   refine ⟨xs[i].cells,rfl,hc1,?_⟩
   refine ⟨i,b2,o2,rfl,hlt2,hB,?_⟩
   refine ⟨ys[i].cells,rfl,hc2,?_⟩
   refine ⟨_,neqCa _ _ _ _,?_⟩
   refine brE_ndec (fun hn => ?_) (fun hn => ?_)
   ·have hne:xs ≠ ys:=fun e => hn (by subst e; rfl)
    exact ⟨by rw [decide_eq_false hne],rfl⟩
   ·refine ⟨((i + 1:Nat):Int),fit ⟨by omega,by omega⟩,?_⟩
    exact ⟨i + 1,⟨rfl,rfl,rfl,trivial⟩,⟨rfl,hlt,by rw [List.take_succ_eq_append_getElem hlt,List.take_succ_eq_append_getElem hlt2,ht,hn]⟩,by omega⟩
  ·have:i = xs.length:=by have:¬ (i:Int) < (xs.length:Nat):=hge; omega
   subst this
   have e:xs = ys:=by rw [List.take_length,hlen,List.take_length] at ht; exact ht
   exact ⟨by rw [decide_eq_true e],rfl⟩
end Go.Proofs.YtdpdjcopkehdjaaGreat.Rk
namespace Go.Proofs.YtdpdjcopkehdjaaGreat.Rk
open Go.Eng Go.RowKit
set_option maxRecDepth 100000 in
set_option maxHeartbeats 4000000 in
theorem RankCauses_spec {w:World} {A R B Q:Option Addr} {f:List Fact} {l:List Rl} {c cl d e:Nat} {gs ps:List (Int × Int)} (hf:HF w A f c) (hR:HRs w R l cl) (s:Scn) (hr:Reads w B (prCells gs)) (hg:∀ g ∈ gs,In64 g.1) (hrp:Reads w Q (prCells ps)) (hps:∀ p ∈ ps,In64 p.1 ∧ In64 p.2) (a b:Int) :
  CallsV C.P 8 #[.slice A f.length c,.agg #[.slice R l.length cl],s.val,.slice B gs.length d,.slice Q ps.length e,.int .i64 a,.int .i64 b] w fun v w' => v = .bool true ∧ Ext w w':=by
 have stop:∀ {w':World},Ext w w' -> CallsV C.P 11 #[] w' fun v w'' => v = .bool true ∧ Ext w w'':=fun e => (stands_spec _).mono fun v w'' hh => ⟨hh.1,e.trans hh.2⟩
 refine callsV_of C_ok (args:=[_,_,_,_,_,_,_]) (plans:=[]) Tryz.func8 rfl Tryz.ntmps8 (by kernel_rfl) (Nat.le_of_ble_eq_true rfl) ?_
 intro g6 w1 h1
 have M:Mem w w1 [(g6,.cells #[.slice R l.length cl] 29 (0,0))]:=(Mem.start w).alloc h1
 intro g7 w2 h2
 have M:Mem w w2 [(g7,.cells s.cells.toArray 24 (0,0)),(g6,.cells #[.slice R l.length cl] 29 (0,0))]:=M.alloc h2
 refine ⟨[.slice R l.length cl],rfl,M.rd 1 rfl,?_⟩
 refine (fewR_spec (hf.ext M.ext)).mono ?_
 rintro v w3 ⟨⟨bo,rfl,hb⟩,e3⟩
 have M:=M.grow e3
 refine brE_mk (fun b0 => ?_) (fun b0 => ?_)
 ·refine (stop M.ext).mono ?_
  rintro v w4 ⟨rfl,ee⟩
  exact ⟨rfl,ee⟩
 have hfew:=hb (by simpa using b0)
 clear hb b0
 refine brE_dec (fun c0 => ?_) (fun c0 => ?_)
 ·refine (stop M.ext).mono ?_
  rintro v w4 ⟨rfl,ee⟩
  exact ⟨rfl,ee⟩
 have c0:¬ ((ps.length:Nat):Int) > 60:=c0
 have hl:f.length <= 2 ^ 20:=by have:=hfew.1; omega
 have hgl:=hfew.2.2
 have hpl:ps.length <= 2 ^ 44:=by omega
 obtain ⟨E,hE⟩:∃ E,E = causesE (chkR f (chkRl l) s gs) gs.length a b:=⟨_,rfl⟩
 obtain ⟨L,hL⟩:∃ L,L = (if E = 0 then causesL l (profsOf f s gs) ps a.toNat b.toNat else []):=⟨_,rfl⟩
 refine ⟨[.slice R l.length cl],rfl,M.rd 1 rfl,?_⟩
 refine ⟨s.cells,rfl,M.rd 0 rfl,?_⟩
 have Z:=Causes_spec (c:=c) (cl:=cl) (d:=d) (e:=e) (hf.ext M.ext) hl (hR.ext M.ext) s (hr.ext M.ext) hg (by omega) hps (hrp.ext M.ext) hpl a b
 rw [<-hE,<-hL] at Z
 refine Z.mono ?_
 clear Z
 rintro v w4 ⟨⟨u1,rfl,ho1⟩,e4⟩
 have M:=M.grow e4
 refine ⟨[.slice R l.length cl],rfl,M.rd 1 rfl,?_⟩
 refine ⟨s.cells,rfl,M.rd 0 rfl,?_⟩
 have Z:=refCauses_spec (c:=c) (cl:=cl) (d:=d) (e:=e) (hf.ext M.ext) hl (hR.ext M.ext) s (hr.ext M.ext) hg (hrp.ext M.ext) hpl a b
 rw [<-hE,<-hL] at Z
 refine Z.mono ?_
 clear Z
 rintro v w5 ⟨⟨u2,rfl,ho2⟩,e5⟩
 have M:=M.grow e5
 obtain ⟨A1,c1,rfl,hL1⟩:=(ho1.ext e5).hl
 obtain ⟨A2,c2,rfl,hL2⟩:=ho2.hl
 refine (stands_spec w5).mono ?_
 rintro v w6 ⟨rfl,e6⟩
 have M:=M.grow e6
 refine brE_dec (fun _ => ?_) (fun hne => absurd rfl hne)
 refine (SameCauses_spec (hL1.ext e6) (hL2.ext e6)).mono ?_
 rintro v w7 ⟨hv,rfl⟩
 exact ⟨hv.trans (by simp),M.ext⟩
end Go.Proofs.YtdpdjcopkehdjaaGreat.Rk
