/- a part of the proof: steps, walks and plain laws that the law below stands on; no condition. -/
import Derived.Test.YtigapannpbaihaaGreatEXa
import Derived.Test.YtigapannpbaihaaGreatEXb
import Derived.Test.YtigapannpbaihaaGreatEXc
import Derived.Scope
import Derived.Laws.StructEq
import Derived.Maps.Keyed
import Derived.MapKept
import Derived.DeepKeys4
import Derived.Lib.AppendZerosOnto
set_option linter.unusedVariables false
set_option linter.unusedSimpArgs false
set_option linter.unnecessarySimpa false
set_option linter.unusedSectionVars false
namespace Go.Eng
open Go.RowKit
structure Mem (w0 w:World) (L:List (Nat × Obj)):Prop where
 ext:Ext w0 w
 own:∀ g o,(g,o) ∈ L -> w0.heap.size <= g ∧ w.heap[g]? = some o
 nodup:(L.map Prod.fst).Nodup
theorem Alloc.ext {w w':World} {g:Nat} {o:Obj} (h:Alloc w g o w'):Ext w w' :=
 ⟨h.os,h.tape,h.output,by rw [h.heap]; simp,fun k hk => by rw [h.heap,Array.getElem?_push,if_neg (Nat.ne_of_lt hk)]⟩
theorem Alloc.here {w w':World} {g:Nat} {o:Obj} (h:Alloc w g o w'):w'.heap[g]? = some o:=by rw [h.heap,h.new]; simp
theorem Alloc.size {w w':World} {g:Nat} {o:Obj} (h:Alloc w g o w'):w'.heap.size = w.heap.size + 1:=by rw [h.heap]; simp
theorem Mem.start (w:World):Mem w w []:=⟨Ext.refl w,fun _ _ h => (by cases h),List.nodup_nil⟩
variable {w0 w w':World} {L:List (Nat × Obj)}
theorem Mem.lt (h:Mem w0 w L) {g:Nat} {o:Obj} (hg:(g,o) ∈ L):g < w.heap.size:=(Array.getElem?_eq_some_iff.1 (h.own g o hg).2).1
theorem Mem.alloc (h:Mem w0 w L) {g:Nat} {o:Obj} (a:Alloc w g o w'):Mem w0 w' ((g,o) :: L):=by
 refine ⟨h.ext.trans a.ext,fun g' o' hm => ?_,?_⟩
 ·rcases List.mem_cons.1 hm with e | hm
  ·cases e; exact ⟨by rw [a.new]; exact h.ext.size,a.here⟩
  ·exact ⟨(h.own _ _ hm).1,a.ext.heap (h.own _ _ hm).2⟩
 ·rw [List.map_cons,List.nodup_cons]
  refine ⟨fun hm => ?_,h.nodup⟩
  obtain ⟨⟨g',o'⟩,hm',e⟩:=List.mem_map.1 hm
  have:=h.lt hm'
  have e:g' = g:=e
  rw [e,a.new] at this; exact Nat.lt_irrefl _ this
theorem Mem.get (h:Mem w0 w L) (k:Nat) {g:Nat} {o:Obj} (hk:L[k]? = some (g,o)):w.heap[g]? = some o:=(h.own g o (List.mem_of_getElem? hk)).2
theorem Mem.new (h:Mem w0 w L) (k:Nat) {g:Nat} {o:Obj} (hk:L[k]? = some (g,o)):w0.heap.size <= g:=(h.own g o (List.mem_of_getElem? hk)).1
theorem Mem.put (h:Mem w0 w L) (k:Nat) {g:Nat} {o o':Obj} (hk:L[k]? = some (g,o)) (p:Put w g o' w'):Mem w0 w' (L.set k (g,o')):=by
 have hn:=h.new k hk
 have hmap:(L.set k (g,o')).map Prod.fst = L.map Prod.fst:=by
  rw [List.map_set]
  apply List.ext_getElem?
  intro i
  rw [List.getElem?_set]
  split
  ·rename_i hki
   subst hki
   have hlt:=(List.getElem?_eq_some_iff.1 hk).1
   simp [hlt]
   have:=List.getElem?_eq_some_iff.1 hk
   obtain ⟨_,e⟩:=this
   simp [e]
  ·rfl
 refine ⟨⟨p.os.trans h.ext.os,p.tape.trans h.ext.tape,p.output.trans h.ext.output,by rw [p.size]; exact h.ext.size,fun j hj => by rw [p.there j (by omega)]; exact h.ext.block j hj⟩,fun g1 o1 hm => ?_,by rw [hmap]; exact h.nodup⟩
 obtain ⟨i,hi⟩:=List.mem_iff_getElem?.1 hm
 rw [List.getElem?_set] at hi
 by_cases hki:k = i
 ·rw [if_pos hki] at hi
  split at hi
  ·cases hi; exact ⟨hn,p.here⟩
  ·cases hi
 ·rw [if_neg hki] at hi
  have hm1:=List.mem_of_getElem? hi
  have hne:g1 ≠ g:=by
   intro e
   subst e
   have h1:(L.map Prod.fst)[i]? = some g1:=by simp [hi]
   have h2:(L.map Prod.fst)[k]? = some g1:=by simp [hk]
   have hlt:i < (L.map Prod.fst).length:=(List.getElem?_eq_some_iff.1 h1).1
   exact hki ((List.getElem?_inj hlt h.nodup).1 (h1.trans h2.symm)).symm
  exact ⟨(h.own _ _ hm1).1,by rw [p.there g1 hne]; exact (h.own _ _ hm1).2⟩
theorem Mem.grow (h:Mem w0 w L) (e:Ext w w'):Mem w0 w' L:=⟨h.ext.trans e,fun g o hm => ⟨(h.own g o hm).1,e.heap (h.own g o hm).2⟩,h.nodup⟩
theorem Mem.sub (h:Mem w0 w L) {L':List (Nat × Obj)} (hs:L'.Sublist L):Mem w0 w L':=⟨h.ext,fun g o hm => h.own g o (hs.subset hm),(hs.map Prod.fst).nodup h.nodup⟩
theorem Mem.tail (h:Mem w0 w L):Mem w0 w L.tail:=h.sub (List.tail_sublist L)
theorem Mem.add (h:Mem w0 w L) {g:Nat} {o:Obj} (ho:w.heap[g]? = some o) (hn:w0.heap.size <= g) (hd:∀ p ∈ L,p.1 ≠ g):Mem w0 w ((g,o) :: L):=by
 refine ⟨h.ext,fun g' o' hm => ?_,?_⟩
 ·rcases List.mem_cons.1 hm with e | hm
  ·cases e; exact ⟨hn,ho⟩
  ·exact h.own _ _ hm
 ·rw [List.map_cons,List.nodup_cons]
  refine ⟨fun hm => ?_,h.nodup⟩
  obtain ⟨p,hp,e⟩:=List.mem_map.1 hm
  exact hd p hp e
theorem Mem.cell (h:Mem w0 w L) (k:Nat) {g t i:Nat} {c:Array Value} {fr:Nat × Nat} {v:Value} (hk:L[k]? = some (g,.cells c t fr)) (hi:c[i]? = some v):w.cell? ⟨g,i,none⟩ = some v:=by
 have:=h.get k hk
 simp [World.cell?,this,hi]
theorem Mem.rd (h:Mem w0 w L) (k:Nat) {g t:Nat} {cs:List Value} {fr:Nat × Nat} (hk:L[k]? = some (g,.cells cs.toArray t fr)):Rd w g 0 cs:=Rd.of_block (h.get k hk)
theorem Mem.old (h:Mem w0 w L) {p:Addr} {v:Value} (hv:w0.cell? p = some v):w.cell? p = some v:=h.ext.cell hv
theorem Mem.oldRd (h:Mem w0 w L) {b o:Nat} {cs:List Value} (hv:Rd w0 b o cs):Rd w b o cs:=hv.ext h.ext
theorem Mem.grown (h:Mem w0 w L) {row:Option Nat} (hg:w.grownBy w' row) (hr:∀ k,row = some k -> w0.heap.size <= k) (hd:∀ p ∈ L,some p.1 ≠ row):Mem w0 w' L:=by
 refine ⟨⟨hg.os.trans h.ext.os,hg.tape.trans h.ext.tape,hg.output.trans h.ext.output,Nat.le_trans h.ext.size hg.size,fun k hk => ?_⟩,fun g o hm => ⟨(h.own g o hm).1,?_⟩,h.nodup⟩
 ·rw [hg.block k (Nat.lt_of_lt_of_le hk h.ext.size) (fun e => by have:=hr k e.symm; omega)]
  exact h.ext.block k hk
 ·rw [hg.block g (h.lt hm) (hd _ hm)]
  exact (h.own g o hm).2
theorem ownsRow_ext {base e size n:Nat} {v:Value} {xs:List Value} (h:w.ownsRow base e size v n xs) (he:Ext w w'):w'.ownsRow base e size v n xs:=by
 obtain ⟨hl,hv | ⟨g,cap,cur,hv,hb,hg,h1⟩⟩:=h
 ·exact ⟨hl,.inl hv⟩
 ·exact ⟨hl,.inr ⟨g,cap,cur,hv,hb,he.heap hg,h1⟩⟩
theorem ownsRow_put {base e size n:Nat} {v:Value} {xs:List Value} (h:w.ownsRow base e size v n xs) {g:Nat} {o:Obj} (p:Put w g o w') (hne:v.ownBlock ≠ some g):w'.ownsRow base e size v n xs:=by
 obtain ⟨hl,hv | ⟨g',cap,cur,hv,hb,hg,h1⟩⟩:=h
 ·exact ⟨hl,.inl hv⟩
 ·refine ⟨hl,.inr ⟨g',cap,cur,hv,hb,?_,h1⟩⟩
  rw [p.there g' (fun e => hne (by subst hv; simp [Value.ownBlock,e]))]
  exact hg
theorem Put.ext_of {g:Nat} {o:Obj} (p:Put w g o w') (e:Ext w0 w) (hg:w0.heap.size <= g):Ext w0 w' :=
 ⟨p.os.trans e.os,p.tape.trans e.tape,p.output.trans e.output,by rw [p.size]; exact e.size,fun k hk => by rw [p.there k (by omega)]; exact e.block k hk⟩
theorem owns_block {base e size n g:Nat} {cs:List Value} (h:w.heap[g]? = some (.cells cs.toArray e (0,0))) (hb:base <= g) (hl:cs.length = n * size) (hn:n <= maxLen):w.ownsRow base e size (.slice (some ⟨g,0,none⟩) n n) n cs :=
 ⟨hl,.inr ⟨g,n,cs.toArray,rfl,hb,h,Nat.le_refl _,hn,by simpa using hl,by simp [<-hl]⟩⟩
def Reads (w:World) (A:Option Addr) (cs:List Value):Prop:=cs = [] ∨ ∃ b o,A = some ⟨b,o,none⟩ ∧ Rd w b o cs
theorem Reads.ext {A:Option Addr} {cs:List Value} (h:Reads w A cs) (e:Ext w w'):Reads w' A cs:=h.imp id fun ⟨b,o,hb,hr⟩ => ⟨b,o,hb,hr.ext e⟩
theorem reads_of_owns {base e size n:Nat} {v:Value} {xs:List Value} (h:w.ownsRow base e size v n xs):∃ A cap,v = .slice A n cap ∧ Reads w A xs ∧ n <= cap:=by
 obtain ⟨hl,⟨rfl,rfl⟩ | ⟨g,cap,cur,rfl,hb,hg,h1,h2,h3,h4⟩⟩:=h
 ·refine ⟨none,0,rfl,.inl ?_,Nat.le_refl 0⟩
  simpa using hl
 ·refine ⟨_,cap,rfl,.inr ⟨g,0,rfl,fun i u hu => ?_⟩,h1⟩
  rw [<-h4,List.getElem?_take] at hu
  split at hu
  ·have:cur[i]? = some u:=by simpa using hu
   simp [World.cell?,hg,this]
  ·cases hu
theorem cell_of_block {g i t:Nat} {c:Array Value} {fr:Nat × Nat} {v:Value} (h:w.heap[g]? = some (.cells c t fr)) (hi:c[i]? = some v):w.cell? ⟨g,i,none⟩ = some v:=by simp [World.cell?,h,hi]
theorem grownBy_trans {a b c:World} {row:Option Nat} (h:a.grownBy b row) (k:b.grownBy c row):a.grownBy c row :=
 ⟨k.os.trans h.os,k.tape.trans h.tape,k.output.trans h.output,Nat.le_trans h.size k.size,fun j hj hne => (k.block j (Nat.lt_of_lt_of_le hj h.size) hne).trans (h.block j hj hne)⟩
theorem grownBy_refl (a:World) (row:Option Nat):a.grownBy a row:=⟨rfl,rfl,rfl,Nat.le_refl _,fun _ _ _ => rfl⟩
theorem ext_grownBy {a b:World} (h:Ext a b) (row:Option Nat):a.grownBy b row:=⟨h.os,h.tape,h.output,h.size,fun k hk _ => h.block k hk⟩
theorem Put.grownBy {a b:World} {g:Nat} {o:Obj} (h:Put a g o b):a.grownBy b (some g):=⟨h.os,h.tape,h.output,by rw [h.size]; exact Nat.le_refl _,fun k _ hne => h.there k (fun e => hne (by rw [e]))⟩
theorem grownBy_heap {a b:World} {g k:Nat} {o:Obj} (h:a.grownBy b (some g)) (hk:a.heap[k]? = some o) (hne:k ≠ g):b.heap[k]? = some o:=by
 have hlt:k < a.heap.size:=(Array.getElem?_eq_some_iff.1 hk).1
 rw [h.block k hlt (fun e => hne (Option.some.inj e))]; exact hk
theorem lt_of_heap {a:World} {k:Nat} {o:Obj} (hk:a.heap[k]? = some o):k < a.heap.size:=(Array.getElem?_eq_some_iff.1 hk).1
theorem reads_grown_by {gs:Nat} {A:Option Addr} {cs:List Value} (h:∀ b o,A = some ⟨b,o,none⟩ -> b ≠ gs) (hr:Reads w A cs) (hg:w.grownBy w' (some gs)):Reads w' A cs:=by
 rcases hr with hr | ⟨b,o,hA,hr⟩
 ·exact .inl hr
 ·refine .inr ⟨b,o,hA,fun i v hv => ?_⟩
  exact hg.cell (hr i v hv) (fun e => h b o hA (Option.some.inj e))
def Only (t0:Nat) (w w':World):Prop:=∀ (q:Nat) (c:Array Value) (t:Nat) (fr:Nat × Nat),w.heap[q]? = some (.cells c t fr) -> t ≠ t0 -> w'.heap[q]? = some (.cells c t fr)
theorem only_ext (t0:Nat) (h:Ext w w'):Only t0 w w':=fun _ _ _ _ hq _ => h.heap hq
theorem only_put {t0 g:Nat} {o:Obj} {c:Array Value} {fr:Nat × Nat} (h:Put w g o w') (hg:w.heap[g]? = some (.cells c t0 fr)):Only t0 w w':=fun q c' t fr' hq hne => by
 rw [h.there q (fun e => by subst e; have:=hq.symm.trans hg; simp at this; exact hne this.2.1)]
 exact hq
theorem only_app {t0 base size n:Nat} {v:Value} {xs:List Value} (ho:w.ownsRow base t0 size v n xs) (hg:w.grownBy w' v.ownBlock):Only t0 w w':=fun q c t fr hq hne => by
 rw [hg.block q (lt_of_heap hq) ?_]
 ·exact hq
 ·intro e
  obtain ⟨_,hv | ⟨g',cap,cur,hv,_,hg',_⟩⟩:=ho
  ·rw [hv.1] at e; cases e
  ·rw [hv] at e
   have e:q = g':=by simpa [Value.ownBlock] using e
   subst e
   have:=hq.symm.trans hg'
   simp at this
   exact hne this.2.1
theorem ownsRow_only {t0 base e size n:Nat} {v:Value} {xs:List Value} (h:w.ownsRow base e size v n xs) (k:Only t0 w w') (hne:e ≠ t0):w'.ownsRow base e size v n xs:=by
 obtain ⟨hl,hv | ⟨g,cap,cur,hv,hb,hg,h1⟩⟩:=h
 ·exact ⟨hl,.inl hv⟩
 ·exact ⟨hl,.inr ⟨g,cap,cur,hv,hb,k g cur e _ hg hne,h1⟩⟩
theorem ownsRow_base {base base' e size n:Nat} {v:Value} {xs:List Value} (h:w.ownsRow base' e size v n xs) (hb:base <= base'):w.ownsRow base e size v n xs:=by
 obtain ⟨hl,hv | ⟨g,cap,cur,hv,hb',h1⟩⟩:=h
 ·exact ⟨hl,.inl hv⟩
 ·exact ⟨hl,.inr ⟨g,cap,cur,hv,Nat.le_trans hb hb',h1⟩⟩
theorem below_put {B g:Nat} {o:Obj} {w0:World} (h:Below B w0 w) (p:Put w g o w') (hg:B <= g):Below B w0 w' :=
 ⟨p.os.trans h.os,p.tape.trans h.tape,p.output.trans h.output,by rw [p.size]; exact h.size,fun k hk => by rw [p.there k (by omega)]; exact h.block k hk⟩
theorem below_ext {B:Nat} {w0:World} (h:Below B w0 w) (e:Ext w w') (hB:B <= w.heap.size):Below B w0 w':=h.trans (e.mono hB)
theorem below_app {B t0 size n:Nat} {w0:World} {v:Value} {xs:List Value} (h:Below B w0 w) (ho:w.ownsRow B t0 size v n xs) (hg:w.grownBy w' v.ownBlock) (hB:B <= w.heap.size):Below B w0 w' :=
 h.trans ⟨hg.os,hg.tape,hg.output,hg.size,fun k hk => hg.block k (by omega) (fun e => by have:=(ho.lt k e.symm).1; omega)⟩
theorem app_ext {e size n:Nat} {v:Value} {xs:List Value} (h:Ext w0 w) (ho:w.ownsRow w0.heap.size e size v n xs) (hg:w.grownBy w' v.ownBlock):Ext w0 w' :=
 ((⟨h,fun _ _ hm => (by cases hm),List.nodup_nil⟩:Mem w0 w []).grown hg (fun k hk => (ho.lt k hk).1) (fun p hp => (by cases hp))).ext
theorem Keep.put {D:Nat -> Prop} {a b c:World} {g:Nat} {o:Obj} (h:Keep D a b) (p:Put b g o c) (hg:¬ D g):Keep D a c :=
 ⟨p.os.trans h.os,p.tape.trans h.tape,p.output.trans h.output,by rw [p.size]; exact h.size,fun k hD hk => by rw [p.there k (fun e => hg (e ▸ hD))]; exact h.block k hD hk⟩
end Go.Eng
namespace Go.Eng
open Go.RowKit
def noGotoE (Q:Exit -> Env -> World -> Prop):Exit -> Env -> World -> Prop
 | .goto _,_,_ => False
 | e,l,w => Q e l w
theorem scopeE {C:Cfg} (hC:C.Ok) {n:Nat} {plans:List (Nat × PlanT)} {c:Code} {l:Env} {w:World} {Q:Exit -> Env -> World -> Prop} (h:codeE C n plans c l w (noGotoE Q)):ScopeE C n plans c l w Q:=by
 intro hok d a w₁ hr hs hdw
 refine wp_scope_straight (wp_mono (codeE_sound hC c l w _ hok h d a w₁ hr hs hdw) ?_)
 rintro e a' w' ⟨l',w'',hq,hr',hs',hd'⟩
 cases e with
 | goto k => exact hq.elim
 | _ => exact ⟨l',w'',hq,hr',hs',hd'⟩
end Go.Eng
namespace Go.Eng
open Go.RowKit
open Go.Maps (Keyed)
def MapIs (P:Program) (k:Nat) (w:World) (b:Nat) (f:Value -> Option Value):Prop :=
 ∃ es clk,w.heap[b]? = some (.map es clk) ∧ (∀ e ∈ es.toList,∃ l,keyOf P k e.key = some l) ∧ (es.toList.map MapEntry.key).Nodup ∧ (∀ e ∈ es.toList,f e.key = some e.val) ∧ ∀ x v,f x = some v -> ∃ e ∈ es.toList,e.key = x
theorem MapIs.ext {P:Program} {k:Nat} {w w':World} {b:Nat} {f:Value -> Option Value} (h:MapIs P k w b f) (e:Ext w w'):MapIs P k w' b f :=
 let ⟨es,clk,h1,h2⟩:=h
 ⟨es,clk,e.heap h1,h2⟩
theorem MapIs.put {P:Program} {k:Nat} {w w':World} {b g:Nat} {o:Obj} {f:Value -> Option Value} (h:MapIs P k w b f) (p:Put w g o w') (hne:b ≠ g):MapIs P k w' b f :=
 let ⟨es,clk,h1,h2⟩:=h
 ⟨es,clk,(p.there b hne).trans h1,h2⟩
theorem MapIs.same {P:Program} {k:Nat} {w w':World} {b:Nat} {f:Value -> Option Value} (h:MapIs P k w b f) (e:w'.heap[b]? = w.heap[b]?):MapIs P k w' b f :=
 let ⟨es,clk,h1,h2⟩:=h
 ⟨es,clk,e.trans h1,h2⟩
theorem MapIs.empty {P:Program} {k:Nat} {w:World} {b:Nat} (h:w.heap[b]? = some (.map #[] 0)):MapIs P k w b fun _ => none :=
 ⟨#[],0,h,fun _ h => by simp at h,by simp,fun _ h => by simp at h,fun _ _ h => by cases h⟩
open Classical in
noncomputable def updV (f:Value -> Option Value) (x v:Value):Value -> Option Value:=fun y => if y = x then some v else f y
section
variable {C:Cfg}
theorem mapGet (hC:C.Ok) {o:Oper} {t:Nat} {m ix:Operand} {ok:Bool} {l:Env} {w:World} {b k e:Nat} {x:Value} {lx:Lit} {ti te:TI} {f:Value -> Option Value} (ho:o.op = .lookup t m ix ok)
  (hm:evo l m = some (.map (some b))) (hx:evo l ix = some x) (hti:C.ti t = some ti) (hd:ti.d = .map k e) (hte:C.ti e = some te) (K:Keyed C.P k) (hkey:keyOf C.P k x = some lx) (hM:MapIs C.P k w b f) :
  QuietRun C o l w (if ok then .tuple #[(f x).getD te.zero,.bool (f x).isSome] else (f x).getD te.zero):=by
 intro ρ hρ w' hw
 obtain ⟨es,clk,hb,hgood,hnd,hval,hdom⟩:=hM.ext hw
 have hu:=(hC.ti hti).isMap hd
 unfold execOp
 rw [ho]
 have hchk:∀ em,(Instr.checkKey em 10000 k x).run C.P w' = .ok () w':=fun em => K.check w' em hkey
 rcases K.find w' hkey es.toList hgood with ⟨h1,h2⟩ | ⟨j,e0,h1,h2,h3⟩
 ·have hf:f x = none:=by
   cases hfx:f x with
   | none => rfl
   | some v => obtain ⟨e,he,hk⟩:=hdom x v hfx; exact absurd hk (h2 e he)
  simp only [hρ _ _ hm,hρ _ _ hx,hf]
  cases ok <;> simp [Instr.lookup,run_underlying hu,MapKept.run_getObj_map hb,hchk,h1,(hC.ti hte).run_zero]
 ·have hf:f x = some e0.val:=by rw [<-h3]; exact hval e0 (List.mem_of_getElem? h2)
  simp only [hρ _ _ hm,hρ _ _ hx,hf]
  cases ok <;> simp [Instr.lookup,run_underlying hu,MapKept.run_getObj_map hb,hchk,h1]
theorem mapGet1 (hC:C.Ok) {o:Oper} {t:Nat} {m ix:Operand} {l:Env} {w:World} {b k e:Nat} {x v:Value} {lx:Lit} {ti te:TI} {f:Value -> Option Value} (hkey:keyOf C.P k x = some lx) (hM:MapIs C.P k w b f) (K:Keyed C.P k)
  (ho:o.op = .lookup t m ix false) (hm:evo l m = some (.map (some b))) (hx:evo l ix = some x) (hti:C.ti t = some ti) (hd:ti.d = .map k e) (hte:C.ti e = some te) (hv:(f x).getD te.zero = v):QuietRun C o l w v:=by
 have:=mapGet hC ho hm hx hti hd hte K hkey hM
 rw [<-hv]
 simpa using this
theorem mapGet2 (hC:C.Ok) {o:Oper} {t:Nat} {m ix:Operand} {l:Env} {w:World} {b k e:Nat} {x v:Value} {lx:Lit} {ti te:TI} {f:Value -> Option Value} {ok:Bool} (hkey:keyOf C.P k x = some lx) (hM:MapIs C.P k w b f) (K:Keyed C.P k)
  (ho:o.op = .lookup t m ix true) (hm:evo l m = some (.map (some b))) (hx:evo l ix = some x) (hti:C.ti t = some ti) (hd:ti.d = .map k e) (hte:C.ti e = some te) (hv:(f x).getD te.zero = v) (hk:(f x).isSome = ok):QuietRun C o l w (.tuple #[v,.bool ok]):=by
 have:=mapGet hC ho hm hx hti hd hte K hkey hM
 rw [<-hv,<-hk]
 simpa using this
theorem put_setObj {w w₁:World} (hs:Same w w₁) {b:Nat} {o o':Obj} (hg:w.heap[b]? = some o):Put w b o' { w₁ with heap:=w₁.heap.setIfInBounds b o' }:=by
 have hlt:b < w.heap.size:=(Array.getElem?_eq_some_iff.1 hg).1
 refine ⟨by simp [hs.heap],by simp [hs.heap,hlt],fun k hk => ?_,hs.os,hs.tape,hs.output⟩
 rw [Array.getElem?_setIfInBounds,if_neg (fun e => hk e.symm),hs.heap]
theorem mapPut (hC:C.Ok) {o:Oper} {t:Nat} {m ix xv:Operand} {l:Env} {w:World} {b k e:Nat} {x v:Value} {lx:Lit} {ti:TI} {f:Value -> Option Value} (ho:o.op = .mapUpdate t m ix xv)
  (hm:evo l m = some (.map (some b))) (hx:evo l ix = some x) (hv:evo l xv = some v) (hti:C.ti t = some ti) (hd:ti.d = .map k e) (K:Keyed C.P k) (hkey:keyOf C.P k x = some lx) (hM:MapIs C.P k w b f)
  {Q:Value -> World -> Prop} (h:∀ o' w',Put w b o' w' -> MapIs C.P k w' b (updV f x v) -> Q undef w'):LoudRun C o l w Q:=by
 intro ρ hρ w₁ hs
 obtain ⟨es,clk,hb,hgood,hnd,hval,hdom⟩:=hM
 have hb1:w₁.heap[b]? = some (.map es clk):=by rw [hs.heap]; exact hb
 have hu:=(hC.ti hti).isMap hd
 have hchk:∀ em,(Instr.checkKey em 10000 k x).run C.P w₁ = .ok () w₁:=fun em => K.check w₁ em hkey
 rcases K.find w₁ hkey es.toList hgood with ⟨h1,h2⟩ | ⟨j,e0,h1,h2,h3⟩
 ·refine ⟨undef,_,_,.inr ⟨?_,rfl⟩,h _ _ (put_setObj hs (o':=.map (es.push ⟨x,v,clk⟩) (clk + 1)) hb) ?_,Same.refl _⟩
  ·unfold execOp
   rw [ho]
   simp [hρ _ _ hm,hρ _ _ hx,hρ _ _ hv,Instr.mapUpdate,run_underlying hu,MapKept.run_getObj_map hb1,hchk,h1,MapKept.run_setObj_map _ hb1]
  ·refine ⟨_,_,(put_setObj hs hb).here,?_,?_,?_,?_⟩
   ·intro e he
    simp only [Array.toList_push,List.mem_append,List.mem_singleton] at he
    rcases he with he | rfl
    ·exact hgood e he
    ·exact ⟨_,hkey⟩
   ·rw [Array.toList_push,List.map_append,List.nodup_append]
    refine ⟨hnd,by simp,?_⟩
    intro a ha c hc
    obtain ⟨e,he,rfl⟩:=List.mem_map.1 ha
    have hc:c = x:=by simpa using hc
    subst hc
    exact h2 e he
   ·intro e he
    simp only [Array.toList_push,List.mem_append,List.mem_singleton] at he
    unfold updV
    rcases he with he | rfl
    ·rw [if_neg (h2 e he)]; exact hval e he
    ·simp
   ·intro y u hy
    unfold updV at hy
    simp only [Array.toList_push,List.mem_append,List.mem_singleton]
    by_cases e:y = x
    ·subst e; exact ⟨_,.inr rfl,rfl⟩
    ·rw [if_neg e] at hy
     obtain ⟨e',he',hk⟩:=hdom y u hy
     exact ⟨e',.inl he',hk⟩
 ·have hj:es[j]? = some e0:=by simpa using h2
  have hjl:j < es.toList.length:=(List.getElem?_eq_some_iff.1 h2).1
  have hst:(Instr.keyThatStays e0.key x).run C.P w₁ = .ok x w₁:=by rw [h3]; exact K.stays w₁ hkey
  have emod:(es.modify j fun e => { e with key:=x,val:=v }).toList = es.toList.modify j fun e => { e with key:=x,val:=v }:=by simp
  have hset:es.toList.modify j (fun e => { e with key:=x,val:=v }) = es.toList.set j { e0 with key:=x,val:=v }:=by
   apply List.ext_getElem?
   intro i
   rw [List.getElem?_modify,List.getElem?_set]
   by_cases hij:j = i
   ·subst hij; simp [h2]; simpa using hjl
   ·simp [hij]
  refine ⟨undef,_,_,.inr ⟨?_,rfl⟩,h _ _ (put_setObj hs (o':=.map (es.modify j fun e => { e with key:=x,val:=v }) clk) hb) ?_,Same.refl _⟩
  ·unfold execOp
   rw [ho]
   simp [hρ _ _ hm,hρ _ _ hx,hρ _ _ hv,Instr.mapUpdate,run_underlying hu,MapKept.run_getObj_map hb1,hchk,h1,hj,hst,MapKept.run_setObj_map _ hb1]
  ·refine ⟨_,_,(put_setObj hs hb).here,?_,?_,?_,?_⟩
   ·rw [emod,hset]
    intro e he
    rcases List.mem_or_eq_of_mem_set he with he | rfl
    ·exact hgood e he
    ·exact ⟨_,hkey⟩
   ·rw [emod,hset,List.map_set]
    have:(es.toList.map MapEntry.key).set j x = es.toList.map MapEntry.key:=by
     apply List.ext_getElem?
     intro i
     rw [List.getElem?_set]
     split
     ·rename_i hi
      subst hi
      simp [hj,h3]
      simpa using hjl
     ·rfl
    rw [this]; exact hnd
   ·rw [emod,hset]
    intro e he
    unfold updV
    obtain ⟨i,hi⟩:=List.mem_iff_getElem?.1 he
    rw [List.getElem?_set] at hi
    by_cases hij:j = i
    ·subst hij
     simp at hi
     have:=hi.2
     subst this
     simp
    ·rw [if_neg hij] at hi
     have hne:e.key ≠ x:=by
      intro ek
      have h5:(es.toList.map MapEntry.key)[i]? = some x:=by rw [List.getElem?_map,hi]; simp [ek]
      have h6:(es.toList.map MapEntry.key)[j]? = some x:=by rw [List.getElem?_map,h2]; simp [h3]
      have hlt:i < (es.toList.map MapEntry.key).length:=(List.getElem?_eq_some_iff.1 h5).1
      exact hij ((List.getElem?_inj hlt hnd).1 (h5.trans h6.symm)).symm
     rw [if_neg hne]
     exact hval e (List.mem_of_getElem? hi)
   ·intro y u hy
    rw [emod,hset]
    unfold updV at hy
    by_cases e:y = x
    ·subst e; exact ⟨_,List.mem_set hjl _,rfl⟩
    ·rw [if_neg e] at hy
     obtain ⟨e',he',hk⟩:=hdom y u hy
     obtain ⟨i,hi⟩:=List.mem_iff_getElem?.1 he'
     refine ⟨e',List.mem_iff_getElem?.2 ⟨i,?_⟩,hk⟩
     rw [List.getElem?_set,if_neg ?_]
     ·exact hi
     ·intro hji
      subst hji
      have:=h2.symm.trans hi
      cases this
      exact e (hk.symm.trans h3)
theorem ownsRow_cut {w:World} {base e size n k cap g:Nat} {xs:List Value} (h:w.ownsRow base e size (.slice (some ⟨g,0,none⟩) n cap) n xs) (hk:k <= n):w.ownsRow base e size (.slice (some ⟨g,0,none⟩) k cap) k (xs.take (k * size)):=by
 obtain ⟨hl,⟨hv,_⟩ | ⟨g',cap',cur,hv,h1,h2,h3,h4,h5,h6⟩⟩:=h
 ·cases hv
 ·cases hv
  have hkn:k * size <= n * size:=Nat.mul_le_mul_right _ hk
  refine ⟨by rw [List.length_take,hl]; omega,.inr ⟨g,cap,cur,rfl,h1,h2,by omega,h4,h5,?_⟩⟩
  rw [<-h6,List.take_take,Nat.min_eq_left hkn]
end
end Go.Eng
namespace Go.Eng
open Go.RowKit
def offT (t0:Nat):List (Nat × Obj) -> Bool
 | [] => true
 | (_,.cells _ t _) :: r => !(Nat.beq t t0) && offT t0 r
 | _ => false
theorem Mem.onlyT {t0:Nat} {w0 w w':World} {L:List (Nat × Obj)} (M:Mem w0 w L) (E:Ext w0 w') (o:Only t0 w w') (h:offT t0 L = true):Mem w0 w' L:=by
 refine ⟨E,fun g ob hm => ⟨(M.own g ob hm).1,?_⟩,M.nodup⟩
 have key:∀ {L:List (Nat × Obj)},offT t0 L = true -> ∀ g ob,(g,ob) ∈ L -> ∃ c t fr,ob = .cells c t fr ∧ t ≠ t0:=by
  intro L
  induction L with
  | nil => intro _ _ _ h; cases h
  | cons p r ih =>
   intro h g ob hm
   obtain ⟨g1,o1⟩:=p
   cases o1 with
   | cells c t fr =>
    simp only [offT,Bool.and_eq_true,Bool.not_eq_true'] at h
    rcases List.mem_cons.1 hm with e | hm
    ·cases e
     exact ⟨c,t,fr,rfl,fun e => by subst e; rw [Nat.beq_refl] at h; cases h.1⟩
    ·exact ih h.2 g ob hm
   | _ => simp [offT] at h
 obtain ⟨c,t,fr,rfl,hne⟩:=key h g ob hm
 exact o _ _ _ _ (M.own g _ hm).2 hne
theorem splice_take {cs vs:List Value} {o m:Nat} (h:o + vs.length <= m):(splice cs o vs).take m = splice (cs.take m) o vs:=by
 by_cases hl:m <= cs.length
 ·unfold splice
  rw [List.take_append,List.take_append]
  have h1:(cs.take o).length = o:=by simp; omega
  rw [List.take_of_length_le (by omega:(cs.take o).length <= m),List.take_take,Nat.min_eq_left (by omega:o <= m)]
  rw [List.length_append,h1,List.take_of_length_le (by omega:vs.length <= m - o)]
  rw [List.drop_take]
 ·rw [List.take_of_length_le (by omega:cs.length <= m)]
  refine List.take_of_length_le ?_
  unfold splice
  simp only [List.length_append,List.length_take,List.length_drop]
  omega
theorem ownsRow_open {w:World} {base e size n cap g:Nat} {xs:List Value} (h:w.ownsRow base e size (.slice (some ⟨g,0,none⟩) n cap) n xs) :
  ∃ cur:List Value,w.heap[g]? = some (.cells cur.toArray e (0,0)) ∧ base <= g ∧ n * size <= cur.length ∧ cur.length = cap * size ∧ n <= cap ∧ xs.length = n * size ∧ cur.take (n * size) = xs ∧
   ∀ (o:Nat) (vs:List Value) (w':World),o + vs.length <= n * size -> Put w g (.cells (splice cur o vs).toArray e (0,0)) w' -> w'.ownsRow base e size (.slice (some ⟨g,0,none⟩) n cap) n (splice xs o vs):=by
 obtain ⟨hl,⟨hv,_⟩ | ⟨g',cap',cur,hv,h1,h2,h3,h4,h5,h6⟩⟩:=h
 ·cases hv
 ·cases hv
  have h5':cur.toList.length = cap * size:=by simpa using h5
  have hnc:n * size <= cap * size:=Nat.mul_le_mul_right _ h3
  refine ⟨cur.toList,by simpa using h2,h1,by omega,h5',h3,hl,h6,fun o vs w' ho p => ⟨?_,.inr ⟨g,cap,(splice cur.toList o vs).toArray,rfl,h1,p.here,h3,h4,?_,?_⟩⟩⟩
  ·rw [splice_length (by omega)]; exact hl
  ·rw [List.size_toArray,splice_length (by omega)]; exact h5'
  ·rw [List.toList_toArray,splice_take ho,h6]
theorem zeroCells_props (zc:Array Value) (n:Nat) (h1:zc.toList.all (·.oneCell') = true) (hz:0 < zc.size):(Builtin.zeroCells zc n).toList.length = n * zc.size ∧ ∀ v ∈ (Builtin.zeroCells zc n).toList,v.oneCell' = true:=by
 unfold Builtin.zeroCells
 refine ⟨by simp,fun v hv => ?_⟩
 simp only [Array.toList_map,List.mem_map] at hv
 obtain ⟨i,_,rfl⟩:=hv
 have hi:i % zc.size < zc.size:=Nat.mod_lt _ hz
 rw [getElem!_pos zc _ hi]
 exact List.all_eq_true.1 h1 _ (by simp)
section
variable {C:Cfg}
theorem clearRow (hC:C.Ok) {o:Oper} {t e esz eb m c g off:Nat} {x:Operand} {l:Env} {w:World} {A:Option Addr} {ti te:TI} {cur:List Value} (ho:o.op = .call ⟨.builtin .clear,#[x],#[t]⟩)
  (hx:evo l x = some (.slice A m c)) (hti:C.ti t = some ti) (hd:ti.d = .slice e esz eb) (hte:C.ti e = some te) (h1:te.zero.cells.toList.all (·.oneCell') = true) (hz:te.zero.cells.size = esz) (hpos:0 < esz)
  (hA:A = some ⟨g,off,none⟩) (hm:0 < m) (hg:w.heap[g]? = some (.cells cur.toArray e (0,0))) (hin:off + m * esz <= cur.length)
  {Q:Value -> World -> Prop} (h:∀ zs w',zs.length = m * esz -> Put w g (.cells (splice cur off zs).toArray e (0,0)) w' -> Q (.tuple #[]) w'):LoudRun C o l w Q:=by
 intro ρ hρ w₁ hs
 subst hA
 have hu:=((hC.ti hti).isSlice hd).1
 obtain ⟨hzl,hz1⟩:=zeroCells_props te.zero.cells m h1 (by omega)
 rw [hz] at hzl
 have hg1:w₁.heap[g]? = some (.cells cur.toArray e (0,0)):=by rw [hs.heap]; exact hg
 have hst:=run_storeCells_at (P:=C.P) g off e (Builtin.zeroCells te.zero.cells m).toList 0 cur.toArray w₁ hg1 (by simp only [List.size_toArray]; omega) hz1
 have hrun:(Builtin.clear_ #[t] o.type #[.slice (some ⟨g,off,none⟩) m c]).run C.P w₁ = .ok (.tuple #[]) (w₁.setRow g (splice cur off (Builtin.zeroCells te.zero.cells m).toList).toArray):=by
  obtain ⟨k,rfl⟩:∃ k,m = k + 1:=⟨m - 1,by omega⟩
  unfold Builtin.clear_
  simp [run_underlying hu,(hC.ti hte).run_zero]
  simp at hst
  rw [hst]
  simp [splice]
 refine ⟨.tuple #[],_,_,.inl ?_,h _ _ hzl (put_setRow hs hg),Same.refl _⟩
 unfold execOp
 rw [ho]
 simp only [resolve,invoke,builtin,List.map_toArray,List.map_cons,List.map_nil,hρ _ _ hx,Sem.run_bind,Sem.run_pure,Result.andThen_ok,hrun]
end
end Go.Eng
namespace Go.Eng
variable {α:Type}
theorem flat_get {enc:α -> List Value} {k:Nat} (hk:∀ x,(enc x).length = k):∀ (l:List α) (i c:Nat) (hi:i < l.length),c < k -> (l.flatMap enc)[i * k + c]? = (enc l[i])[c]?
 | [],i,c,hi,_ => by simp at hi
 | x :: l,0,c,_,hc => by
  rw [List.flatMap_cons,Nat.zero_mul,Nat.zero_add,List.getElem?_append_left (by rw [hk]; exact hc)]
  rfl
 | x :: l,i + 1,c,hi,hc => by
  rw [List.flatMap_cons,List.getElem?_append_right (by rw [hk,Nat.add_mul]; omega),hk]
  have e:(i + 1) * k + c - k = i * k + c:=by rw [Nat.add_mul]; omega
  rw [e,flat_get hk l i c (by simpa using hi) hc]
  rfl
theorem flat_length {enc:α -> List Value} {k:Nat} (hk:∀ x,(enc x).length = k) (l:List α):(l.flatMap enc).length = l.length * k:=by
 induction l with
 | nil => simp
 | cons x l ih => rw [List.flatMap_cons,List.length_append,hk,ih,List.length_cons,Nat.add_mul]; omega
end Go.Eng
namespace Go.Eng
open Go.RowKit
abbrev In64 (n:Int):Prop:=-9223372036854775808 <= n ∧ n <= 9223372036854775807
theorem fit {n:Int} (h:In64 n):IntKind.i64.wrap n = n:=IntWalk.i64_in n h
theorem wf64 {a:Int} (h:In64 a):(Lit.int .i64 a).wf = true:=by
 simp [Lit.wf,IntKind.min,IntKind.max,IntKind.bits,IntKind.signed]
 omega
theorem wf_in64 {a:Int} (h:(Lit.int .i64 a).wf = true):In64 a:=by
 simp [Lit.wf,IntKind.min,IntKind.max,IntKind.bits,IntKind.signed] at h
 omega
theorem brE_ndec {p:Prop} [Decidable p] {A B:Prop} (t:¬ p -> A) (f:p -> B):brE (!decide p) A B:=by
 by_cases h:p
 ·rw [decide_eq_true h]; exact f h
 ·rw [decide_eq_false h]; exact t h
def ints (xs:List Int):List Value:=xs.map (.int .i64 ·)
theorem ints_append (xs ys:List Int):ints (xs ++ ys) = ints xs ++ ints ys:=by simp [ints]
theorem ints_length (xs:List Int):(ints xs).length = xs.length:=by simp [ints]
theorem Reads.int {w:World} {A:Option Addr} {xs:List Int} (h:Reads w A (ints xs)) {i:Nat} (hi:i < xs.length):∃ b o,A = some ⟨b,o,none⟩ ∧ w.cell? ⟨b,o + i,none⟩ = some (.int .i64 xs[i]):=by
 rcases h with h | ⟨b,o,hA,hr⟩
 ·have:xs.length = 0:=by have:=congrArg List.length h; simpa [ints] using this
  omega
 ·exact ⟨b,o,hA,hr i _ (by simp [ints,hi])⟩
theorem Reads.elem {α:Type} {enc:α -> List Value} {k:Nat} (hk:∀ x,(enc x).length = k) (k0:0 < k) {w:World} {A:Option Addr} {l:List α} (h:Reads w A (l.flatMap enc)) {i:Nat} (hi:i < l.length) :
  ∃ b o,A = some ⟨b,o,none⟩ ∧ Rd w b (o + i * k) (enc l[i]):=by
 rcases h with h | ⟨b,o,hA,hr⟩
 ·have:=congrArg List.length h
  rw [flat_length hk] at this
  have:l.length * k = 0:=this
  rcases Nat.mul_eq_zero.1 this with h | h <;> omega
 ·refine ⟨b,o,hA,fun j v hv => ?_⟩
  have hj:j < k:=by
   have:=(List.getElem?_eq_some_iff.1 hv).1
   rwa [hk] at this
  have:=hr _ _ ((flat_get hk l i j hi hj).trans hv)
  rwa [<-Nat.add_assoc] at this
theorem own_ne {w:World} {base e size n g:Nat} {v:Value} {xs:List Value} {o:Obj} (h:w.ownsRow base e size v n xs) (hg:w.heap[g]? = some o) (ho:∀ c fr,o ≠ .cells c e fr):some g ≠ v.ownBlock:=by
 intro e
 obtain ⟨_,hv | ⟨g',cap,cur,hv,_,hg',_⟩⟩:=h
 ·rw [hv.1] at e; cases e
 ·rw [hv] at e
  have e:g = g':=by simpa [Value.ownBlock] using e
  subst e
  rw [hg] at hg'
  exact ho _ _ (Option.some.inj hg')
theorem ownsRow_len {w:World} {base e size n:Nat} {v:Value} {us:List Value} (h:w.ownsRow base e size v n us):n <= 9223372036854775807:=by
 obtain ⟨_,⟨_,rfl⟩ | ⟨_,cap,_,_,_,_,h1,h2,_⟩⟩:=h
 ·omega
 ·simp only [maxLen] at h2; omega
theorem eqFields_run {P:Program} {w:World} {d:Nat} {xs ys:Array Value} {f:Field -> Bool}:∀ {fs:List Field},(∀ x ∈ fs,x.name ≠ "_" ∧ ∃ u v,(part x.type xs x.offset).run P w = .ok u w ∧ (part x.type ys x.offset).run P w = .ok v w ∧ (Op.equalIn d x.type u v).run P w = .ok (f x) w) →
  (Op.eqFields d xs ys fs).run P w = .ok (fs.all f) w
 | [],_ => by simp [Op.eqFields]
 | x :: r,h => by
  obtain ⟨hn,u,v,h1,h2,h3⟩:=h x (by simp)
  rw [Op.eqFields,if_pos hn]
  simp only [Sem.run_bind,h1,h2,h3,Result.andThen_ok,List.all_cons]
  cases hf:f x with
  | false => simp
  | true => simpa using eqFields_run fun y hy => h y (by simp [hy])
theorem eqInt_run {P:Program} {t:Nat} {k:IntKind} (hu:P.underlying t = some (.int k)) (w:World) (d:Nat) (k':IntKind) (a b:Int):(Op.equalIn (d + 1) t (.int k' a) (.int k' b)).run P w = .ok (decide (a = b)) w:=by
 simp only [Op.equalIn,Sem.run_bind,run_underlying hu,Result.andThen_ok,if_true,Sem.run_pure]
 congr 1
theorem ba_beq (a b:ByteArray):(a.toList == b.toList) = decide (a = b):=by
 rw [Bool.eq_iff_iff]
 simp [ByteArray.toList_eq]
 exact ⟨fun h => ByteArray.ext h,fun h => by rw [h]⟩
theorem eqStr_run {P:Program} {t:Nat} (hu:P.underlying t = some .string) (w:World) (d:Nat) (a b:ByteArray):(Op.equalIn (d + 1) t (.string a) (.string b)).run P w = .ok (decide (a = b)) w:=by
 rw [run_equalIn_string w d t a b hu]
 rw [ba_beq]
end Go.Eng
namespace Go.Proofs.YtigapannpbaihaaGreat
open Go.Eng Go.RowKit
open Go.Maps (Keyed)
theorem laidOut:laidOutB Tryz.prog = true:=by kernel_rfl
theorem under3:Tryz.prog.underlying 3 = some (.int .i64):=by kernel_rfl
theorem under4:Tryz.prog.underlying 4 = some .bool:=by kernel_rfl
theorem under5:Tryz.prog.underlying 5 = some (.int .u8):=by kernel_rfl
theorem under9:Tryz.prog.underlying 9 = some .string:=by kernel_rfl
theorem intK:Keyed C.P 3:=Go.Maps.int_keyed under3
theorem intKey {x:Int} (h:In64 x):keyOf C.P 3 (.int .i64 x) = some (.int .i64 x):=Go.Maps.keyOf_int_mk under3 (wf64 h)
def NewInts (B:Nat) (w:World) (v:Value) (xs:List Int):Prop:=w.ownsRow B 3 1 v xs.length (ints xs)
theorem NewInts.slice {B:Nat} {w:World} {v:Value} {xs:List Int} (h:NewInts B w v xs):∃ A c,v = .slice A xs.length c ∧ Reads w A (ints xs) ∧ xs.length <= c:=reads_of_owns h
theorem NewInts.base {B B':Nat} {w:World} {v:Value} {xs:List Int} (h:NewInts B' w v xs) (hb:B <= B'):NewInts B w v xs:=ownsRow_base h hb
theorem NewInts.ext {B:Nat} {w w':World} {v:Value} {xs:List Int} (h:NewInts B w v xs) (e:Ext w w'):NewInts B w' v xs:=ownsRow_ext h e
theorem newInts_nil (B:Nat) (w:World):NewInts B w (.slice none 0 0) []:=World.ownsRow_nil _ _ _ _
theorem neqBool (x y:Operand) (a b:Bool):EqIs C.P .neq 4 x y (.bool a) (.bool b) (a != b):=by
 intro w
 have hu:C.P.underlying 4 = some .bool:=under4
 have h1:(eqGuard .neq 4 x y (.bool a) (.bool b)).run C.P w = .ok () w:=by simp [eqGuard]
 rw [Sem.run_bind,h1]
 simp only [Result.andThen_ok]
 have h2:=run_equalIn_bool' (P:=C.P) w 9999 4 a b hu
 simp only [binOp]
 simp [Op.equal,Op.maxDepth,h2]
 cases a <;> cases b <;> rfl
theorem eqBool (x y:Operand) (a b:Bool):EqIs C.P .eql 4 x y (.bool a) (.bool b) (a == b):=by
 intro w
 have hu:C.P.underlying 4 = some .bool:=under4
 have h1:(eqGuard .eql 4 x y (.bool a) (.bool b)).run C.P w = .ok () w:=by simp [eqGuard]
 rw [Sem.run_bind,h1]
 simp only [Result.andThen_ok]
 have h2:=run_equalIn_bool' (P:=C.P) w 9999 4 a b hu
 simp only [binOp]
 simp [Op.equal,Op.maxDepth,h2]
theorem eqStr (x y:Operand) (a b:ByteArray):EqIs C.P .eql 9 x y (.string a) (.string b) (decide (a = b)):=by
 intro w
 have h1:(eqGuard .eql 9 x y (.string a) (.string b)).run C.P w = .ok () w:=by simp [eqGuard]
 rw [Sem.run_bind,h1]
 simp only [Result.andThen_ok]
 show (Op.stringOp .eql a b).run C.P w = _
 simp [Op.stringOp,ba_beq]
theorem neqStr (x y:Operand) (a b:ByteArray):EqIs C.P .neq 9 x y (.string a) (.string b) (!decide (a = b)):=by
 intro w
 have h1:(eqGuard .neq 9 x y (.string a) (.string b)).run C.P w = .ok () w:=by simp [eqGuard]
 rw [Sem.run_bind,h1]
 simp only [Result.andThen_ok]
 show (Op.stringOp .neq a b).run C.P w = _
 simp [Op.stringOp,ba_beq]
end Go.Proofs.YtigapannpbaihaaGreat
namespace Go.Proofs.YtigapannpbaihaaGreat
open Go.Eng Go.RowKit
structure Fact where
 id:Int
 known:Int
 kind:Int
 who:Int
 what:Int
 other:Int
 since:Int
 til:Int
 name:ByteArray
deriving DecidableEq
def factZ:Fact:=⟨0,0,0,0,0,0,0,0,⟨#[]⟩⟩
instance:Inhabited Fact:=⟨factZ⟩
def Fact.cells (x:Fact):List Value:=[.int .i64 x.id,.int .i64 x.known,.int .u8 x.kind,.int .i64 x.who,.int .i64 x.what,.int .i64 x.other,.int .i64 x.since,.int .i64 x.til,.string x.name]
def Fact.val (x:Fact):Value:=.agg x.cells.toArray
def fcells (l:List Fact):List Value:=l.flatMap Fact.cells
theorem fcells_append (a b:List Fact):fcells (a ++ b) = fcells a ++ fcells b:=by simp [fcells]
theorem fcells_one (x:Fact):fcells [x] = x.cells:=by simp [fcells]
def knownL (k:Int) (l:List Fact):List Fact:=l.takeWhile fun x => decide (x.known <= k)
def voidedBy (acc:List Fact) (n:Int):Bool:=acc.any fun y => decide (y.kind = 11 ∧ y.what = n)
def backL:List Fact -> List Fact -> List Fact
 | acc,[] => acc
 | acc,x :: r => if voidedBy acc x.id = true then backL acc r else backL (acc ++ [x]) r
def countL (k:Int) (l:List Fact):List Fact:=(backL [] (knownL k l).reverse).reverse
def holdsB (day:Int) (x:Fact):Bool:=decide (x.since <= day ∧ (x.til = 0 ∨ day < x.til))
def atL (k day:Int) (l:List Fact):List Fact:=(countL k l).filter fun x => !decide (x.kind = 11) && holdsB day x
def insD (n:Int):List Int -> List Int
 | [] => [n]
 | x :: r => if n < x then n :: x :: r else if n = x then x :: r else x :: insD n r
def sortD (l:List Int):List Int:=l.foldl (fun acc x => insD x acc) []
theorem mem_insD {n x:Int}:∀ {l:List Int},x ∈ insD n l <-> x = n ∨ x ∈ l
 | [] => by simp [insD]
 | y :: r => by
  unfold insD
  split
  ·simp
  ·split
   ·rename_i h; subst h; simp
   ·rw [List.mem_cons,mem_insD (l:=r),List.mem_cons]
    constructor
    ·rintro (h | h | h)
     ·exact .inr (.inl h)
     ·exact .inl h
     ·exact .inr (.inr h)
    ·rintro (h | h | h)
     ·exact .inr (.inl h)
     ·exact .inl h
     ·exact .inr (.inr h)
theorem insD_asc {n:Int}:∀ {l:List Int},l.Pairwise (· < ·) -> (insD n l).Pairwise (· < ·)
 | [],_ => by simp [insD]
 | y :: r,h => by
  obtain ⟨h1,h2⟩:=List.pairwise_cons.1 h
  unfold insD
  split
  ·rename_i hn
   refine List.pairwise_cons.2 ⟨fun a ha => ?_,h⟩
   rcases List.mem_cons.1 ha with rfl | ha
   ·exact hn
   ·exact Int.lt_trans hn (h1 a ha)
  ·split
   ·exact h
   ·rename_i h3 h4
    refine List.pairwise_cons.2 ⟨fun a ha => ?_,insD_asc h2⟩
    rcases mem_insD.1 ha with rfl | ha
    ·omega
    ·exact h1 a ha
theorem foldD {l:List Int}:∀ {acc:List Int},acc.Pairwise (· < ·) -> (l.foldl (fun acc x => insD x acc) acc).Pairwise (· < ·) ∧ ∀ x,x ∈ l.foldl (fun acc x => insD x acc) acc <-> x ∈ l ∨ x ∈ acc:=by
 induction l with
 | nil => intro acc h; exact ⟨h,fun x => by simp⟩
 | cons y r ih =>
  intro acc h
  obtain ⟨h1,h2⟩:=ih (insD_asc (n:=y) h)
  refine ⟨h1,fun x => ?_⟩
  rw [List.foldl_cons,h2,mem_insD,List.mem_cons]
  constructor
  ·rintro (h | h | h)
   ·exact .inl (.inr h)
   ·exact .inl (.inl h)
   ·exact .inr h
  ·rintro ((h | h) | h)
   ·exact .inr (.inl h)
   ·exact .inl h
   ·exact .inr (.inr h)
theorem sortD_asc (l:List Int):(sortD l).Pairwise (· < ·):=(foldD List.Pairwise.nil).1
theorem mem_sortD {l:List Int} {x:Int}:x ∈ sortD l <-> x ∈ l:=by
 unfold sortD
 rw [(foldD List.Pairwise.nil).2 x]
 simp
theorem asc_eq {a b:List Int} (ha:a.Pairwise (· < ·)) (hb:b.Pairwise (· < ·)) (h:∀ x,x ∈ a <-> x ∈ b):a = b:=by
 have na:a.Nodup:=ha.imp fun h e => by subst e; exact Int.lt_irrefl _ h
 have nb:b.Nodup:=hb.imp fun h e => by subst e; exact Int.lt_irrefl _ h
 exact List.Perm.eq_of_pairwise (fun a b _ _ h1 h2 => absurd (Int.lt_trans h1 h2) (Int.lt_irrefl _)) ha hb ((List.perm_ext_iff_of_nodup na nb).2 h)
theorem sortD_eq {a l:List Int} (ha:a.Pairwise (· < ·)) (h:∀ x,x ∈ a <-> x ∈ l):a = sortD l:=asc_eq ha (sortD_asc l) fun x => (h x).trans mem_sortD.symm
theorem asc_length {a:List Int} {l:List Int} (ha:a.Pairwise (· < ·)) (h:∀ x ∈ a,x ∈ l):a.length <= l.length:=by
 induction a generalizing l with
 | nil => simp
 | cons x r ih =>
  obtain ⟨h1,h2⟩:=List.pairwise_cons.1 ha
  have hx:x ∈ l:=h x (by simp)
  have:=ih (l:=l.erase x) h2 fun y hy => by
   have hne:y ≠ x:=fun e => by subst e; exact Int.lt_irrefl _ (h1 y hy)
   exact (List.mem_erase_of_ne hne).2 (h y (by simp [hy]))
  rw [List.length_erase_of_mem hx] at this
  have hp:0 < l.length:=List.length_pos_of_mem hx
  simp; omega
theorem sortD_length (l:List Int):(sortD l).length <= l.length:=asc_length (sortD_asc l) fun _ h => mem_sortD.1 h
end Go.Proofs.YtigapannpbaihaaGreat
namespace Go.Proofs.YtigapannpbaihaaGreat
open Go.Eng Go.RowKit
abbrev idB (n:Int):Bool:=decide (1 <= n ∧ n <= 1000000)
abbrev dayB (n:Int):Bool:=decide (0 <= n ∧ n <= 100000)
def chB (c:UInt8):Bool:=decide (97 <= c.toNat ∧ c.toNat <= 122) || decide (48 <= c.toNat ∧ c.toNat <= 57) || decide (c.toNat = 32) || decide (c.toNat = 45)
def nameB (s:List UInt8):Bool:=decide (1 <= s.length ∧ s.length <= 24) && !decide (s.head? = some 32) && !decide (s.getLast? = some 32) && s.all chB
def offs (k:Int):List Nat :=
 if k = 1 ∨ k = 6 ∨ k = 9 then [3,5,6,7] else if k = 5 then [3,4,6,7] else if k = 7 then [3,6,7] else if k = 10 then [3,6] else if k = 11 then [4] else [3,4,5,6,7]
def rightB (x:Fact):Bool :=
 if x.kind = 1 then idB x.who && decide (1 <= x.other ∧ x.other <= 3)
 else if x.kind = 2 ∨ x.kind = 3 then idB x.who && idB x.what && decide (1 <= x.other ∧ x.other <= 4)
 else if x.kind = 4 then idB x.who && idB x.what && idB x.other
 else if x.kind = 5 then idB x.who && idB x.what
 else if x.kind = 6 ∨ x.kind = 9 then idB x.who && idB x.other && !decide (x.who = x.other)
 else if x.kind = 7 then idB x.who
 else if x.kind = 8 then idB x.who && idB x.what && decide (1 <= x.other ∧ x.other <= 2)
 else if x.kind = 10 then idB x.who
 else if x.kind = 11 then idB x.what && !decide (x.what = x.id)
 else false
def restB (x:Fact):Bool :=
 (decide (3 ∈ offs x.kind) || decide (x.who = 0)) && (decide (4 ∈ offs x.kind) || decide (x.what = 0)) && (decide (5 ∈ offs x.kind) || decide (x.other = 0)) &&
 (decide (6 ∈ offs x.kind) || decide (x.since = 0)) && (decide (7 ∈ offs x.kind) || decide (x.til = 0)) && (decide (x.kind = 1) || decide (x.name = ⟨#[]⟩))
def headB (x:Fact):Bool:=decide (1 <= x.kind ∧ x.kind <= 11) && idB x.id && dayB x.known && dayB x.since && (decide (x.til = 0) || decide (x.since < x.til ∧ x.til <= 100000))
def formE (x:Fact):Int:=if (headB x && restB x && rightB x) = true then (if x.kind = 1 ∧ nameB x.name.data.toList = false then 4 else 0) else 1
def idIn (l:List Fact) (n:Int):Bool:=l.any fun y => decide (y.id = n)
def namedIn (l:List Fact) (s:Int):Bool:=l.any fun y => decide (y.kind = 1 ∧ y.who = s)
def whos (l:List Fact):List Int:=(l.filter fun y => decide (y.kind = 1)).map Fact.who
def statesN (l:List Fact):Nat:=(sortD (whos l)).length
def speaks (x:Fact):List Int:=if x.kind = 2 ∨ x.kind = 3 ∨ x.kind = 5 ∨ x.kind = 8 then [x.what] else if x.kind = 4 then [x.who,x.what] else if x.kind = 7 then [x.who] else []
def behindE (l:List Fact) (x:Fact):Int :=
 if formE x ≠ 0 then formE x
 else if 300 <= l.length then 2
 else if l.getLast?.any (fun y => decide (x.known < y.known)) = true then 7
 else if idIn l x.id = true then 6
 else if (speaks x).all (namedIn l) = false then 5
 else if x.kind = 11 ∧ idIn l x.what = false then 5
 else if x.kind = 1 ∧ namedIn l x.who = false ∧ 200 <= statesN l then 2
 else 0
def chkG (seen:List Fact):List Fact -> Nat × Int
 | [] => (0,0)
 | x :: r => if behindE seen x ≠ 0 then (seen.length,behindE seen x) else chkG (seen ++ [x]) r
def chkF (l:List Fact):Nat × Int:=chkG [] l
theorem chkG_at {l:List Fact} {i:Nat} (hi:i < l.length):chkG (l.take i) (l.drop i) = if behindE (l.take i) l[i] ≠ 0 then (i,behindE (l.take i) l[i]) else chkG (l.take (i + 1)) (l.drop (i + 1)):=by
 rw [List.drop_eq_getElem_cons hi,chkG,List.take_succ_eq_append_getElem hi,List.length_take,Nat.min_eq_left (Nat.le_of_lt hi)]
end Go.Proofs.YtigapannpbaihaaGreat
namespace Go.Proofs.YtigapannpbaihaaGreat
open Go.Eng Go.RowKit
structure Waiv where
 id:Int
 day:Int
 signer:Int
 giver:Int
 taker:Int
 under:Int
 over:Int
 since:Int
 til:Int
deriving DecidableEq
structure Gift where
 id:Int
 day:Int
 frm:Int
 to:Int
 cur:Int
 n:Int
 worth:Int
 state:Int
 answered:Int
 returns:Int
deriving DecidableEq
structure Entry where
 kind:Int
 day:Int
 w:Waiv
 g:Gift
 a:Int
 b:Int
 n:Int
deriving DecidableEq
def waivZ:Waiv:=⟨0,0,0,0,0,0,0,0,0⟩
def giftZ:Gift:=⟨0,0,0,0,0,0,0,0,0,0⟩
def entryZ:Entry:=⟨0,0,waivZ,giftZ,0,0,0⟩
instance:Inhabited Waiv:=⟨waivZ⟩
instance:Inhabited Gift:=⟨giftZ⟩
instance:Inhabited Entry:=⟨entryZ⟩
def Waiv.cells (x:Waiv):List Value:=[.int .i64 x.id,.int .i64 x.day,.int .i64 x.signer,.int .i64 x.giver,.int .i64 x.taker,.int .i64 x.under,.int .i64 x.over,.int .i64 x.since,.int .i64 x.til]
def Gift.cells (x:Gift):List Value:=[.int .i64 x.id,.int .i64 x.day,.int .i64 x.frm,.int .i64 x.to,.int .u8 x.cur,.int .i64 x.n,.int .i64 x.worth,.int .u8 x.state,.int .i64 x.answered,.int .i64 x.returns]
def Entry.cells (x:Entry):List Value:=[.int .u8 x.kind,.int .i64 x.day,
 .int .i64 x.w.id,.int .i64 x.w.day,.int .i64 x.w.signer,.int .i64 x.w.giver,.int .i64 x.w.taker,.int .i64 x.w.under,.int .i64 x.w.over,.int .i64 x.w.since,.int .i64 x.w.til,
 .int .i64 x.g.id,.int .i64 x.g.day,.int .i64 x.g.frm,.int .i64 x.g.to,.int .u8 x.g.cur,.int .i64 x.g.n,.int .i64 x.g.worth,.int .u8 x.g.state,.int .i64 x.g.answered,.int .i64 x.g.returns,
 .int .i64 x.a,.int .i64 x.b,.int .i64 x.n]
def Waiv.val (x:Waiv):Value:=.agg x.cells.toArray
def Gift.val (x:Gift):Value:=.agg x.cells.toArray
def Entry.val (x:Entry):Value:=.agg x.cells.toArray
abbrev inB (n a b:Int):Bool:=decide (a <= n ∧ n <= b)
def rightW (w:Waiv):Bool :=
 inB w.id 1 500 && idB w.signer && idB w.giver && idB w.taker && !decide (w.giver = w.taker) && (decide (w.under = 0) || idB w.under) && (decide (w.over = 0) || idB w.over) &&
 (decide (w.under = 0) || !decide (w.under = w.over)) && inB w.day 0 100000 && decide (w.day <= w.since) && decide (w.since < w.til) && decide (w.til <= 100000)
def rightG (g:Gift):Bool :=
 inB g.id 1 500 && idB g.frm && idB g.to && !decide (g.frm = g.to) && inB g.returns 0 500 && !decide (g.returns = g.id) && inB g.cur 1 2 && inB g.n 1 1000000
def plainG (g:Gift):Gift:=⟨g.id,g.day,g.frm,g.to,g.cur,g.n,0,0,0,g.returns⟩
def wantE (x:Entry):Entry :=
 if x.kind = 1 ∨ x.kind = 2 then ⟨x.kind,x.day,waivZ,giftZ,x.a,0,x.n⟩
 else if x.kind = 3 then ⟨x.kind,x.day,x.w,giftZ,0,0,0⟩
 else if x.kind = 4 then ⟨x.kind,x.day,{ waivZ with id:=x.w.id },giftZ,0,0,0⟩
 else if x.kind = 5 then ⟨x.kind,x.day,waivZ,plainG x.g,0,0,0⟩
 else if x.kind = 6 ∨ x.kind = 7 then ⟨x.kind,x.day,waivZ,{ giftZ with id:=x.g.id },0,0,0⟩
 else ⟨x.kind,x.day,waivZ,giftZ,0,0,0⟩
def okE (x:Entry):Bool :=
 if x.kind = 1 then inB x.a 1 2 && inB x.n 1 1000000
 else if x.kind = 2 then idB x.a && inB x.n 1 1000000000000
 else if x.kind = 3 then rightW x.w && decide (x.w.day = x.day)
 else if x.kind = 4 then inB x.w.id 1 500
 else if x.kind = 5 then rightG x.g && decide (x.g.day = x.day)
 else if x.kind = 6 ∨ x.kind = 7 then inB x.g.id 1 500
 else false
def formX (x:Entry):Bool:=okE x && decide (x = wantE x) && dayB x.day
def atN {α:Type} [Inhabited α] (l:List α) (i:Int):α:=l.getD (i - 1).toNat default
def updAt {α:Type} [Inhabited α] (l:List α) (i:Int) (f:α -> α):List α:=l.set (i - 1).toNat (f (atN l i))
def endW (d:Int) (w:Waiv):Waiv:={ w with til:=min w.til (max d w.since) }
def waivS (l:List Waiv) (x:Entry):List Waiv:=if x.kind = 3 then l ++ [x.w] else if x.kind = 4 then updAt l x.w.id (endW x.day) else l
def waivL (es:List Entry):List Waiv:=es.foldl waivS []
structure Due where
 cred:Int
 debt:Int
 waiver:Int
deriving DecidableEq
def dueZ:Due:=⟨0,0,0⟩
instance:Inhabited Due:=⟨dueZ⟩
def dueS (l:List Due) (w:Waiv):List Due :=
 if l.any (fun d => decide (d.cred = w.taker ∧ d.debt = w.giver)) = true then l.filter (fun d => !decide (d.cred = w.taker ∧ d.debt = w.giver)) else l ++ [⟨w.giver,w.taker,w.id⟩]
def grantsL (es:List Entry):List Waiv:=(es.filter fun x => decide (x.kind = 3)).map Entry.w
def dueL (es:List Entry):List Due:=(grantsL es).foldl dueS []
def owesB (l:List Due) (c d:Int):Bool:=l.any fun x => decide (x.cred = c ∧ x.debt = d)
def rateS (n:Int) (c:Int) (x:Entry):Int:=if x.kind = 1 ∧ x.a = c then x.n else n
def rateL (es:List Entry) (c:Int):Int:=es.foldl (fun n x => rateS n c x) 0
def ceilS (n:Int) (s:Int) (x:Entry):Int:=if x.kind = 2 ∧ x.a = s then x.n else n
def ceilL (es:List Entry) (s:Int):Int:=es.foldl (fun n x => ceilS n s x) 0
def metB (id:Int) (g:Gift):Bool:=decide (g.returns = id ∧ (g.state = 2 ∨ g.state = 4))
def metW (id:Int) (g:Gift):Int:=if metB id g = true then g.worth else 0
def metL (gs:List Gift) (id:Int):Int:=(gs.map (metW id)).sum
def takeG (d:Int) (g:Gift):Gift:={ g with state:=2,answered:=d }
def refuseG (d:Int) (g:Gift):Gift:={ g with state:=3,answered:=d }
def backG (g:Gift):Gift:={ g with state:=4 }
def baseS (es:List Entry) (gs:List Gift) (x:Entry):List Gift :=
 if x.kind = 5 then gs ++ [{ x.g with worth:=x.g.n * rateL es x.g.cur,state:=1 }]
 else if x.kind = 6 then updAt gs x.g.id (takeG x.day)
 else if x.kind = 7 then updAt gs x.g.id (refuseG x.day) else gs
def meetS (gs:List Gift) (x:Entry):List Gift :=
 if x.kind = 6 then
  let r:=(atN gs x.g.id).returns
  if r = 0 then gs else if (atN gs r).worth <= metL gs r then updAt gs r backG else gs
 else gs
def giftS (es:List Entry) (gs:List Gift) (x:Entry):List Gift:=meetS (baseS es gs x) x
def foldG (step:List Entry -> List Gift -> Entry -> List Gift):List Entry -> List Gift -> List Entry -> List Gift
 | _,gs,[] => gs
 | seen,gs,x :: r => foldG step (seen ++ [x]) (step seen gs x) r
def giftL (es:List Entry):List Gift:=foldG giftS [] [] es
def baseL (es:List Entry):List Gift:=foldG baseS [] [] es
theorem waivL_snoc (es:List Entry) (x:Entry):waivL (es ++ [x]) = waivS (waivL es) x:=by simp [waivL]
theorem rateL_snoc (es:List Entry) (x:Entry) (c:Int):rateL (es ++ [x]) c = rateS (rateL es c) c x:=by simp [rateL]
theorem ceilL_snoc (es:List Entry) (x:Entry) (c:Int):ceilL (es ++ [x]) c = ceilS (ceilL es c) c x:=by simp [ceilL]
theorem foldG_snoc (step:List Entry -> List Gift -> Entry -> List Gift):∀ (es seen:List Entry) (gs:List Gift) (x:Entry),foldG step seen gs (es ++ [x]) = step (seen ++ es) (foldG step seen gs es) x
 | [],seen,gs,x => by simp [foldG]
 | y :: r,seen,gs,x => by
  show foldG step (seen ++ [y]) (step seen gs y) (r ++ [x]) = _
  rw [foldG_snoc step r,List.append_assoc]; rfl
theorem giftL_snoc (es:List Entry) (x:Entry):giftL (es ++ [x]) = giftS es (giftL es) x:=foldG_snoc giftS es [] [] x
theorem baseL_snoc (es:List Entry) (x:Entry):baseL (es ++ [x]) = baseS es (baseL es) x:=foldG_snoc baseS es [] [] x
theorem grantsL_snoc (es:List Entry) (x:Entry):grantsL (es ++ [x]) = grantsL es ++ if x.kind = 3 then [x.w] else []:=by
 unfold grantsL
 rw [List.filter_append,List.map_append,List.filter_cons,List.filter_nil]
 by_cases h:x.kind = 3
 ·rw [if_pos (by simpa using h),if_pos h]; rfl
 ·rw [if_neg (by simpa using h),if_neg h]; rfl
theorem dueL_snoc (es:List Entry) (x:Entry):dueL (es ++ [x]) = if x.kind = 3 then dueS (dueL es) x.w else dueL es:=by
 unfold dueL
 rw [grantsL_snoc]
 split <;> simp
def lastDay (es:List Entry):Int:=(es.getLast?.map Entry.day).getD 0
def grantedE (sg:Int) (es:List Entry) (w:Waiv):Int :=
 if 500 <= (waivL es).length then 2 else if ¬ w.id = (waivL es).length + 1 then 1 else if sg ≠ 0 then sg else if owesB (dueL es) w.giver w.taker = true then 61 else 0
def offeredE (es:List Entry) (g:Gift):Int :=
 if 500 <= (giftL es).length then 2 else if ¬ g.id = (giftL es).length + 1 then 1 else if rateL es g.cur = 0 then 8 else if g.returns > (giftL es).length then 5
 else if g.returns > 0 ∧ (let r:=atN (giftL es) g.returns; ¬ (r.frm = g.to ∧ r.to = g.frm ∧ r.returns = 0 ∧ r.state = 2)) then 8
 else if ceilL es g.to > 0 ∧ g.n * rateL es g.cur > ceilL es g.to then 2 else 0
def refusedE (sg:Int) (es:List Entry) (x:Entry):Int :=
 if x.kind = 3 then grantedE sg es x.w
 else if x.kind = 4 then (if x.w.id > (waivL es).length then 5 else if (atN (waivL es) x.w.id).til <= x.day then 8 else 0)
 else if x.kind = 5 then offeredE es x.g
 else if x.kind = 6 ∨ x.kind = 7 then (if x.g.id > (giftL es).length then 5 else if ¬ (atN (giftL es) x.g.id).state = 1 then 8 else 0)
 else 0
def doE (sg:Int) (es:List Entry) (x:Entry):Int:=if formX x = false then 1 else if x.day < lastDay es then 7 else refusedE sg es x
inductive Acc:List Entry -> Prop
 | nil:Acc []
 | snoc {es:List Entry} {x:Entry} (sg:Int):Acc es -> doE sg es x = 0 -> Acc (es ++ [x])
end Go.Proofs.YtigapannpbaihaaGreat
namespace Go.Proofs.YtigapannpbaihaaGreat
open Go.Eng Go.RowKit
theorem atN_get {α:Type} [Inhabited α] {l:List α} {k:Nat} (h:k < l.length):atN l ((k + 1:Nat):Int) = l[k]:=by
 unfold atN
 have:(((k + 1:Nat):Int) - 1).toNat = k:=by omega
 rw [this,List.getD_eq_getElem?_getD,List.getElem?_eq_getElem h]; rfl
theorem num_of {n:Nat} {i:Int} (h1:1 <= i) (h2:i <= n):∃ k:Nat,k < n ∧ i = ((k + 1:Nat):Int):=⟨(i - 1).toNat,by omega,by omega⟩
theorem updAt_eq {α:Type} [Inhabited α] {l:List α} {k:Nat} (h:k < l.length) (f:α -> α):updAt l ((k + 1:Nat):Int) f = l.set k (f l[k]):=by
 unfold updAt
 rw [atN_get h]
 have:(((k + 1:Nat):Int) - 1).toNat = k:=by omega
 rw [this]
theorem updAt_length {α:Type} [Inhabited α] (l:List α) (i:Int) (f:α -> α):(updAt l i f).length = l.length:=by simp [updAt]
theorem sum_set {α:Type} (h:α -> Int):∀ {l:List α} {k:Nat} (hk:k < l.length) (y:α),((l.set k y).map h).sum = (l.map h).sum - h l[k] + h y
 | x :: l,0,_,y => by simp; omega
 | x :: l,k + 1,hk,y => by
  have ih:=sum_set h (l:=l) (k:=k) (by simpa using hk) y
  simp only [List.set_cons_succ,List.map_cons,List.sum_cons,List.getElem_cons_succ]
  omega
def unmark (g:Gift):Gift:=if g.state = 4 then { g with state:=2 } else g
structure GiftsOk (gs:List Gift):Prop where
 ids:∀ i (h:i < gs.length),gs[i].id = ((i + 1:Nat):Int)
 len:gs.length <= 500
 worth:∀ i (h:i < gs.length),1 <= gs[i].worth ∧ gs[i].worth <= 1000000000000
 states:∀ i (h:i < gs.length),1 <= gs[i].state ∧ gs[i].state <= 4
 refs:∀ i (h:i < gs.length),gs[i].returns = 0 ∨ ∃ k,∃ hk:k < gs.length,gs[i].returns = ((k + 1:Nat):Int) ∧ k ≠ i ∧ gs[k].returns = 0 ∧ (gs[k].state = 2 ∨ gs[k].state = 4) ∧ gs[k].frm = gs[i].to ∧ gs[k].to = gs[i].frm
 back:∀ i (h:i < gs.length),gs[i].returns ≠ 0 -> gs[i].state ≠ 4
 marks:∀ i (h:i < gs.length),gs[i].returns = 0 -> (gs[i].state = 4 <-> (gs[i].state = 2 ∨ gs[i].state = 4) ∧ gs[i].worth <= metL gs gs[i].id)
 sides:∀ i (h:i < gs.length),gs[i].frm ≠ gs[i].to
theorem metW_nonneg {gs:List Gift} (h:GiftsOk gs) {id:Int} {i:Nat} (hi:i < gs.length):0 <= metW id gs[i] ∧ metW id gs[i] <= 1000000000000:=by
 have:=h.worth i hi
 unfold metW
 split <;> omega
theorem sum_bounds {α:Type} (f:α -> Int) (m:Int):∀ (l:List α),(∀ x ∈ l,0 <= f x ∧ f x <= m) -> 0 <= (l.map f).sum ∧ (l.map f).sum <= l.length * m
 | [],_ => by simp
 | x :: r,h => by
  have ih:=sum_bounds f m r fun y hy => h y (by simp [hy])
  have hx:=h x (by simp)
  simp only [List.map_cons,List.sum_cons,List.length_cons]
  refine ⟨by omega,?_⟩
  rw [Int.natCast_add,Int.add_mul]
  omega
theorem metL_bounds {gs:List Gift} (h:GiftsOk gs) (id:Int):0 <= metL gs id ∧ metL gs id <= 500000000000000:=by
 have:=sum_bounds (metW id) 1000000000000 gs fun x hx => by
  obtain ⟨i,hi,rfl⟩:=List.getElem_of_mem hx
  exact metW_nonneg h hi
 have hl:=h.len
 unfold metL
 refine ⟨this.1,Int.le_trans this.2 ?_⟩
 omega
theorem metL_none {gs:List Gift} {id:Int} (h:∀ g ∈ gs,metB id g = false):metL gs id = 0:=by
 unfold metL
 induction gs with
 | nil => rfl
 | cons g r ih =>
  rw [List.map_cons,List.sum_cons,ih fun x hx => h x (by simp [hx])]
  unfold metW
  rw [if_neg (by rw [h g (by simp)]; decide)]; rfl
theorem metL_snoc (gs:List Gift) (g:Gift) (id:Int):metL (gs ++ [g]) id = metL gs id + metW id g:=by
 unfold metL
 simp [List.sum_append]
theorem metL_set {gs:List Gift} {k:Nat} (hk:k < gs.length) (y:Gift) (id:Int):metL (gs.set k y) id = metL gs id - metW id gs[k] + metW id y:=sum_set (metW id) hk y
theorem GiftsOk.nil:GiftsOk [] :=
 ⟨fun _ h => absurd h (Nat.not_lt_zero _),Nat.zero_le _,fun _ h => absurd h (Nat.not_lt_zero _),fun _ h => absurd h (Nat.not_lt_zero _),fun _ h => absurd h (Nat.not_lt_zero _),fun _ h => absurd h (Nat.not_lt_zero _),fun _ h => absurd h (Nat.not_lt_zero _),fun _ h => absurd h (Nat.not_lt_zero _)⟩
theorem GiftsOk.offer {gs:List Gift} (h:GiftsOk gs) {g:Gift} (hl:gs.length < 500) (hid:g.id = ((gs.length + 1:Nat):Int)) (hw:1 <= g.worth ∧ g.worth <= 1000000000000) (hs:g.state = 1) (hft:g.frm ≠ g.to)
  (hr:g.returns = 0 ∨ ∃ k,∃ hk:k < gs.length,g.returns = ((k + 1:Nat):Int) ∧ gs[k].returns = 0 ∧ gs[k].state = 2 ∧ gs[k].frm = g.to ∧ gs[k].to = g.frm):GiftsOk (gs ++ [g]):=by
 have hm:∀ id,metW id g = 0:=fun id => by
  unfold metW metB
  rw [if_neg]
  simp [hs]
 have hL:(gs ++ [g]).length = gs.length + 1:=by simp
 have get:∀ i (hi:i < (gs ++ [g]).length),(∃ hi':i < gs.length,(gs ++ [g])[i] = gs[i]) ∨ (i = gs.length ∧ (gs ++ [g])[i] = g):=fun i hi => by
  rcases Nat.lt_or_ge i gs.length with h1 | h1
  ·exact .inl ⟨h1,List.getElem_append_left h1⟩
  ·have:i = gs.length:=by omega
   subst this
   exact .inr ⟨rfl,by simp⟩
 refine ⟨fun i hi => ?_,by omega,fun i hi => ?_,fun i hi => ?_,fun i hi => ?_,fun i hi => ?_,fun i hi => ?_,fun i hi => ?_⟩
 ·rcases get i hi with ⟨hi',e⟩ | ⟨rfl,e⟩
  ·rw [e]; exact h.ids i hi'
  ·rw [e]; exact hid
 ·rcases get i hi with ⟨hi',e⟩ | ⟨rfl,e⟩
  ·rw [e]; exact h.worth i hi'
  ·rw [e]; exact hw
 ·rcases get i hi with ⟨hi',e⟩ | ⟨rfl,e⟩
  ·rw [e]; exact h.states i hi'
  ·rw [e,hs]; decide
 ·rcases get i hi with ⟨hi',e⟩ | ⟨rfl,e⟩
  ·rw [e]
   rcases h.refs i hi' with h1 | ⟨k,hk,h1,h2,h3⟩
   ·exact .inl h1
   ·exact .inr ⟨k,by omega,h1,h2,by rw [List.getElem_append_left hk]; exact h3⟩
  ·rw [e]
   rcases hr with h1 | ⟨k,hk,h1,h2,h3,h4⟩
   ·exact .inl h1
   ·exact .inr ⟨k,by omega,h1,by omega,by rw [List.getElem_append_left hk]; exact ⟨h2,.inl h3,h4⟩⟩
 ·rcases get i hi with ⟨hi',e⟩ | ⟨rfl,e⟩
  ·rw [e]; exact h.back i hi'
  ·rw [e,hs]; intro _; decide
 ·rcases get i hi with ⟨hi',e⟩ | ⟨rfl,e⟩
  ·rw [e,metL_snoc,hm,Int.add_zero]; exact h.marks i hi'
  ·rw [e,hs]; intro _; simp
 ·rcases get i hi with ⟨hi',e⟩ | ⟨rfl,e⟩
  ·rw [e]; exact h.sides i hi'
  ·rw [e]; exact hft
theorem GiftsOk.unmet {gs:List Gift} (h:GiftsOk gs) {k:Nat} (hk:k < gs.length) (hs:gs[k].state = 1 ∨ gs[k].state = 3):metL gs gs[k].id = 0:=by
 refine metL_none fun g hg => ?_
 obtain ⟨i,hi,rfl⟩:=List.getElem_of_mem hg
 unfold metB
 refine decide_eq_false ?_
 rintro ⟨h1,_⟩
 rcases h.refs i hi with h2 | ⟨k',hk',h2,_,_,h3,_⟩
 ·have:=h.ids k hk; omega
 ·have:=h.ids k hk
  have:k' = k:=by omega
  subst this
  omega
theorem GiftsOk.answer {gs:List Gift} (h:GiftsOk gs) {k:Nat} (hk:k < gs.length) (hs:gs[k].state = 1) {y:Gift} (hy:y.id = gs[k].id ∧ y.worth = gs[k].worth ∧ y.returns = gs[k].returns ∧ y.frm = gs[k].frm ∧ y.to = gs[k].to)
  (hst:y.state = 3 ∨ y.state = 2 ∧ gs[k].returns = 0):GiftsOk (gs.set k y):=by
 obtain ⟨y1,y2,y3,y4,y5⟩:=hy
 have hm:∀ id,1 <= id -> metW id y = metW id gs[k]:=fun id hid => by
  unfold metW metB
  rw [y2,y3]
  rcases hst with h3 | ⟨h3,h4⟩
  ·rw [if_neg (by simp [h3]),if_neg (by simp [hs])]
  ·rw [if_neg (by simp [h3,h4]; omega),if_neg (by simp [hs])]
 have hm':∀ id,1 <= id -> metL (gs.set k y) id = metL gs id:=fun id hid => by rw [metL_set hk,hm id hid]; omega
 have get:∀ i (hi:i < (gs.set k y).length),i < gs.length ∧ ((i = k ∧ (gs.set k y)[i] = y) ∨ (i ≠ k ∧ ∃ hi':i < gs.length,(gs.set k y)[i] = gs[i])):=fun i hi => by
  have hi':i < gs.length:=by simpa using hi
  refine ⟨hi',?_⟩
  rw [List.getElem_set]
  split
  ·rename_i e; exact .inl ⟨e.symm,rfl⟩
  ·rename_i e; exact .inr ⟨fun e' => e e'.symm,hi',rfl⟩
 refine ⟨fun i hi => ?_,by simpa using h.len,fun i hi => ?_,fun i hi => ?_,fun i hi => ?_,fun i hi => ?_,fun i hi => ?_,fun i hi => ?_⟩
 ·obtain ⟨hi0,⟨rfl,e⟩ | ⟨hne,hi',e⟩⟩:=get i hi
  ·rw [e,y1]; exact h.ids i hi0
  ·rw [e]; exact h.ids i hi'
 ·obtain ⟨hi0,⟨rfl,e⟩ | ⟨hne,hi',e⟩⟩:=get i hi
  ·rw [e,y2]; exact h.worth i hi0
  ·rw [e]; exact h.worth i hi'
 ·obtain ⟨hi0,⟨rfl,e⟩ | ⟨hne,hi',e⟩⟩:=get i hi
  ·rw [e]; rcases hst with h3 | ⟨h3,_⟩ <;> rw [h3] <;> decide
  ·rw [e]; exact h.states i hi'
 ·have other:∀ j (hj:j < gs.length),(gs[j].state = 2 ∨ gs[j].state = 4) -> ∃ hj':j < (gs.set k y).length,(gs.set k y)[j] = gs[j]:=fun j hj hjs => by
   refine ⟨by simpa using hj,?_⟩
   rw [List.getElem_set,if_neg]
   rintro rfl
   omega
  obtain ⟨hi0,⟨rfl,e⟩ | ⟨hne,hi',e⟩⟩:=get i hi
  ·rw [e,y3,y4,y5]
   rcases h.refs i hi0 with h1 | ⟨j,hj,h1,h2,h3,h4,h5⟩
   ·exact .inl h1
   ·obtain ⟨hj',ej⟩:=other j hj h4
    exact .inr ⟨j,hj',h1,h2,by rw [ej]; exact ⟨h3,h4,h5⟩⟩
  ·rw [e]
   rcases h.refs i hi' with h1 | ⟨j,hj,h1,h2,h3,h4,h5⟩
   ·exact .inl h1
   ·obtain ⟨hj',ej⟩:=other j hj h4
    exact .inr ⟨j,hj',h1,h2,by rw [ej]; exact ⟨h3,h4,h5⟩⟩
 ·obtain ⟨hi0,⟨rfl,e⟩ | ⟨hne,hi',e⟩⟩:=get i hi
  ·rw [e]; intro _; rcases hst with h3 | ⟨h3,_⟩ <;> rw [h3] <;> decide
  ·rw [e]; exact h.back i hi'
 ·obtain ⟨hi0,⟨rfl,e⟩ | ⟨hne,hi',e⟩⟩:=get i hi
  ·rw [e,y1,y2,y3]
   intro hr
   rw [hm' _ (by have:=h.ids i hi0; omega),h.unmet hi0 (.inl hs)]
   have:=h.worth i hi0
   rcases hst with h3 | ⟨h3,_⟩ <;> rw [h3] <;> constructor <;> intro h6 <;> omega
  ·rw [e]
   intro hr
   rw [hm' _ (by have:=h.ids i hi'; omega)]
   exact h.marks i hi' hr
 ·obtain ⟨hi0,⟨rfl,e⟩ | ⟨hne,hi',e⟩⟩:=get i hi
  ·rw [e,y4,y5]; exact h.sides i hi0
  ·rw [e]; exact h.sides i hi'
set_option maxHeartbeats 4000000 in
theorem GiftsOk.pay {gs:List Gift} (h:GiftsOk gs) {k j:Nat} (hk:k < gs.length) (hj:j < gs.length) (hkj:j ≠ k) (hs:gs[k].state = 1) (hr:gs[k].returns = ((j + 1:Nat):Int)) {y z:Gift} (hy:y.id = gs[k].id ∧ y.worth = gs[k].worth ∧ y.returns = gs[k].returns ∧ y.frm = gs[k].frm ∧ y.to = gs[k].to) (hy2:y.state = 2)
  (hz:z.id = gs[j].id ∧ z.worth = gs[j].worth ∧ z.returns = gs[j].returns ∧ z.frm = gs[j].frm ∧ z.to = gs[j].to) (hzs:z.state = if gs[j].worth <= metL gs gs[k].returns + gs[k].worth then 4 else gs[j].state) :
  GiftsOk ((gs.set k y).set j z) ∧ ∀ id,metL ((gs.set k y).set j z) id = metL gs id + if id = gs[k].returns then gs[k].worth else 0:=by
 obtain ⟨y1,y2,y3,y4,y5⟩:=hy
 obtain ⟨z1,z2,z3,z4,z5⟩:=hz
 have hdebt:gs[j].returns = 0 ∧ (gs[j].state = 2 ∨ gs[j].state = 4):=by
  rcases h.refs k hk with h1 | ⟨j',hj',h1,_,h3,h4,_⟩
  ·omega
  ·have:j' = j:=by omega
   subst this
   exact ⟨h3,h4⟩
 obtain ⟨hd0,hd1⟩:=hdebt
 have hzst:z.state = 2 ∨ z.state = 4:=by
  rw [hzs]; split
  ·exact .inr rfl
  ·exact hd1
 have hmy:∀ id,metW id y = if id = gs[k].returns then gs[k].worth else 0:=fun id => by
  unfold metW metB
  rw [y2,y3,hy2]
  by_cases e:id = gs[k].returns
  ·rw [if_pos e,if_pos (by simp [e])]
  ·rw [if_neg e,if_neg (by simp; exact fun e' => e e'.symm)]
 have hmk:∀ id,metW id gs[k] = 0:=fun id => by
  unfold metW metB
  rw [if_neg (by simp [hs])]
 have hmz:∀ id,metW id z = metW id gs[j]:=fun id => by
  unfold metW metB
  rw [z2,z3]
  by_cases e:gs[j].returns = id
  ·rw [if_pos (by simp [e]; exact hzst),if_pos (by simp [e]; exact hd1)]
  ·rw [if_neg (by simp [e]),if_neg (by simp [e])]
 have hjs:j < (gs.set k y).length:=by simpa using hj
 have gj:(gs.set k y)[j] = gs[j]:=by rw [List.getElem_set,if_neg (fun e => hkj e.symm)]
 have hm:∀ id,metL ((gs.set k y).set j z) id = metL gs id + if id = gs[k].returns then gs[k].worth else 0:=fun id => by
  rw [metL_set hjs,metL_set hk,gj,hmz,hmk,hmy]; omega
 refine ⟨?_,hm⟩
 have get:∀ i (hi:i < ((gs.set k y).set j z).length),i < gs.length ∧ ((i = k ∧ ((gs.set k y).set j z)[i] = y) ∨ (i = j ∧ ((gs.set k y).set j z)[i] = z) ∨ (i ≠ k ∧ i ≠ j ∧ ∃ hi':i < gs.length,((gs.set k y).set j z)[i] = gs[i])):=fun i hi => by
  have hi':i < gs.length:=by simpa using hi
  refine ⟨hi',?_⟩
  rw [List.getElem_set]
  split
  ·rename_i e; exact .inr (.inl ⟨e.symm,rfl⟩)
  ·rename_i e
   rw [List.getElem_set]
   split
   ·rename_i e2; exact .inl ⟨e2.symm,rfl⟩
   ·rename_i e2; exact .inr (.inr ⟨fun e' => e2 e'.symm,fun e' => e e'.symm,hi',rfl⟩)
 have hjd:∃ hj':j < ((gs.set k y).set j z).length,((gs.set k y).set j z)[j] = z:=⟨by simpa using hj,by simp⟩
 have other:∀ m (hm:m < gs.length),(gs[m].state = 2 ∨ gs[m].state = 4) -> m ≠ j -> ∃ hm':m < ((gs.set k y).set j z).length,((gs.set k y).set j z)[m] = gs[m]:=fun m hm hms hne => by
  refine ⟨by simpa using hm,?_⟩
  rw [List.getElem_set,if_neg (fun e => hne e.symm),List.getElem_set,if_neg]
  rintro rfl
  omega
 have refs':∀ i (hi':i < gs.length) (x:Gift),x.returns = gs[i].returns -> x.to = gs[i].to -> x.frm = gs[i].frm -> x.returns = 0 ∨ ∃ m,∃ hm:m < ((gs.set k y).set j z).length,x.returns = ((m + 1:Nat):Int) ∧ m ≠ i ∧ ((gs.set k y).set j z)[m].returns = 0 ∧ (((gs.set k y).set j z)[m].state = 2 ∨ ((gs.set k y).set j z)[m].state = 4) ∧ ((gs.set k y).set j z)[m].frm = x.to ∧ ((gs.set k y).set j z)[m].to = x.frm:=by
  intro i hi' x x1 x2 x3
  rw [x1,x2,x3]
  rcases h.refs i hi' with h1 | ⟨m,hm,h1,h2,h3,h4,h5⟩
  ·exact .inl h1
  ·by_cases hmj:m = j
   ·subst hmj
    obtain ⟨hj',ej⟩:=hjd
    exact .inr ⟨m,hj',h1,h2,by rw [ej,z3,z4,z5]; exact ⟨h3,hzst,h5⟩⟩
   ·obtain ⟨hm',em⟩:=other m hm h4 hmj
    exact .inr ⟨m,hm',h1,h2,by rw [em]; exact ⟨h3,h4,h5⟩⟩
 refine ⟨fun i hi => ?_,by simpa using h.len,fun i hi => ?_,fun i hi => ?_,fun i hi => ?_,fun i hi => ?_,fun i hi => ?_,fun i hi => ?_⟩
 ·obtain ⟨hi0,⟨rfl,e⟩ | ⟨rfl,e⟩ | ⟨hne,hne2,hi',e⟩⟩:=get i hi
  ·rw [e,y1]; exact h.ids i hi0
  ·rw [e,z1]; exact h.ids i hi0
  ·rw [e]; exact h.ids i hi'
 ·obtain ⟨hi0,⟨rfl,e⟩ | ⟨rfl,e⟩ | ⟨hne,hne2,hi',e⟩⟩:=get i hi
  ·rw [e,y2]; exact h.worth i hi0
  ·rw [e,z2]; exact h.worth i hi0
  ·rw [e]; exact h.worth i hi'
 ·obtain ⟨hi0,⟨rfl,e⟩ | ⟨rfl,e⟩ | ⟨hne,hne2,hi',e⟩⟩:=get i hi
  ·rw [e,hy2]; decide
  ·rw [e]; rcases hzst with h3 | h3 <;> rw [h3] <;> decide
  ·rw [e]; exact h.states i hi'
 ·obtain ⟨hi0,⟨rfl,e⟩ | ⟨rfl,e⟩ | ⟨hne,hne2,hi',e⟩⟩:=get i hi
  ·rw [e]; exact refs' i hi0 y y3 y5 y4
  ·rw [e]; exact refs' i hi0 z z3 z5 z4
  ·rw [e]; exact refs' i hi' gs[i] rfl rfl rfl
 ·obtain ⟨hi0,⟨rfl,e⟩ | ⟨rfl,e⟩ | ⟨hne,hne2,hi',e⟩⟩:=get i hi
  ·rw [e,hy2]; intro _; decide
  ·rw [e,z3]; intro h3; exact absurd hd0 h3
  ·rw [e]; exact h.back i hi'
 ·obtain ⟨hi0,⟨rfl,e⟩ | ⟨rfl,e⟩ | ⟨hne,hne2,hi',e⟩⟩:=get i hi
  ·rw [e,y3]; intro h3; omega
  ·rw [e,z1,z2,z3,hm]
   intro _
   have hidj:=h.ids i hi0
   have hmark:=h.marks i hi0 hd0
   have e1:gs[i].id = gs[k].returns:=by omega
   rw [if_pos e1,hzs,<-e1]
   have hwk:=h.worth k hk
   by_cases hc:gs[i].worth <= metL gs gs[i].id + gs[k].worth
   ·rw [if_pos hc]; exact ⟨fun _ => ⟨.inr rfl,hc⟩,fun _ => rfl⟩
   ·rw [if_neg hc]
    constructor
    ·intro h4
     have:=(hmark.1 h4).2
     omega
    ·intro h4; exact absurd h4.2 hc
  ·rw [e,hm]
   intro h3
   have hidi:=h.ids i hi'
   rw [if_neg (by omega),Int.add_zero]
   exact h.marks i hi' h3
 ·obtain ⟨hi0,⟨rfl,e⟩ | ⟨rfl,e⟩ | ⟨hne,hne2,hi',e⟩⟩:=get i hi
  ·rw [e,y4,y5]; exact h.sides i hi0
  ·rw [e,z4,z5]; exact h.sides i hi0
  ·rw [e]; exact h.sides i hi'
end Go.Proofs.YtigapannpbaihaaGreat
namespace Go.Proofs.YtigapannpbaihaaGreat
open Go.Eng Go.RowKit
theorem acc_inv {es:List Entry} {x:Entry} (h:Acc (es ++ [x])):Acc es ∧ ∃ sg,doE sg es x = 0:=by
 generalize hl:es ++ [x] = l at h
 cases h with
 | nil => simp at hl
 | snoc sg h1 h2 =>
  obtain ⟨h3,h4⟩:=List.append_inj' hl rfl
  injection h4 with h4 _
  subst h3; subst h4
  exact ⟨h1,sg,h2⟩
theorem acc_take:∀ {es:List Entry} (r:List Entry),Acc (es ++ r) -> Acc es
 | es,[],h => by rw [List.append_nil] at h; exact h
 | es,x :: r,h => by
  have:es ++ x :: r = (es ++ [x]) ++ r:=by simp
  rw [this] at h
  exact (acc_inv (acc_take r h)).1
theorem acc_front {es:List Entry} (h:Acc es) (n:Nat):Acc (es.take n):=acc_take (es.drop n) (by rw [List.take_append_drop]; exact h)
theorem do_zero {sg:Int} {es:List Entry} {x:Entry} (h:doE sg es x = 0):formX x = true ∧ lastDay es <= x.day ∧ refusedE sg es x = 0:=by
 unfold doE at h
 split at h
 ·cases h
 ·rename_i h1
  split at h
  ·cases h
  ·rename_i h2
   exact ⟨by simpa using h1,by omega,h⟩
theorem form_okE {x:Entry} (h:formX x = true):okE x = true ∧ x = wantE x ∧ (0 <= x.day ∧ x.day <= 100000):=by
 unfold formX at h
 simp only [Bool.and_eq_true,decide_eq_true_eq] at h
 exact ⟨h.1.1,h.1.2,h.2⟩
theorem ok_kind {x:Entry} (h:okE x = true):x.kind = 1 ∨ x.kind = 2 ∨ x.kind = 3 ∨ x.kind = 4 ∨ x.kind = 5 ∨ x.kind = 6 ∨ x.kind = 7:=by
 refine Decidable.byContradiction fun hn => ?_
 unfold okE at h
 rw [if_neg (by omega),if_neg (by omega),if_neg (by omega),if_neg (by omega),if_neg (by omega),if_neg (by omega)] at h
 cases h
structure AccOk (es:List Entry):Prop where
 forms:∀ x ∈ es,formX x = true
 days:es.Pairwise fun a b => a.day <= b.day
 last:∀ x ∈ es,x.day <= lastDay es
 gifts:GiftsOk (giftL es)
 base:baseL es = (giftL es).map unmark
 wids:∀ i (h:i < (waivL es).length),(waivL es)[i].id = ((i + 1:Nat):Int)
 wlen:(waivL es).length <= 500
 gids:(grantsL es).length = (waivL es).length ∧ ∀ i (h:i < (grantsL es).length),(grantsL es)[i].id = ((i + 1:Nat):Int)
 dues:(dueL es).Pairwise fun a b => ¬ (a.cred = b.cred ∧ a.debt = b.debt)
 once:∀ d ∈ dueL es,owesB (dueL es) d.debt d.cred = false
 rate:∀ c,0 <= rateL es c ∧ rateL es c <= 1000000
 ceil:∀ s,0 <= ceilL es s ∧ ceilL es s <= 1000000000000
theorem lastDay_snoc (es:List Entry) (x:Entry):lastDay (es ++ [x]) = x.day:=by simp [lastDay]
theorem owes_iff {l:List Due} {c d:Int}:owesB l c d = true <-> ∃ x ∈ l,x.cred = c ∧ x.debt = d:=by
 unfold owesB
 rw [List.any_eq_true]
 simp
theorem unmark_set {gs:List Gift} {k:Nat} {y:Gift} (f:Gift) (h:unmark y = f):(gs.set k y).map unmark = (gs.map unmark).set k f:=by
 rw [List.map_set,h]
theorem gift_offer {es:List Entry} {x:Entry} (h:AccOk es) (hf:rightG x.g = true) (hr:offeredE es x.g = 0) :
  GiftsOk (giftL es ++ [{ x.g with worth:=x.g.n * rateL es x.g.cur,state:=1 }]):=by
 have hrate:=h.rate x.g.cur
 have hG:=h.gifts
 unfold offeredE at hr
 generalize giftL es = gs at *
 generalize rateL es x.g.cur = rt at *
 simp only [rightG,Bool.and_eq_true,decide_eq_true_eq,Bool.not_eq_true',decide_eq_false_iff_not] at hf
 obtain ⟨⟨⟨⟨⟨⟨⟨f1,f2⟩,f3⟩,f4⟩,f5⟩,f6⟩,f7⟩,f8⟩:=hf
 split at hr
 ·cases hr
 rename_i r1
 split at hr
 ·cases hr
 rename_i r2
 split at hr
 ·cases hr
 rename_i r3
 split at hr
 ·cases hr
 rename_i r4
 split at hr
 ·cases hr
 rename_i r5
 have hid:x.g.id = ((gs.length + 1:Nat):Int):=by omega
 have hmul:1 <= x.g.n * rt ∧ x.g.n * rt <= 1000000000000:=by
  constructor
  ·have:1 * 1 <= x.g.n * rt:=Int.mul_le_mul (by omega) (by omega) (by omega) (by omega)
   omega
  ·have:x.g.n * rt <= 1000000 * 1000000:=Int.mul_le_mul (by omega) (by omega) (by omega) (by omega)
   omega
 refine hG.offer (by omega) hid hmul rfl f4 ?_
 by_cases hz:x.g.returns = 0
 ·exact .inl hz
 ·obtain ⟨k,hk,he⟩:=num_of (n:=gs.length) (i:=x.g.returns) (by omega) (by omega)
  refine .inr ⟨k,hk,he,?_⟩
  have r5':=fun hh => r5 ⟨by omega,hh⟩
  simp only [he,atN_get hk] at r5'
  have:=Decidable.not_not.1 r5'
  exact ⟨this.2.2.1,this.2.2.2,this.1,this.2.1⟩
theorem gift_answered {es:List Entry} {x:Entry} {id:Int} (h1:1 <= id) (hr:(if id > (giftL es).length then (5:Int) else if ¬ (atN (giftL es) id).state = 1 then 8 else 0) = 0):∃ k,∃ hk:k < (giftL es).length,id = ((k + 1:Nat):Int) ∧ (giftL es)[k].state = 1:=by
 split at hr
 ·cases hr
 rename_i r1
 split at hr
 ·cases hr
 rename_i r2
 obtain ⟨k,hk,he⟩:=num_of (n:=(giftL es).length) (i:=id) h1 (by omega)
 refine ⟨k,hk,he,?_⟩
 rw [he,atN_get hk] at r2
 exact Decidable.not_not.1 r2
theorem gift_step {sg:Int} {es:List Entry} {x:Entry} (h:AccOk es) (hf:formX x = true) (hr:refusedE sg es x = 0):GiftsOk (giftL (es ++ [x])) ∧ baseL (es ++ [x]) = (giftL (es ++ [x])).map unmark:=by
 obtain ⟨hok,hw,hd⟩:=form_okE hf
 have hG:=h.gifts
 have hB:=h.base
 rw [giftL_snoc,baseL_snoc,hB]
 unfold giftS meetS baseS
 rcases ok_kind hok with hk | hk | hk | hk | hk | hk | hk
 ·rw [if_neg (by omega),if_neg (by omega),if_neg (by omega),if_neg (by omega),if_neg (by omega),if_neg (by omega),if_neg (by omega)]; exact ⟨hG,rfl⟩
 ·rw [if_neg (by omega),if_neg (by omega),if_neg (by omega),if_neg (by omega),if_neg (by omega),if_neg (by omega),if_neg (by omega)]; exact ⟨hG,rfl⟩
 ·rw [if_neg (by omega),if_neg (by omega),if_neg (by omega),if_neg (by omega),if_neg (by omega),if_neg (by omega),if_neg (by omega)]; exact ⟨hG,rfl⟩
 ·rw [if_neg (by omega),if_neg (by omega),if_neg (by omega),if_neg (by omega),if_neg (by omega),if_neg (by omega),if_neg (by omega)]; exact ⟨hG,rfl⟩
 ·have hro:offeredE es x.g = 0:=by
   unfold refusedE at hr
   rw [if_neg (by omega),if_neg (by omega),if_pos hk] at hr
   exact hr
  have hrg:rightG x.g = true:=by
   unfold okE at hok
   rw [if_neg (by omega),if_neg (by omega),if_neg (by omega),if_neg (by omega),if_pos hk,Bool.and_eq_true] at hok
   exact hok.1
  rw [if_pos hk,if_neg (by omega),if_pos hk]
  refine ⟨gift_offer h hrg hro,?_⟩
  rw [List.map_append]
  rfl
 ·have hri:(if x.g.id > (giftL es).length then (5:Int) else if ¬ (atN (giftL es) x.g.id).state = 1 then 8 else 0) = 0:=by
   unfold refusedE at hr
   rw [if_neg (by omega),if_neg (by omega),if_neg (by omega),if_pos (.inl hk)] at hr
   exact hr
  have hid:1 <= x.g.id:=by
   unfold okE at hok
   rw [if_neg (by omega),if_neg (by omega),if_neg (by omega),if_neg (by omega),if_neg (by omega),if_pos (.inl hk),decide_eq_true_eq] at hok
   omega
  obtain ⟨k,hkl,he,hs⟩:=gift_answered (x:=x) hid hri
  simp only [hk,Int.reduceEq,if_true,if_false,he]
  rw [updAt_eq hkl]
  have hkl':k < ((giftL es).map unmark).length:=by simpa using hkl
  rw [updAt_eq hkl']
  have hum:takeG x.day (((giftL es).map unmark)[k]) = takeG x.day (giftL es)[k]:=by
   rw [List.getElem_map]
   unfold unmark
   split <;> rfl
  rw [hum]
  generalize giftL es = gs at *
  have hks:k < (gs.set k (takeG x.day gs[k])).length:=by simpa using hkl
  have hat:atN (gs.set k (takeG x.day gs[k])) ((k + 1:Nat):Int) = takeG x.day gs[k]:=by rw [atN_get hks]; simp
  rw [hat]
  have hret:(takeG x.day gs[k]).returns = gs[k].returns:=rfl
  rw [hret]
  rcases hG.refs k hkl with h0 | ⟨j,hj,h1,h2,h3,h4,h5⟩
  ·rw [if_pos h0]
   refine ⟨hG.answer hkl hs ⟨rfl,rfl,rfl,rfl,rfl⟩ (.inr ⟨rfl,h0⟩),?_⟩
   rw [unmark_set (takeG x.day gs[k]) rfl]
  ·rw [if_neg (by omega)]
   have hjs:j < (gs.set k (takeG x.day gs[k])).length:=by simpa using hj
   have gj:(gs.set k (takeG x.day gs[k]))[j] = gs[j]:=by rw [List.getElem_set,if_neg (fun e => h2 e.symm)]
   have hmet:metL (gs.set k (takeG x.day gs[k])) gs[k].returns = metL gs gs[k].returns + gs[k].worth:=by
    rw [metL_set hkl]
    have e1:metW gs[k].returns gs[k] = 0:=by unfold metW metB; rw [if_neg (by simp [hs])]
    have e2:metW gs[k].returns (takeG x.day gs[k]) = gs[k].worth:=by unfold metW metB takeG; rw [if_pos (by simp)]
    omega
   rw [hmet]
   have hatj:atN (gs.set k (takeG x.day gs[k])) gs[k].returns = gs[j]:=by rw [h1,atN_get hjs,gj]
   rw [hatj]
   have hupd:updAt (gs.set k (takeG x.day gs[k])) gs[k].returns backG = (gs.set k (takeG x.day gs[k])).set j (backG gs[j]):=by rw [h1,updAt_eq hjs,gj]
   rw [hupd]
   have hsame:gs.set k (takeG x.day gs[k]) = (gs.set k (takeG x.day gs[k])).set j gs[j]:=by
    rw [<-gj,List.set_getElem_self]
   have hback:unmark (backG gs[j]) = unmark gs[j]:=by
    unfold unmark backG
    rcases h4 with h4 | h4
    ·rw [if_pos rfl,if_neg (by omega)]
     cases hg:gs[j]
     rw [hg] at h4
     simp at h4 ⊢
     exact h4.symm
    ·rw [if_pos rfl,if_pos h4]
   have hbase:(gs.map unmark).set k (takeG x.day gs[k]) = ((gs.set k (takeG x.day gs[k])).map unmark).set j (unmark gs[j]):=by
    rw [unmark_set (takeG x.day gs[k]) rfl]
    have hj3:j < ((gs.map unmark).set k (takeG x.day gs[k])).length:=by simpa using hj
    have:((gs.map unmark).set k (takeG x.day gs[k]))[j] = unmark gs[j]:=by rw [List.getElem_set,if_neg (fun e => h2 e.symm),List.getElem_map]
    rw [<-this,List.set_getElem_self]
   by_cases hc:gs[j].worth <= metL gs gs[k].returns + gs[k].worth
   ·rw [if_pos hc]
    refine ⟨(hG.pay (y:=takeG x.day gs[k]) (z:=backG gs[j]) hkl hj h2 hs h1 ⟨rfl,rfl,rfl,rfl,rfl⟩ rfl ⟨rfl,rfl,rfl,rfl,rfl⟩ (by rw [if_pos hc]; rfl)).1,?_⟩
    rw [List.map_set,hback,hbase]
   ·rw [if_neg hc]
    refine ⟨?_,?_⟩
    ·rw [hsame]
     exact (hG.pay (y:=takeG x.day gs[k]) (z:=gs[j]) hkl hj h2 hs h1 ⟨rfl,rfl,rfl,rfl,rfl⟩ rfl ⟨rfl,rfl,rfl,rfl,rfl⟩ (by rw [if_neg hc])).1
    ·rw [unmark_set (takeG x.day gs[k]) rfl]
 ·have hri:(if x.g.id > (giftL es).length then (5:Int) else if ¬ (atN (giftL es) x.g.id).state = 1 then 8 else 0) = 0:=by
   unfold refusedE at hr
   rw [if_neg (by omega),if_neg (by omega),if_neg (by omega),if_pos (.inr hk)] at hr
   exact hr
  have hid:1 <= x.g.id:=by
   unfold okE at hok
   rw [if_neg (by omega),if_neg (by omega),if_neg (by omega),if_neg (by omega),if_neg (by omega),if_pos (.inr hk),decide_eq_true_eq] at hok
   omega
  obtain ⟨k,hkl,he,hs⟩:=gift_answered (x:=x) hid hri
  simp only [hk,Int.reduceEq,if_true,if_false,he]
  rw [updAt_eq hkl]
  have hkl':k < ((giftL es).map unmark).length:=by simpa using hkl
  rw [updAt_eq hkl']
  have hum:refuseG x.day (((giftL es).map unmark)[k]) = refuseG x.day (giftL es)[k]:=by
   rw [List.getElem_map]
   unfold unmark
   split <;> rfl
  rw [hum]
  refine ⟨hG.answer hkl hs ⟨rfl,rfl,rfl,rfl,rfl⟩ (.inl rfl),?_⟩
  rw [unmark_set (refuseG x.day (giftL es)[k]) rfl]
theorem waiv_step {sg:Int} {es:List Entry} {x:Entry} (h:AccOk es) (hf:formX x = true) (hr:refusedE sg es x = 0) :
  (∀ i (hi:i < (waivL (es ++ [x])).length),(waivL (es ++ [x]))[i].id = ((i + 1:Nat):Int)) ∧ (waivL (es ++ [x])).length <= 500 ∧
  ((grantsL (es ++ [x])).length = (waivL (es ++ [x])).length ∧ ∀ i (hi:i < (grantsL (es ++ [x])).length),(grantsL (es ++ [x]))[i].id = ((i + 1:Nat):Int)):=by
 obtain ⟨hok,hw,hd⟩:=form_okE hf
 have h1:=h.wids
 have h2:=h.wlen
 have h3:=h.gids
 simp only [waivL_snoc,grantsL_snoc]
 by_cases k3:x.kind = 3
 ·have hro:grantedE sg es x.w = 0:=by
   unfold refusedE at hr
   rw [if_pos k3] at hr
   exact hr
  unfold grantedE at hro
  split at hro
  ·cases hro
  rename_i r1
  split at hro
  ·cases hro
  rename_i r2
  have r2:x.w.id = (waivL es).length + 1:=Decidable.not_not.1 r2
  have e1:waivS (waivL es) x = waivL es ++ [x.w]:=if_pos k3
  simp only [e1,if_pos k3,List.length_append,List.length_singleton]
  refine ⟨fun i hi => ?_,by omega,by omega,fun i hi => ?_⟩
  ·rw [List.getElem_append]
   split
   ·rename_i hl; exact h1 i hl
   ·rename_i hl; simp only [List.getElem_singleton]; rw [r2]; omega
  ·rw [List.getElem_append]
   split
   ·rename_i hl; exact h3.2 i hl
   ·rename_i hl; simp only [List.getElem_singleton]; rw [r2]; omega
 ·simp only [if_neg k3,List.append_nil]
  by_cases k4:x.kind = 4
  ·have e1:waivS (waivL es) x = updAt (waivL es) x.w.id (endW x.day):=by unfold waivS; rw [if_neg k3,if_pos k4]
   have hri:(if x.w.id > (waivL es).length then (5:Int) else if (atN (waivL es) x.w.id).til <= x.day then 8 else 0) = 0:=by
    unfold refusedE at hr
    rw [if_neg (by omega),if_pos k4] at hr
    exact hr
   have hid:1 <= x.w.id:=by
    unfold okE at hok
    rw [if_neg (by omega),if_neg (by omega),if_neg (by omega),if_pos k4,decide_eq_true_eq] at hok
    omega
   split at hri
   ·cases hri
   rename_i r1
   obtain ⟨k,hk,he⟩:=num_of (n:=(waivL es).length) (i:=x.w.id) hid (by omega)
   rw [he,updAt_eq hk] at e1
   simp only [e1,List.length_set]
   refine ⟨fun i hi => ?_,h2,h3⟩
   rw [List.getElem_set]
   split
   ·rename_i hki; subst hki; exact h1 k hk
   ·exact h1 i (by simpa using hi)
  ·have e1:waivS (waivL es) x = waivL es:=by unfold waivS; rw [if_neg k3,if_neg k4]
   simp only [e1]
   exact ⟨h1,h2,h3⟩
theorem due_step {sg:Int} {es:List Entry} {x:Entry} (h:AccOk es) (hf:formX x = true) (hr:refusedE sg es x = 0) :
  (dueL (es ++ [x])).Pairwise (fun a b => ¬ (a.cred = b.cred ∧ a.debt = b.debt)) ∧ ∀ d ∈ dueL (es ++ [x]),owesB (dueL (es ++ [x])) d.debt d.cred = false:=by
 obtain ⟨hok,hw,hd⟩:=form_okE hf
 rw [dueL_snoc]
 by_cases k3:x.kind = 3
 ·rw [if_pos k3]
  have hro:grantedE sg es x.w = 0:=by
   unfold refusedE at hr
   rw [if_pos k3] at hr
   exact hr
  unfold grantedE at hro
  split at hro
  ·cases hro
  split at hro
  ·cases hro
  split at hro
  ·rename_i r3; exact absurd hro r3
  split at hro
  ·cases hro
  rename_i r4
  have hne:x.w.giver ≠ x.w.taker:=by
   unfold okE at hok
   rw [if_neg (by omega),if_neg (by omega),if_pos k3,Bool.and_eq_true] at hok
   have:=hok.1
   unfold rightW at this
   simp only [Bool.and_eq_true] at this
   simpa using this.1.1.1.1.1.1.1.2
  unfold dueS
  split
  ·rename_i hb
   refine ⟨h.dues.filter _,fun d hd => ?_⟩
   have h1:=h.once d (List.mem_filter.1 hd).1
   refine Bool.eq_false_iff.2 fun hc => ?_
   obtain ⟨y,hy,e⟩:=owes_iff.1 hc
   rw [Bool.eq_false_iff] at h1
   exact h1 (owes_iff.2 ⟨y,(List.mem_filter.1 hy).1,e⟩)
  ·rename_i hb
   have r4':∀ y ∈ dueL es,¬ (y.cred = x.w.giver ∧ y.debt = x.w.taker):=fun y hy e => r4 (owes_iff.2 ⟨y,hy,e⟩)
   have hb':∀ y ∈ dueL es,¬ (y.cred = x.w.taker ∧ y.debt = x.w.giver):=fun y hy e => hb (List.any_eq_true.2 ⟨y,hy,decide_eq_true e⟩)
   refine ⟨List.pairwise_append.2 ⟨h.dues,List.pairwise_singleton _ _,fun a ha b hb2 => ?_⟩,fun d hd => ?_⟩
   ·rw [List.mem_singleton.1 hb2]; exact r4' a ha
   ·refine Bool.eq_false_iff.2 fun hc => ?_
    obtain ⟨y,hy,e1,e2⟩:=owes_iff.1 hc
    rcases List.mem_append.1 hd with hd | hd
    ·rcases List.mem_append.1 hy with hy | hy
     ·have h1:=h.once d hd
      rw [Bool.eq_false_iff] at h1
      exact h1 (owes_iff.2 ⟨y,hy,e1,e2⟩)
     ·rw [List.mem_singleton.1 hy] at e1 e2
      exact hb' d hd ⟨e2.symm,e1.symm⟩
    ·rw [List.mem_singleton.1 hd] at e1 e2
     rcases List.mem_append.1 hy with hy | hy
     ·exact hb' y hy ⟨e1,e2⟩
     ·rw [List.mem_singleton.1 hy] at e1 e2
      exact hne e1
 ·rw [if_neg k3]; exact ⟨h.dues,h.once⟩
theorem acc_step {sg:Int} {es:List Entry} {x:Entry} (h:AccOk es) (hx:doE sg es x = 0):AccOk (es ++ [x]):=by
 obtain ⟨hf,hl,hr⟩:=do_zero hx
 obtain ⟨hok,hw,hd⟩:=form_okE hf
 obtain ⟨g1,g2⟩:=gift_step h hf hr
 obtain ⟨w1,w2,w3⟩:=waiv_step h hf hr
 obtain ⟨d1,d2⟩:=due_step h hf hr
 refine ⟨fun y hy => ?_,?_,fun y hy => ?_,g1,g2,w1,w2,w3,d1,d2,fun c => ?_,fun s => ?_⟩
 ·rcases List.mem_append.1 hy with hy | hy
  ·exact h.forms y hy
  ·rw [List.mem_singleton.1 hy]; exact hf
 ·refine List.pairwise_append.2 ⟨h.days,List.pairwise_singleton _ _,fun a ha b hb => ?_⟩
  rw [List.mem_singleton.1 hb]
  exact Int.le_trans (h.last a ha) hl
 ·rw [lastDay_snoc]
  rcases List.mem_append.1 hy with hy | hy
  ·exact Int.le_trans (h.last y hy) hl
  ·rw [List.mem_singleton.1 hy]; exact Int.le_refl _
 ·rw [rateL_snoc]
  unfold rateS
  split
  ·rename_i hk
   unfold okE at hok
   rw [if_pos hk.1,Bool.and_eq_true] at hok
   have:=of_decide_eq_true hok.2
   omega
  ·exact h.rate c
 ·rw [ceilL_snoc]
  unfold ceilS
  split
  ·rename_i hk
   unfold okE at hok
   rw [if_neg (by omega),if_pos hk.1,Bool.and_eq_true] at hok
   have:=of_decide_eq_true hok.2
   omega
  ·exact h.ceil s
theorem acc_ok {es:List Entry} (h:Acc es):AccOk es:=by
 induction h with
 | nil => exact ⟨fun _ h => (by cases h),List.Pairwise.nil,fun _ h => (by cases h),GiftsOk.nil,rfl,fun _ h => absurd h (Nat.not_lt_zero _),Nat.zero_le _,⟨rfl,fun _ h => absurd h (Nat.not_lt_zero _)⟩,List.Pairwise.nil,fun _ h => (by cases h),fun c => ⟨Int.le_refl 0,by show (0:Int) <= 1000000; decide⟩,fun s => ⟨Int.le_refl 0,by show (0:Int) <= 1000000000000; decide⟩⟩
 | snoc sg _ hx ih => exact acc_step ih hx
end Go.Proofs.YtigapannpbaihaaGreat
namespace Go.Proofs.YtigapannpbaihaaGreat
open Go.Eng Go.RowKit
theorem Fact.len (x:Fact):x.cells.length = 9:=rfl
theorem Reads.fact {w:World} {A:Option Addr} {l:List Fact} (h:Reads w A (fcells l)) {i:Nat} (hi:i < l.length):∃ b o,A = some ⟨b,o,none⟩ ∧ Rd w b (o + i * 9) l[i].cells:=Reads.elem Fact.len (by omega) h hi
theorem fcells_length (l:List Fact):(fcells l).length = l.length * 9:=flat_length Fact.len l
structure Fact.Nums (x:Fact):Prop where
 id:In64 x.id
 known:In64 x.known
 kind:0 <= x.kind ∧ x.kind <= 255
 who:In64 x.who
 what:In64 x.what
 other:In64 x.other
 since:In64 x.since
 til:In64 x.til
 name:x.name.size <= 9223372036854775807
structure HF (w:World) (A:Option Addr) (l:List Fact) (c:Nat):Prop where
 nums:∀ x ∈ l,x.Nums
 reads:Reads w A (fcells l)
 len:l.length <= c
 cap:l.length <= 9223372036854775807
theorem HF.ext {w w':World} {A:Option Addr} {l:List Fact} {c:Nat} (h:HF w A l c) (e:Ext w w'):HF w' A l c:=⟨h.nums,h.reads.ext e,h.len,h.cap⟩
def NewF (B:Nat) (w:World) (v:Value) (l:List Fact):Prop:=w.ownsRow B 180 9 v l.length (fcells l)
theorem NewF.base {B B':Nat} {w:World} {v:Value} {l:List Fact} (h:NewF B' w v l) (hb:B <= B'):NewF B w v l:=ownsRow_base h hb
theorem NewF.ext {B:Nat} {w w':World} {v:Value} {l:List Fact} (h:NewF B w v l) (e:Ext w w'):NewF B w' v l:=ownsRow_ext h e
theorem newF_nil (B:Nat) (w:World):NewF B w (.slice none 0 0) []:=World.ownsRow_nil _ _ _ _
theorem NewF.slice {B:Nat} {w:World} {v:Value} {l:List Fact} (h:NewF B w v l):∃ A c,v = .slice A l.length c ∧ Reads w A (fcells l) ∧ l.length <= c:=reads_of_owns h
theorem NewF.hf {B:Nat} {w:World} {v:Value} {l:List Fact} (h:NewF B w v l) (hn:∀ x ∈ l,x.Nums):∃ A c,v = .slice A l.length c ∧ HF w A l c:=by
 obtain ⟨A,c,rfl,hr,hc⟩:=h.slice
 exact ⟨A,c,rfl,hn,hr,hc,ownsRow_len h⟩
theorem fieldsF:Tryz.prog.fieldsOf 180 = #[⟨ "Id",3,0,false, "", "",0⟩,⟨ "Known",3,1,false, "", "",8⟩,⟨ "Kind",5,2,false, "", "",16⟩,⟨ "Who",3,3,false, "", "",24⟩,⟨ "What",3,4,false, "", "",32⟩,⟨ "Other",3,5,false, "", "",40⟩,⟨ "Since",3,6,false, "", "",48⟩,⟨ "Until",3,7,false, "", "",56⟩,⟨ "Name",9,8,false, "", "",64⟩]:=by kernel_rfl
theorem underF:Tryz.prog.underlying 180 = some (.struct #[⟨ "Id",3,0,false, "", "",0⟩,⟨ "Known",3,1,false, "", "",8⟩,⟨ "Kind",5,2,false, "", "",16⟩,⟨ "Who",3,3,false, "", "",24⟩,⟨ "What",3,4,false, "", "",32⟩,⟨ "Other",3,5,false, "", "",40⟩,⟨ "Since",3,6,false, "", "",48⟩,⟨ "Until",3,7,false, "", "",56⟩,⟨ "Name",9,8,false, "", "",64⟩]):=by kernel_rfl
theorem part_plain {t:Nat} {ti:TI} (ht:C.ti t = some ti) (ha:ti.d.agg = false) (i:Nat) (cs:Array Value) (v:Value) (w:World) (hv:cs[i]? = some v):(part t cs i).run C.P w = .ok v w:=by
 have:=(C_ok.ti ht).run_agg
 simp [part,this,ha,hv]
def sameField (p q:Fact) (o:Nat):Bool:=match o with
 | 0 => decide (p.id = q.id)
 | 1 => decide (p.known = q.known)
 | 2 => decide (p.kind = q.kind)
 | 3 => decide (p.who = q.who)
 | 4 => decide (p.what = q.what)
 | 5 => decide (p.other = q.other)
 | 6 => decide (p.since = q.since)
 | 7 => decide (p.til = q.til)
 | _ => decide (p.name = q.name)
set_option maxRecDepth 10000 in
theorem eqInF (p q:Fact) (w:World):(Op.equalIn 10000 180 p.val q.val).run C.P w = .ok (decide (p = q)) w:=by
 have hs:C.P.stoodInHeld 180 = false:=by kernel_rfl
 have hu:C.P.underlying 180 = some (.struct (C.P.fieldsOf 180)):=by show Tryz.prog.underlying _ = some (.struct (Tryz.prog.fieldsOf _)); rw [fieldsF]; exact underF
 have h3:C.P.underlying 3 = some (.int .i64):=under3
 have h5:C.P.underlying 5 = some (.int .u8):=under5
 have h9:C.P.underlying 9 = some .string:=under9
 have p3:=part_plain (t:=3) (ti:=ty3) rfl rfl
 have p5:=part_plain (t:=5) (ti:=ty5) rfl rfl
 have p9:=part_plain (t:=9) (ti:=ty9) rfl rfl
 rw [Fact.val,Fact.val,run_equalIn_struct w 9999 180 _ _ hu hs]
 show ((Op.eqFields 9999 _ _ (Tryz.prog.fieldsOf 180).toList).run C.P w) = _
 rw [fieldsF]
 rw [eqFields_run (f:=fun x => sameField p q x.offset)]
 ·obtain ⟨a0,a1,a2,a3,a4,a5,a6,a7,a8⟩:=p
  obtain ⟨b0,b1,b2,b3,b4,b5,b6,b7,b8⟩:=q
  congr 1
  rw [Bool.eq_iff_iff]
  simp [sameField]
 ·intro f hf
  simp only [List.mem_cons,List.not_mem_nil,or_false] at hf
  rcases hf with rfl | rfl | rfl | rfl | rfl | rfl | rfl | rfl | rfl
  ·exact ⟨by decide,_,_,p3 0 _ (.int .i64 p.id) w rfl,p3 0 _ (.int .i64 q.id) w rfl,eqInt_run h3 w 9998 .i64 p.id q.id⟩
  ·exact ⟨by decide,_,_,p3 1 _ (.int .i64 p.known) w rfl,p3 1 _ (.int .i64 q.known) w rfl,eqInt_run h3 w 9998 .i64 p.known q.known⟩
  ·exact ⟨by decide,_,_,p5 2 _ (.int .u8 p.kind) w rfl,p5 2 _ (.int .u8 q.kind) w rfl,eqInt_run h5 w 9998 .u8 p.kind q.kind⟩
  ·exact ⟨by decide,_,_,p3 3 _ (.int .i64 p.who) w rfl,p3 3 _ (.int .i64 q.who) w rfl,eqInt_run h3 w 9998 .i64 p.who q.who⟩
  ·exact ⟨by decide,_,_,p3 4 _ (.int .i64 p.what) w rfl,p3 4 _ (.int .i64 q.what) w rfl,eqInt_run h3 w 9998 .i64 p.what q.what⟩
  ·exact ⟨by decide,_,_,p3 5 _ (.int .i64 p.other) w rfl,p3 5 _ (.int .i64 q.other) w rfl,eqInt_run h3 w 9998 .i64 p.other q.other⟩
  ·exact ⟨by decide,_,_,p3 6 _ (.int .i64 p.since) w rfl,p3 6 _ (.int .i64 q.since) w rfl,eqInt_run h3 w 9998 .i64 p.since q.since⟩
  ·exact ⟨by decide,_,_,p3 7 _ (.int .i64 p.til) w rfl,p3 7 _ (.int .i64 q.til) w rfl,eqInt_run h3 w 9998 .i64 p.til q.til⟩
  ·exact ⟨by decide,_,_,p9 8 _ (.string p.name) w rfl,p9 8 _ (.string q.name) w rfl,eqStr_run h9 w 9998 p.name q.name⟩
theorem neqF (x y:Operand) (p q:Fact):EqIs C.P .neq 180 x y p.val q.val (!decide (p = q)):=by
 intro w
 have hm:C.P.eqGuardType C.P.depth 180 = false:=by kernel_rfl
 rw [Sem.run_bind,Fact.val,Fact.val,run_eqGuard_agg w .neq 180 x y _ _ hm]
 simp only [Result.andThen_ok]
 rw [run_neq_struct]
 have:=eqInF p q w
 rw [Fact.val,Fact.val] at this
 rw [this]
 rfl
end Go.Proofs.YtigapannpbaihaaGreat
namespace Go.Proofs.YtigapannpbaihaaGreat
open Go.Eng Go.RowKit
theorem id_spec (n:Int) (w:World):CallsV C.P 215 #[.int .i64 n] w fun v w' => v = .bool (idB n) ∧ w' = w:=by
 refine callsV_of C_ok (args:=[_]) (plans:=[]) Tryz.func215 rfl Tryz.ntmps215 (by kernel_rfl) (Nat.le_of_ble_eq_true rfl) ?_
 refine brE_dec (fun h1 => ?_) (fun h1 => ?_)
 ·refine ⟨congrArg Value.bool ?_,rfl⟩
  have h1:1 <= n:=h1
  rw [Bool.eq_iff_iff]; simp only [decide_eq_true_eq]; omega
 ·refine ⟨congrArg Value.bool ?_,rfl⟩
  have h1:¬ 1 <= n:=h1
  rw [idB,decide_eq_false]; omega
theorem on_spec (s u day:Int) (w:World):CallsV C.P 294 #[.agg #[.int .i64 s,.int .i64 u],.int .i64 day] w fun v w' => v = .bool (decide (s <= day ∧ (u = 0 ∨ day < u))) ∧ Ext w w':=by
 refine callsV_of C_ok (args:=[_,_]) (plans:=[]) Tryz.func294 rfl Tryz.ntmps294 (by kernel_rfl) (Nat.le_of_ble_eq_true rfl) ?_
 intro g2 w1 h1
 have M1:=(Mem.start w).alloc h1
 refine ⟨_,M1.cell 0 rfl rfl,?_⟩
 refine brE_dec (fun h1 => ?_) (fun h1 => ?_)
 ·have h1:s <= day:=h1
  refine ⟨_,M1.cell 0 rfl rfl,?_⟩
  refine brE_dec (fun h2 => ?_) (fun h2 => ?_)
  ·have h2:u = 0:=h2
   exact ⟨congrArg Value.bool (decide_eq_true ⟨h1,.inl h2⟩).symm,M1.ext⟩
  ·have h2:¬ u = 0:=h2
   refine ⟨_,M1.cell 0 rfl rfl,?_⟩
   refine ⟨congrArg Value.bool ?_,M1.ext⟩
   rw [Bool.eq_iff_iff]; simp only [decide_eq_true_eq]; omega
 ·have h1:¬ s <= day:=h1
  exact ⟨congrArg Value.bool (decide_eq_false (fun h => h1 h.1)).symm,M1.ext⟩
theorem Holds_spec (x:Fact) (day:Int) (w:World):CallsV C.P 269 #[x.val,.int .i64 day] w fun v w' => v = .bool (holdsB day x) ∧ Ext w w':=by
 refine callsV_of C_ok (args:=[_,_]) (plans:=[]) Tryz.func269 rfl Tryz.ntmps269 (by kernel_rfl) (Nat.le_of_ble_eq_true rfl) ?_
 intro g2 w1 h1
 have M1:=(Mem.start w).alloc h1
 refine ⟨_,M1.cell 0 rfl rfl,?_⟩
 refine ⟨_,M1.cell 0 rfl rfl,?_⟩
 refine ⟨x.cells,rfl,M1.rd 0 rfl,?_⟩
 refine (on_spec x.since x.til day w1).mono ?_
 rintro v w2 ⟨rfl,e2⟩
 exact ⟨rfl,M1.ext.trans e2⟩
theorem ba_get {s:ByteArray} {j:Nat} (h:j < s.data.toList.length):s[j]? = some s.data.toList[j]:=by
 have h':j < s.size:=by simpa using h
 rw [getElem?_pos s j h']
 simp [ByteArray.getElem_eq_getElem_data]
theorem ba_size (s:ByteArray):s.size = s.data.toList.length:=by simp
theorem chB_iff {c:UInt8}:chB c = true <-> (97 <= (c.toNat:Int) ∧ (c.toNat:Int) <= 122) ∨ (48 <= (c.toNat:Int) ∧ (c.toNat:Int) <= 57) ∨ (c.toNat:Int) = 32 ∨ (c.toNat:Int) = 45:=by
 simp only [chB,Bool.or_eq_true,decide_eq_true_eq]
 omega
theorem nameB_iff {l:List UInt8}:nameB l = true <-> ((1 <= l.length ∧ l.length <= 24) ∧ l.head? ≠ some 32 ∧ l.getLast? ≠ some 32) ∧ ∀ c ∈ l,chB c = true:=by
 simp only [nameB,Bool.and_eq_true,decide_eq_true_eq,Bool.not_eq_true',decide_eq_false_iff_not,List.all_eq_true,ne_eq]
 constructor
 ·rintro ⟨⟨⟨a,b⟩,c⟩,d⟩; exact ⟨⟨a,b,c⟩,d⟩
 ·rintro ⟨⟨a,b,c⟩,d⟩; exact ⟨⟨⟨a,b⟩,c⟩,d⟩
theorem eq32 {c:UInt8}:c = 32 <-> (c.toNat:Int) = 32:=by
 constructor
 ·rintro rfl; rfl
 ·intro h
  have:c.toNat = 32:=by omega
  exact UInt8.toNat_inj.1 (by simpa using this)
theorem name_head {l:List UInt8} (h:0 < l.length):l.head? = some l[0]:=by
 cases l with
 | nil => simp at h
 | cons x r => rfl
theorem name_last {l:List UInt8} (h:0 < l.length):l.getLast? = some (l[l.length - 1]'(by omega)):=List.getLast?_eq_getElem? ▸ List.getElem?_eq_getElem (by omega)
theorem isName_spec (s:ByteArray) (w:World) (hs:s.size <= 9223372036854775807):CallsV C.P 216 #[.string s] w fun v w' => v = .bool (nameB s.data.toList) ∧ w' = w:=by
 have hsz:=ba_size s
 generalize hl:s.data.toList = l at *
 have get:∀ {j:Nat} (h:j < l.length),s[j]? = some l[j]:=fun {j} h => by subst hl; exact ba_get h
 have no:∀ {A:Prop},(nameB l = true -> False) -> Value.bool false = .bool (nameB l):=fun h => by
  cases hh:nameB l with
  | false => rfl
  | true => exact (h hh).elim
 refine callsV_of C_ok (args:=[_]) (plans:=[]) Tryz.func216 rfl Tryz.ntmps216 (by kernel_rfl) (Nat.le_of_ble_eq_true rfl) ?_
 refine brE_dec (fun h1 => ?_) (fun h1 => ?_)
 ·have h1:(s.size:Int) < 1:=h1
  exact ⟨no (A:=True) fun h => by have:=(nameB_iff.1 h).1.1; omega,rfl⟩
 have h1:¬ (s.size:Int) < 1:=h1
 refine brE_dec (fun h2 => ?_) (fun h2 => ?_)
 ·have h2:(s.size:Int) > 24:=h2
  exact ⟨no (A:=True) fun h => by have:=(nameB_iff.1 h).1.1; omega,rfl⟩
 have h2:¬ (s.size:Int) > 24:=h2
 have h0:0 < l.length:=by omega
 have hk:l.length - 1 < l.length:=by omega
 refine ⟨0,l[0],rfl,get h0,?_⟩
 refine brE_dec (fun h3 => ?_) (fun h3 => ?_)
 ·exact ⟨no (A:=True) fun h => by
   have:=(nameB_iff.1 h).1.2.1
   rw [name_head h0] at this
   exact this (congrArg some (eq32.2 h3)),rfl⟩
 refine ⟨((l.length - 1:Nat):Int),by rw [fit ⟨by omega,by omega⟩]; omega,?_⟩
 refine ⟨l.length - 1,l[l.length - 1],rfl,get hk,?_⟩
 refine brE_dec (fun h4 => ?_) (fun h4 => ?_)
 ·exact ⟨no (A:=True) fun h => by
   have:=(nameB_iff.1 h).1.2.2
   rw [name_last h0] at this
   exact this (congrArg some (eq32.2 h4)),rfl⟩
 have hhead:(1 <= l.length ∧ l.length <= 24) ∧ l.head? ≠ some 32 ∧ l.getLast? ≠ some 32:=by
  refine ⟨⟨by omega,by omega⟩,?_,?_⟩
  ·rw [name_head h0]; exact fun e => h3 (eq32.1 (Option.some.inj e))
  ·rw [name_last h0]; exact fun e => h4 (eq32.1 (Option.some.inj e))
 refine loopE C_ok (fun (i:Nat) => [(0,.string s),(27,.int .i64 s.size),(28,.int .i64 i)]) (fun i w' => w' = w ∧ i <= l.length ∧ ∀ j (h:j < l.length),j < i -> chB l[j] = true) (fun i => l.length - i) 0
  ⟨rfl,rfl,rfl,trivial⟩ ⟨rfl,Nat.zero_le _,fun _ _ h => absurd h (Nat.not_lt_zero _)⟩ ?_
 rintro i w1 ⟨rfl,hi,hall⟩
 refine brE_dec (fun hlt => ?_) (fun hge => ?_)
 ·have hlt:i < l.length:=by have:(i:Int) < (s.size:Nat):=hlt; omega
  refine ⟨i,l[i],rfl,get hlt,?_⟩
  have hc:=chB_iff (c:=l[i])
  generalize hcv:l[i] = c at *
  have bad:¬ ((97 <= (c.toNat:Int) ∧ (c.toNat:Int) <= 122) ∨ (48 <= (c.toNat:Int) ∧ (c.toNat:Int) <= 57) ∨ (c.toNat:Int) = 32 ∨ (c.toNat:Int) = 45) -> Value.bool false = .bool (nameB l) ∧ w1 = w1:=fun hb =>
   ⟨no (A:=True) fun h => hb (hc.1 ((nameB_iff.1 h).2 c (hcv ▸ List.getElem_mem hlt))),rfl⟩
  have next:IntKind.i64.wrap ((i:Int) + 1) = ((i + 1:Nat):Int):=fit ⟨by omega,by omega⟩
  have fin:chB c = true -> i + 1 <= l.length ∧ ∀ j (h:j < l.length),j < i + 1 -> chB l[j] = true:=fun hg => ⟨hlt,fun j hj hji => by
   rcases Nat.lt_or_ge j i with h | h
   ·exact hall j hj h
   ·obtain rfl:j = i:=by omega
    rw [hcv]; exact hg⟩
  repeat' first
   | refine brE_ndec (fun a => ?_) (fun a => ?_)
   | refine brE_dec (fun a => ?_) (fun a => ?_)
  all_goals first
   | exact bad (by omega)
   | exact ⟨_,next,i + 1,⟨rfl,rfl,rfl,trivial⟩,⟨rfl,fin (hc.2 (by omega))⟩,by omega⟩
 ·have:i = l.length:=by have:¬ (i:Int) < (s.size:Nat):=hge; omega
  subst this
  refine ⟨congrArg Value.bool (nameB_iff.2 ⟨hhead,fun c hc => ?_⟩).symm,rfl⟩
  obtain ⟨j,hj,rfl⟩:=List.getElem_of_mem hc
  exact hall j hj hj
end Go.Proofs.YtigapannpbaihaaGreat
