/- a part of the proof: steps, walks and plain laws that the law below stands on; no condition. -/
import Derived.OrdersHeld
import Derived.Below
import Derived.Laws.CopyRow
import Derived.Laws.Rows
import Derived.Laws.AppendOwn
import Derived.IntWalk
set_option linter.unusedVariables false
set_option linter.unusedSimpArgs false
set_option linter.unnecessarySimpa false
set_option linter.unusedSectionVars false
namespace Go.Eng
open Go.RowKit
abbrev Env:=List (Nat × Value)
def look:Env -> Nat -> Option Value
 | [],_ => none
 | (k,v) :: l,t => match Nat.beq k t with
  | true => some v
  | false => look l t
def evo (l:Env):Operand -> Option Value
 | .tmp t => look l t
 | .const v => some v
 | .global g => some (.pointer (some ⟨g,0,none⟩))
 | .func f => some (.func (.func f) #[] #[])
structure Rep (n:Nat) (D:List Deferred) (a:Act) (l:Env):Prop where
 size:a.tmps.size = n
 defers:a.defers = D
 get:∀ t v,look l t = some v -> a.tmps[t]? = some v
theorem look_cons (k:Nat) (v:Value) (l:Env) (t:Nat):look ((k,v) :: l) t = if k = t then some v else look l t:=by
 show (match Nat.beq k t with | true => some v | false => look l t) = _
 by_cases h:k = t
 ·subst h; simp [Nat.beq_refl]
 ·have:Nat.beq k t = false:=by
   cases hb:Nat.beq k t with
   | true => exact absurd (Nat.eq_of_beq_eq_true hb) h
   | false => rfl
  simp [this,h]
theorem Rep.evo {n:Nat} {D:List Deferred} {a:Act} {l:Env} (h:Rep n D a l) {x:Operand} {v:Value} (hv:evo l x = some v):a.eval x = v:=by
 cases x with
 | tmp t =>
  have:=h.get t v hv
  simp [Act.eval,this]
 | const c => simpa [Eng.evo,Act.eval] using hv
 | global g => simpa [Eng.evo,Act.eval] using hv
 | func f => simpa [Eng.evo,Act.eval] using hv
theorem Rep.put {n:Nat} {D:List Deferred} {a:Act} {l:Env} (h:Rep n D a l) {d:Nat} (hd:d < n) (v:Value):Rep n D (a.put (some d) v) ((d,v) :: l):=by
 refine ⟨by simp [Act.put,h.size],by simp [Act.put,h.defers],fun t u hu => ?_⟩
 rw [look_cons] at hu
 by_cases ht:d = t
 ·subst ht
  simp at hu; subst hu
  simp [Act.put,h.size,hd]
 ·simp [ht] at hu
  simp only [Act.put]
  rw [Array.getElem?_setIfInBounds_ne ht]
  exact h.get t u hu
def bindv (dst:Option Nat) (v:Value) (l:Env):Env:=match dst with
 | some d => (d,v) :: l
 | none => l
theorem Rep.bindv {n:Nat} {D:List Deferred} {a:Act} {l:Env} (h:Rep n D a l) {d:Option Nat} (hd:∀ t,d = some t -> t < n) (v:Value):Rep n D (a.put d v) (bindv d v l):=by
 cases d with
 | none => exact h
 | some t => exact h.put (hd t rfl) v
theorem Rep.sub {n:Nat} {D:List Deferred} {a:Act} {l l':Env} (h:Rep n D a l) (hs:∀ t v,look l' t = some v -> look l t = some v):Rep n D a l' :=
 ⟨h.size,h.defers,fun t v hv => h.get t v (hs t v hv)⟩
def Cov (l:Env):Env -> Prop
 | [] => True
 | (t,v) :: r => look l t = some v ∧ Cov l r
theorem Cov.sub {l:Env}:∀ {r:Env},Cov l r -> ∀ t v,look r t = some v -> look l t = some v
 | [],_,t,v,h => by simp [look] at h
 | (k,u) :: r,hc,t,v,h => by
  rw [look_cons] at h
  by_cases hk:k = t
  ·subst hk; simp at h; subst h; exact hc.1
  ·simp [hk] at h; exact hc.2.sub t v h
structure Same (w w':World):Prop where
 heap:w'.heap = w.heap
 os:w'.os = w.os
 tape:w'.tape = w.tape
 output:w'.output = w.output
theorem Same.refl (w:World):Same w w:=⟨rfl,rfl,rfl,rfl⟩
theorem Same.symm {a b:World} (h:Same a b):Same b a:=⟨h.heap.symm,h.os.symm,h.tape.symm,h.output.symm⟩
theorem Same.drew {a b:World} (h:Same a b):Same a { b with drawn:=b.drawn + 1 }:=⟨h.heap,h.os,h.tape,h.output⟩
theorem Same.cell {a b:World} (h:Same a b) (p:Addr):b.cell? p = a.cell? p:=by simp [World.cell?,h.heap]
abbrev Ext (w w':World):Prop:=Below w.heap.size w w'
theorem Ext.refl (w:World):Ext w w:=Below.refl _ w
theorem Ext.trans {a b c:World} (h:Ext a b) (k:Ext b c):Ext a c:=Below.trans h (k.mono h.size)
theorem Same.ext {a b:World} (h:Same a b):Ext a b:=⟨h.os,h.tape,h.output,by simp [h.heap],fun k _ => by rw [h.heap]⟩
theorem Ext.same_left {a a' b:World} (h:Ext a b) (s:Same a a'):Ext a' b :=
 ⟨h.os.trans s.os.symm,h.tape.trans s.tape.symm,h.output.trans s.output.symm,by rw [s.heap]; exact h.size,fun k hk => by rw [s.heap] at hk ⊢; exact h.block k hk⟩
theorem Ext.same_right {a b b':World} (h:Ext a b) (s:Same b b'):Ext a b' :=
 ⟨s.os.trans h.os,s.tape.trans h.tape,s.output.trans h.output,by rw [s.heap]; exact h.size,fun k hk => by rw [s.heap]; exact h.block k hk⟩
theorem Ext.cell {w w':World} (h:Ext w w') {p:Addr} {v:Value} (hv:w.cell? p = some v):w'.cell? p = some v:=by
 rw [<-hv]; exact Below.cell h (block_lt_of_cell hv)
theorem Ext.heap {w w':World} (h:Ext w w') {k:Nat} {o:Obj} (hv:w.heap[k]? = some o):w'.heap[k]? = some o:=by
 have hk:k < w.heap.size:=(Array.getElem?_eq_some_iff.1 hv).1
 rw [h.block k hk]; exact hv
inductive TD where
 | bool
 | int (k:IntKind)
 | str
 | ptr (e:Nat)
 | slice (e esz eb:Nat)
 | arr (n e esz:Nat)
 | map (k e:Nat)
 | struct (fs:List (Nat × Nat × Nat))
 | func
 | iface (bare:Bool)
 | other
structure TI where
 d:TD
 size:Nat
 zero:Value
def TD.agg:TD -> Bool
 | .struct _ => true
 | .arr .. => true
 | _ => false
def descOk (P:Program) (t:Nat) (d:TD):Bool:=match P.underlying t,d with
 | some .bool,.bool => true
 | some (.int k),.int k' => k == k'
 | some .string,.str => true
 | some (.pointer e),.ptr e' => e == e'
 | some (.slice e),.slice e' esz eb => e == e' && (match P.info? e with | some i => i.size == esz && i.bytes == eb | none => false)
 | some (.array n e),.arr n' e' esz => n == n' && e == e' && (match P.info? e with | some i => i.size == esz | none => false)
 | some (.map k e),.map k' e' => k == k' && e == e'
 | some (.struct F),.struct fs => (F.toList.map fun f => (f.type,f.offset,(P.info? f.type).map (·.size))) == fs.map fun x => (x.1,x.2.1,some x.2.2)
 | some (.func ..),.func => true
 | some (.interface ms),.iface b => ms.isEmpty == b
 | some (.struct _),.other | some (.array ..),.other => false
 | some _,.other => true
 | _,_ => false
structure TIok (P:Program) (t:Nat) (ti:TI):Prop where
 info:(P.info? t).map (fun i => (i.size,i.zero)) = some (ti.size,some ti.zero)
 desc:descOk P t ti.d = true
 zsz:ti.zero.cells.size = ti.size
structure Cfg where
 P:Program
 tab:List (Nat × TI)
 lo:Nat
 nf:Nat
 no:List Nat
 dr:Bool
 df:List Deferred
def Cfg.can (C:Cfg) (g:Nat):Bool:=Nat.ble C.lo g && (Nat.blt g C.nf && !C.no.any (Nat.beq g))
def lookT:List (Nat × TI) -> Nat -> Option TI
 | [],_ => none
 | (k,v) :: l,t => match Nat.beq k t with
  | true => some v
  | false => lookT l t
def Cfg.ti (C:Cfg) (t:Nat):Option TI:=lookT C.tab t
def callable (P:Program) (f:Nat):Bool:=match P.funcs[f]? with
 | some fn => !(fn.name == "runtime.NumGoroutine") && fn.body.isSome
 | none => false
structure Cfg.Ok (C:Cfg):Prop where
 mixed:C.P.follows .mixedOrders = true
 types:∀ e ∈ C.tab,TIok C.P e.1 e.2
 funcs:∀ f,C.can f = true -> callable C.P f = true
theorem lookT_mem:∀ {l:List (Nat × TI)} {t:Nat} {ti:TI},lookT l t = some ti -> (t,ti) ∈ l
 | [],_,_,h => by simp [lookT] at h
 | (k,v) :: l,t,ti,h => by
  unfold lookT at h
  cases hb:Nat.beq k t with
  | true =>
   simp [hb] at h; subst h
   have:=Nat.eq_of_beq_eq_true hb; subst this
   exact List.mem_cons_self
  | false => simp [hb] at h; exact List.mem_cons_of_mem _ (lookT_mem h)
theorem Cfg.Ok.ti {C:Cfg} (h:C.Ok) {t:Nat} {ti:TI} (ht:C.ti t = some ti):TIok C.P t ti:=h.types _ (lookT_mem ht)
def withO {α:Type} (o:Option α) (f:α -> Prop):Prop:=match o with
 | some x => f x
 | none => False
theorem withO_iff {α:Type} {o:Option α} {f:α -> Prop} (h:withO o f):∃ x,o = some x ∧ f x:=by
 cases o with
 | none => exact h.elim
 | some x => exact ⟨x,rfl,h⟩
def brE (b:Bool) (A B:Prop):Prop:=match b with
 | true => A
 | false => B
theorem brE_mk {b:Bool} {A B:Prop} (t:b = true -> A) (f:b = false -> B):brE b A B:=by
 cases b
 ·exact f rfl
 ·exact t rfl
theorem brE_dec {p:Prop} [Decidable p] {A B:Prop} (t:p -> A) (f:¬ p -> B):brE (decide p) A B :=
 brE_mk (fun h => t (of_decide_eq_true h)) (fun h => f (of_decide_eq_false h))
theorem brE_true {b:Bool} {A B:Prop} (h:b = true) (t:A):brE b A B:=by subst h; exact t
theorem brE_false {b:Bool} {A B:Prop} (h:b = false) (t:B):brE b A B:=by subst h; exact t
def Rd (w:World) (b o:Nat) (cs:List Value):Prop:=∀ i v,cs[i]? = some v -> w.cell? ⟨b,o + i,none⟩ = some v
theorem Rd.ext {w w':World} {b o:Nat} {cs:List Value} (h:Rd w b o cs) (e:Ext w w'):Rd w' b o cs:=fun i v hv => e.cell (h i v hv)
theorem Rd.of_block {w:World} {b:Nat} {cs:List Value} {t:Nat} {fr:Nat × Nat} (h:w.heap[b]? = some (.cells cs.toArray t fr)):Rd w b 0 cs:=fun i v hv => by
 simp [World.cell?,h,hv]
theorem Rd.part {w:World} {b o k:Nat} {cs ds:List Value} (h:Rd w b o cs) (hp:∀ i v,ds[i]? = some v -> cs[k + i]? = some v):Rd w b (o + k) ds:=fun i v hv => by
 have:=h (k + i) v (hp i v hv)
 rwa [<-Nat.add_assoc] at this
def loadE (ti:TI) (w:World) (b o:Nat) (K:Value -> Prop):Prop:=match ti.d.agg with
 | true => ∃ cs:List Value,cs.length = ti.size ∧ Rd w b o cs ∧ K (.agg cs.toArray)
 | false => ∃ v,w.cell? ⟨b,o,none⟩ = some v ∧ K v
def numE (k:IntKind) (e:Int) (K:Value -> Prop):Prop:=∃ z,k.wrap e = z ∧ K (.int k z)
def sameKind (k k':IntKind) (A:Prop):Prop:=match k,k' with
 | .i64,.i64 => A
 | .u8,.u8 => A
 | .u64,.u64 => A
 | .i32,.i32 => A
 | .u32,.u32 => A
 | _,_ => False
theorem sameKind_iff {k k':IntKind} {A:Prop} (h:sameKind k k' A):k = k' ∧ A:=by
 unfold sameKind at h
 split at h <;> first | exact ⟨rfl,h⟩ | exact h.elim
def EqIs (P:Program) (op:BinOp) (t:Nat) (x y:Operand) (a b:Value) (r:Bool):Prop :=
 ∀ w:World,(do eqGuard op t x y a b; binOp op t a b:Sem Value).run P w = .ok (.bool r) w
def binQ (C:Cfg) (op:BinOp) (t:Nat) (x y:Operand) (a b:Value) (K:Value -> Prop):Prop:=match op,a,b with
 | .add,.int k m,.int k' n => sameKind k k' (numE k (m + n) K)
 | .sub,.int k m,.int k' n => sameKind k k' (numE k (m - n) K)
 | .mul,.int k m,.int k' n => sameKind k k' (numE k (m * n) K)
 | .quo,.int k m,.int k' n => sameKind k k' (n ≠ 0 ∧ numE k (m.tdiv n) K)
 | .rem,.int k m,.int k' n => sameKind k k' (n ≠ 0 ∧ ∃ z,m.tmod n = z ∧ K (.int k z))
 | .lss,.int k m,.int k' n => sameKind k k' (K (.bool (decide (m < n))))
 | .leq,.int k m,.int k' n => sameKind k k' (K (.bool (decide (m <= n))))
 | .gtr,.int k m,.int k' n => sameKind k k' (K (.bool (decide (m > n))))
 | .geq,.int k m,.int k' n => sameKind k k' (K (.bool (decide (m >= n))))
 | .eql,.int k m,.int k' n => sameKind k k' (K (.bool (decide (m = n))))
 | .neq,.int k m,.int k' n => sameKind k k' (K (.bool (!decide (m = n))))
 | .eql,a,b => ∃ r,EqIs C.P op t x y a b r ∧ K (.bool r)
 | .neq,a,b => ∃ r,EqIs C.P op t x y a b r ∧ K (.bool r)
 | op,a,b => ∃ v,(∀ w:World,(binOp op t a b).run C.P w = .ok v w) ∧ (op ≠ .eql ∧ op ≠ .neq) ∧ K v
def bndE (l:Env) (x:Option Operand) (dflt:Nat) (n:Nat):Prop:=match x with
 | none => n = dflt
 | some y => withO (evo l y) fun v => match v with
  | .int _ i => i = (n:Int)
  | _ => False
def partE (ti:TI) (cs:Array Value) (off:Nat) (K:Value -> Prop):Prop:=match ti.d.agg with
 | true => K (.agg (cs.extract off (off + ti.size)))
 | false => ∃ v,cs[off]? = some v ∧ K v
def splice (cs:List Value) (o:Nat) (vs:List Value):List Value:=cs.take o ++ vs ++ cs.drop (o + vs.length)
def buildL (l:Env) (n:Nat) (place:Nat -> Option (Nat × Nat)):List (Nat × Operand) -> List Value -> Option (List Value)
 | [],cs => some cs
 | (i,x) :: r,cs => match place i,evo l x with
  | some (off,sz),some v => match Nat.beq v.cells.size sz && Nat.ble (off + sz) n with
   | true => buildL l n place r (splice cs off v.cells.toList)
   | false => none
  | _,_ => none
def placeOf:TD -> Nat -> Option (Nat × Nat)
 | .struct fs,i => match fs[i]? with
  | some (_,off,sz) => some (off,sz)
  | none => none
 | .arr _ _ esz,i => some (i * esz,esz)
 | _,_ => none
def QuietRun (C:Cfg) (o:Oper) (l:Env) (w:World) (v:Value):Prop :=
 ∀ ρ:Operand -> Value,(∀ x u,evo l x = some u -> ρ x = u) -> ∀ w',Ext w w' -> (execOp ρ o).run C.P w' = .ok (.value v) w'
def lenQ (C:Cfg) (t:Nat) (v:Value) (w:World) (K:Value -> Prop):Prop:=withO (C.ti t) fun ti => match ti.d,v with
 | .slice ..,.slice _ n _ => K (.int .i64 n)
 | .str,.string s => K (.int .i64 s.size)
 | .arr n ..,_ => K (.int .i64 n)
 | .map ..,.map none => K (.int .i64 0)
 | .map ..,.map (some r) => ∃ es clk,w.heap[r]? = some (.map es clk) ∧ K (.int .i64 es.size)
 | _,_ => False
def addOff (o:Nat):Nat -> Nat
 | 0 => o
 | n + 1 => o + (n + 1)
theorem addOff_eq (o n:Nat):addOff o n = o + n:=by cases n <;> rfl
def opQ (C:Cfg) (o:Oper) (l:Env) (w:World) (K:Value -> Prop):Prop:=match o.op with
 | .move x => withO (evo l x) K
 | .assign x => withO (evo l x) K
 | .pick c a b => withO (evo l c) fun v => match v with
  | .bool t => brE t (withO (evo l a) K) (withO (evo l b) K)
  | _ => False
 | .load t x => withO (evo l x) fun v => match v with
  | .pointer (some ⟨b,o,none⟩) => withO (C.ti t) fun ti => loadE ti w b o K
  | _ => False
 | .nilCheck x => withO (evo l x) fun v => match v with
  | .pointer (some a) => K (.pointer (some a))
  | .func (.func f) p q => K (.func (.func f) p q)
  | _ => False
 | .fieldAddr s x f => withO (evo l x) fun v => match v with
  | .pointer (some ⟨b,o,none⟩) => withO (C.ti s) fun ti => match ti.d with
   | .struct fs => withO fs[f]? fun (_,off,sz) => match sz with
    | 0 => False
    | _ + 1 => K (.pointer (some ⟨b,addOff o off,none⟩))
   | _ => False
  | _ => False
 | .indexAddr t x ix => withO (evo l x) fun v => withO (evo l ix) fun iv => withO (C.ti t) fun ti => match ti.d,v,iv with
  | .arr n _ esz,.pointer (some ⟨b,o,none⟩),.int _ i => ∃ j:Nat,i = (j:Int) ∧ j < n ∧ K (.pointer (some ⟨b,o + j * esz,none⟩))
  | .slice _ esz _,.slice A len _,.int _ i => ∃ j b o:Nat,i = (j:Int) ∧ j < len ∧ A = some ⟨b,o,none⟩ ∧ K (.pointer (some ⟨b,o + j * esz,none⟩))
  | _,_,_ => False
 | .index t x ix => withO (evo l x) fun v => withO (evo l ix) fun iv => withO (C.ti t) fun ti => match ti.d,v,iv with
  | .arr n e esz,.agg cs,.int _ i => ∃ j:Nat,i = (j:Int) ∧ j < n ∧ withO (C.ti e) fun te => partE te cs (j * esz) K
  | .str,.string s,.int _ i => ∃ (j:Nat) (c:UInt8),i = (j:Int) ∧ s[j]? = some c ∧ K (.int .u8 c.toNat)
  | _,_,_ => False
 | .field t x f => withO (evo l x) fun v => withO (C.ti t) fun ti => match ti.d,v with
  | .struct fs,.agg cs => withO fs[f]? fun (ft,off,_) => withO (C.ti ft) fun te => partE te cs off K
  | _,_ => False
 | .binOp op t x y _ => withO (evo l x) fun a => withO (evo l y) fun b => binQ C op t x y a b K
 | .unOp .not _ x => withO (evo l x) fun a => match a with
  | .bool b => K (.bool (!b))
  | _ => False
 | .unOp .neg _ x => withO (evo l x) fun a => match a with
  | .int k n => numE k (0 - n) K
  | _ => False
 | .convert s d x => withO (evo l x) fun a => withO (C.ti s) fun _ => withO (C.ti d) fun td => match td.d,a with
  | .int k,.int _ n => numE k n K
  | .str,.string s => K (.string s)
  | _,_ => False
 | .extract x i => withO (evo l x) fun a => match a with
  | .tuple vs => withO vs.toList[i]? K
  | _ => False
 | .makeFunc fn first captured => ∃ fs cs:List Value,first.toList.map (evo l) = fs.map some ∧ captured.toList.map (evo l) = cs.map some ∧ K (.func fn fs.toArray cs.toArray)
 | .build t parts => withO (C.ti t) fun ti => match ti.d.agg with
  | true => withO (buildL l ti.size (placeOf ti.d) parts.toList ti.zero.cells.toList) fun cs => K (.agg cs.toArray)
  | false => False
 | .slice t x lo hi none => withO (evo l x) fun v => withO (C.ti t) fun ti => match ti.d,v with
  | .slice _ esz _,.slice A len cap => ∃ i h:Nat,bndE l lo 0 i ∧ bndE l hi len h ∧ i <= h ∧ h <= cap ∧ K (.slice (if cap = i then A else A.map (·.add (i * esz))) (h - i) (cap - i))
  | .str,.string s => ∃ i h:Nat,bndE l lo 0 i ∧ bndE l hi s.size h ∧ i <= h ∧ h <= s.size ∧ K (.string (s.extract i h))
  | _,_ => False
 | .call ⟨.builtin .len,args,ts⟩ => withO args.toList[0]? fun x => withO ts.toList[0]? fun t => withO (evo l x) fun v => lenQ C t v w K
 | _ => ∃ v,QuietRun C o l w v ∧ K v
end Go.Eng
namespace Go.Eng
open Go.RowKit
section
variable {C:Cfg} {t:Nat} {ti:TI}
theorem TIok.got {P:Program} (h:TIok P t ti):∃ i,P.info? t = some i ∧ i.size = ti.size ∧ i.zero = some ti.zero:=by
 have:=h.info
 cases hi:P.info? t with
 | none => simp [hi] at this
 | some i => simp [hi] at this; exact ⟨i,rfl,this.1,this.2⟩
theorem TIok.run_size {P:Program} (h:TIok P t ti) (w:World):(sizeOf t).run P w = .ok ti.size w:=by
 obtain ⟨i,hi,hs,_⟩:=h.got
 simp [sizeOf,typeInfo,hi,hs]
theorem TIok.run_zero {P:Program} (h:TIok P t ti) (w:World):(zeroValue t).run P w = .ok ti.zero w:=by
 obtain ⟨i,hi,_,hz⟩:=h.got
 simp [zeroValue,typeInfo,hi,hz]
theorem TIok.under {P:Program} (h:TIok P t ti):∃ d,P.underlying t = some d ∧ (match d with | .struct _ | .array _ _ => true | _ => false) = ti.d.agg:=by
 have hd:=h.desc
 cases hu:P.underlying t with
 | none => simp [descOk,hu] at hd
 | some d =>
  refine ⟨d,rfl,?_⟩
  unfold descOk at hd
  rw [hu] at hd
  cases htd:ti.d <;> rw [htd] at hd <;> cases d <;> first | rfl | (simp at hd)
theorem TIok.run_agg {P:Program} (h:TIok P t ti) (w:World):(isAgg t).run P w = .ok ti.d.agg w:=by
 obtain ⟨d,hu,hd⟩:=h.under
 unfold isAgg
 rw [Sem.run_bind,run_underlying hu w]
 cases d <;> simp_all
theorem TIok.isSlice {P:Program} (h:TIok P t ti) {e esz eb:Nat} (hd:ti.d = .slice e esz eb):P.underlying t = some (.slice e) ∧ ∃ i,P.info? e = some i ∧ i.size = esz ∧ i.bytes = eb:=by
 have h:=h.desc
 rw [hd] at h
 cases hu:P.underlying t with
 | none => simp [descOk,hu] at h
 | some d =>
  cases d <;> simp [descOk,hu] at h
  rename_i e'
  obtain ⟨rfl,h⟩:=h
  cases hi:P.info? e' with
  | none => simp [hi] at h
  | some i => simp [hi] at h; exact ⟨rfl,i,rfl,h.1,h.2⟩
theorem TIok.isArr {P:Program} (h:TIok P t ti) {n e esz:Nat} (hd:ti.d = .arr n e esz):P.underlying t = some (.array n e) ∧ ∃ i,P.info? e = some i ∧ i.size = esz:=by
 have h:=h.desc
 rw [hd] at h
 cases hu:P.underlying t with
 | none => simp [descOk,hu] at h
 | some d =>
  cases d <;> simp [descOk,hu] at h
  rename_i n' e'
  obtain ⟨⟨rfl,rfl⟩,h⟩:=h
  cases hi:P.info? e' with
  | none => simp [hi] at h
  | some i => simp [hi] at h; exact ⟨rfl,i,rfl,h⟩
theorem TIok.isStruct {P:Program} (h:TIok P t ti) {fs:List (Nat × Nat × Nat)} (hd:ti.d = .struct fs):∃ F,P.underlying t = some (.struct F) ∧ (F.toList.map fun f => (f.type,f.offset,(P.info? f.type).map (·.size))) = fs.map fun x => (x.1,x.2.1,some x.2.2):=by
 have h:=h.desc
 rw [hd] at h
 unfold descOk at h
 split at h <;> simp_all
theorem TIok.isMap {P:Program} (h:TIok P t ti) {k e:Nat} (hd:ti.d = .map k e):P.underlying t = some (.map k e):=by
 have h:=h.desc
 rw [hd] at h
 unfold descOk at h
 split at h <;> simp_all
theorem TIok.isInt {P:Program} (h:TIok P t ti) {k:IntKind} (hd:ti.d = .int k):P.underlying t = some (.int k):=by
 have h:=h.desc
 rw [hd] at h
 unfold descOk at h
 split at h <;> simp_all
theorem TIok.isStr {P:Program} (h:TIok P t ti) (hd:ti.d = .str):P.underlying t = some .string:=by
 have h:=h.desc
 rw [hd] at h
 unfold descOk at h
 split at h <;> simp_all
theorem TIok.elem_arr {P:Program} (h:TIok P t ti) {n e esz:Nat} (hd:ti.d = .arr n e esz) (w:World):(sizeOf e).run P w = .ok esz w:=by
 obtain ⟨_,i,hi,hs⟩:=h.isArr hd
 simp [sizeOf,typeInfo,hi,hs]
theorem TIok.elem_slice {P:Program} (h:TIok P t ti) {e esz eb:Nat} (hd:ti.d = .slice e esz eb) (w:World):(sizeOf e).run P w = .ok esz w:=by
 obtain ⟨_,i,hi,hs,_⟩:=h.isSlice hd
 simp [sizeOf,typeInfo,hi,hs]
theorem add_spot (b o n:Nat):(⟨b,o,none⟩:Addr).add n = ⟨b,o + n,none⟩:=by
 unfold Addr.add; split <;> simp_all
theorem struct_field {P:Program} (h:TIok P t ti) {fs:List (Nat × Nat × Nat)} (hd:ti.d = .struct fs) {i ft off sz:Nat} (hf:fs[i]? = some (ft,off,sz)) :
  ∃ F f,P.underlying t = some (.struct F) ∧ F[i]? = some f ∧ f.type = ft ∧ f.offset = off ∧ ∃ j,P.info? ft = some j ∧ j.size = sz:=by
 obtain ⟨F,hu,hm⟩:=h.isStruct hd
 have h1:=congrArg (fun l => l[i]?) hm
 simp only [List.getElem?_map,hf,Option.map_some] at h1
 cases hF:F.toList[i]? with
 | none => simp [hF] at h1
 | some f =>
  simp only [hF,Option.map_some,Option.some.injEq,Prod.mk.injEq] at h1
  obtain ⟨e1,e2,e3⟩:=h1
  refine ⟨F,f,hu,by simpa using hF,e1,e2,?_⟩
  cases hj:P.info? ft with
  | none => rw [e1,hj] at e3; simp at e3
  | some j => rw [e1,hj] at e3; simp at e3; exact ⟨j,rfl,e3⟩
theorem run_part {P:Program} {te:TI} {e:Nat} (h:TIok P e te) {cs:Array Value} {off:Nat} {K:Value -> Prop} (hp:partE te cs off K) :
  ∃ v,K v ∧ ∀ w,(part e cs off).run P w = .ok v w:=by
 unfold partE at hp
 cases hd:te.d.agg with
 | true =>
  rw [hd] at hp
  refine ⟨_,hp,fun w => ?_⟩
  simp [part,h.run_agg,hd,h.run_size]
 | false =>
  rw [hd] at hp
  obtain ⟨v,hv,hk⟩:=hp
  refine ⟨v,hk,fun w => ?_⟩
  simp [part,h.run_agg,hd,hv]
theorem run_load {P:Program} (h:TIok P t ti) {w:World} {b o:Nat} {K:Value -> Prop} (hl:loadE ti w b o K) :
  ∃ v,K v ∧ ∀ w',Ext w w' -> (loadVar t ⟨b,o,none⟩).run P w' = .ok v w':=by
 unfold loadE at hl
 cases hd:ti.d.agg with
 | true =>
  rw [hd] at hl
  obtain ⟨cs,hlen,hr,hk⟩:=hl
  refine ⟨_,hk,fun w' he => ?_⟩
  have:=run_loadCells_list (P:=P) (w:=w') ⟨b,o,none⟩ cs (fun j v hv => by rw [add_spot]; exact he.cell (hr j v hv))
  simp [loadVar,h.run_agg,hd,h.run_size,<-hlen,this]
 | false =>
  rw [hd] at hl
  obtain ⟨v,hv,hk⟩:=hl
  refine ⟨v,hk,fun w' he => ?_⟩
  simp [loadVar,h.run_agg,hd,load,Sem.run,he.cell hv]
theorem run_bin {op:BinOp} {x y:Operand} {a b:Value} {K:Value -> Prop} (h:binQ C op t x y a b K) :
  ∃ v,K v ∧ ∀ w,(do eqGuard op t x y a b; binOp op t a b:Sem Value).run C.P w = .ok v w:=by
 unfold binQ at h
 split at h
 all_goals try (replace h:=sameKind_iff h; obtain ⟨hk,h⟩:=h; subst hk)
 case h_1 => obtain ⟨z,hz,hk⟩:=h; exact ⟨_,hk,fun w => by simp [eqGuard,binOp,Op.intArith,hz]⟩
 case h_2 => obtain ⟨z,hz,hk⟩:=h; exact ⟨_,hk,fun w => by simp [eqGuard,binOp,Op.intArith,hz]⟩
 case h_3 => obtain ⟨z,hz,hk⟩:=h; exact ⟨_,hk,fun w => by simp [eqGuard,binOp,Op.intArith,hz]⟩
 case h_4 => obtain ⟨h0,z,hz,hk⟩:=h; exact ⟨_,hk,fun w => by simp [eqGuard,binOp,Op.intDiv,hz,h0]⟩
 case h_5 => obtain ⟨h0,z,hz,hk⟩:=h; exact ⟨_,hk,fun w => by simp [eqGuard,binOp,Op.intDiv,hz,h0]⟩
 case h_6 => exact ⟨_,h,fun w => by simp [eqGuard,binOp,Op.intCmp]⟩
 case h_7 => exact ⟨_,h,fun w => by simp [eqGuard,binOp,Op.intCmp]⟩
 case h_8 => exact ⟨_,h,fun w => by simp [eqGuard,binOp,Op.intCmp]⟩
 case h_9 => exact ⟨_,h,fun w => by simp [eqGuard,binOp,Op.intCmp]⟩
 case h_10 => refine ⟨_,h,fun w => ?_⟩; simp [eqGuard,binOp,Op.intCmp]; exact Bool.beq_eq_decide_eq _ _
 case h_11 => refine ⟨_,h,fun w => ?_⟩; simp [eqGuard,binOp,Op.intCmp,bne]; exact Bool.beq_eq_decide_eq _ _
 case h_12 => obtain ⟨r,hr,hk⟩:=h; exact ⟨_,hk,hr⟩
 case h_13 => obtain ⟨r,hr,hk⟩:=h; exact ⟨_,hk,hr⟩
 case h_14 =>
  obtain ⟨v,hv,hne,hk⟩:=h
  refine ⟨v,hk,fun w => ?_⟩
  have:(eqGuard op t x y a b) = pure ():=by
   unfold eqGuard
   cases op <;> simp_all
  simp [this,hv]
theorem bnd_run {l:Env} {x:Option Operand} {dflt n top:Nat} {ρ:Operand -> Value} (hρ:∀ x u,evo l x = some u -> ρ x = u) (h:bndE l x dflt n) (hn:n <= top) (code:Go.BoundsCode) (P:Program) (w:World) :
  (match x.map ρ with | some v => Instr.sliceBound v top code | none => pure dflt:Sem Nat).run P w = .ok n w:=by
 cases x with
 | none => have h:n = dflt:=h; subst h; rfl
 | some y =>
  obtain ⟨v,hv,h⟩:=withO_iff (show withO (evo l y) _ from h)
  simp only [Option.map_some,hρ _ _ hv]
  cases v <;> first | exact h.elim | skip
  rename_i k i
  have h:i = (n:Int):=h
  subst h
  have h1:(n:Int) <= (top:Int):=by omega
  simp [Instr.sliceBound,asIntOf,hn]
theorem bounds_run {l:Env} {lo top:Option Operand} {i h' len cap:Nat} {ρ:Operand -> Value} (hρ:∀ x u,evo l x = some u -> ρ x = u) (hi:bndE l lo 0 i) (hh:bndE l top len h') (h1:i <= h') (h2:h' <= cap) (sl:Bool) (P:Program) (w:World) :
  (Instr.sliceBounds sl len cap (lo.map ρ) (top.map ρ) none).run P w = .ok (i,h',cap) w:=by
 have b1:=fun w => bnd_run hρ hi h1 .sliceB P w
 have b2:=fun w => bnd_run hρ hh h2 .sliceAcap P w
 have b3:=fun w => bnd_run hρ hh h2 .sliceAlen P w
 cases lo <;> cases top <;> cases sl <;> simp only [Option.map_none,Option.map_some] at b1 b2 b3 ⊢ <;> simp_all [Instr.sliceBounds]
theorem len_run (hC:C.Ok) {v:Value} {w:World} {K:Value -> Prop} (h:lenQ C t v w K) (ty:TypeId):∃ r,K r ∧ ∀ w',Ext w w' -> (Builtin.len_ #[t] ty #[v]).run C.P w' = .ok r w':=by
 replace h:=withO_iff h
 obtain ⟨ti,hti,h⟩:=h
 have T:=hC.ti hti
 split at h
 ·rename_i hd; exact ⟨_,h,fun w' _ => by simp [Builtin.len_,run_underlying (T.isSlice hd).1,goInt]⟩
 ·rename_i hd; exact ⟨_,h,fun w' _ => by simp [Builtin.len_,run_underlying (T.isStr hd),goInt]⟩
 ·rename_i hd; exact ⟨_,h,fun w' _ => by simp [Builtin.len_,run_underlying (T.isArr hd).1,goInt]⟩
 ·rename_i hd; exact ⟨_,h,fun w' _ => by simp [Builtin.len_,run_underlying (T.isMap hd),goInt]⟩
 ·rename_i hd
  obtain ⟨es,clk,hr,hk⟩:=h
  exact ⟨_,hk,fun w' he => by
   have hw:=he.heap hr
   simp [Builtin.len_,run_underlying (T.isMap hd),goInt,getObj,Sem.run,hw]⟩
 ·exact h.elim
theorem splice_fold (o:Nat):∀ (vs:List Value) (j:Nat) (cs:List Value),o + j + vs.length <= cs.length →
  (vs.zipIdx j).foldl (fun (cs:Array Value) (x:Value × Nat) => cs.setIfInBounds (o + x.2) x.1) cs.toArray = (splice cs (o + j) vs).toArray
 | [],j,cs,_ => by simp [splice]
 | v :: vs,j,cs,h => by
  simp only [List.zipIdx_cons,List.foldl_cons]
  have e:cs.toArray.setIfInBounds (o + j) v = (cs.set (o + j) v).toArray:=by simp
  rw [e]
  have:=splice_fold o vs (j + 1) (cs.set (o + j) v) (by simp at h ⊢; omega)
  rw [this]
  congr 1
  unfold splice
  have hlt:o + j < cs.length:=by simp at h; omega
  have h1:(cs.set (o + j) v).take (o + (j + 1)) = cs.take (o + j) ++ [v]:=by
   apply List.ext_getElem?
   intro i
   rcases Nat.lt_trichotomy i (o + j) with hi | hi | hi
   ·rw [List.getElem?_take,if_pos (by omega),List.getElem?_set_ne (by omega),List.getElem?_append_left (by simp; omega),List.getElem?_take,if_pos hi]
   ·subst hi
    rw [List.getElem?_take,if_pos (by omega),List.getElem?_append_right (by simp; omega)]
    have:min (o + j) cs.length = o + j:=by omega
    simp [this,hlt]
   ·rw [List.getElem?_take,if_neg (by omega),List.getElem?_append_right (by simp; omega),List.getElem?_eq_none (by simp; omega)]
  have h2:(cs.set (o + j) v).drop (o + (j + 1) + vs.length) = cs.drop (o + j + (v :: vs).length):=by
   apply List.ext_getElem?
   intro i
   simp only [List.getElem?_drop,List.length_cons]
   rw [List.getElem?_set_ne (by omega)]
   congr 1; omega
  rw [h1,h2]
  simp
theorem splice_length {cs vs:List Value} {o:Nat} (h:o + vs.length <= cs.length):(splice cs o vs).length = cs.length:=by
 simp [splice]; omega
theorem fill_build {l:Env} {n:Nat} {place:Nat -> Option (Nat × Nat)} {ρ:Operand -> Value} (hρ:∀ x u,evo l x = some u -> ρ x = u) :
  ∀ (parts:List (Nat × Operand)) (cs ds:List Value),cs.length = n -> buildL l n place parts cs = some ds -> Instr.fill place cs.toArray (parts.map fun (i,x) => (i,ρ x)) = some ds.toArray
 | [],cs,ds,_,h => by simp [buildL] at h; subst h; simp [Instr.fill]
 | (i,x) :: r,cs,ds,hn,h => by
  unfold buildL at h
  split at h
  ·rename_i off sz v hp hv
   split at h
   ·rename_i hb
    simp only [Bool.and_eq_true] at hb
    have h1:=Nat.eq_of_beq_eq_true hb.1
    have h2:=Nat.le_of_ble_eq_true hb.2
    have hl:off + v.cells.toList.length <= cs.length:=by simp [h1]; omega
    have ih:=fill_build hρ r _ ds (by rw [splice_length hl]; exact hn) h
    have hf:=splice_fold off v.cells.toList 0 cs (by simpa using hl)
    simp only [List.map_cons,Instr.fill,hp,hρ _ _ hv,h1]
    have h3:¬ (off + sz > cs.length):=by omega
    simp only [ne_eq,not_true_eq_false,decide_false,Bool.false_or,List.size_toArray,h3,decide_false,Bool.false_eq_true,if_false]
    have e:v.cells.zipIdx.foldl (fun (cs:Array Value) (x:Value × Nat) => cs.setIfInBounds (off + x.2) x.1) cs.toArray = (splice cs off v.cells.toList).toArray:=by
     rw [<-Array.foldl_toList]
     simpa using hf
    rw [e]
    exact ih
   ·simp at h
  ·simp at h
theorem run_build {P:Program} (T:TIok P t ti) (hd:ti.d.agg = true) {l:Env} {parts:Array (Nat × Operand)} {cs:List Value} (h:buildL l ti.size (placeOf ti.d) parts.toList ti.zero.cells.toList = some cs)
  {ρ:Operand -> Value} (hρ:∀ x u,evo l x = some u -> ρ x = u) (w:World):(Instr.build t (parts.map fun (i,x) => (i,ρ x))).run P w = .ok (.agg cs.toArray) w:=by
 have hf:=fill_build (place:=placeOf ti.d) hρ parts.toList ti.zero.cells.toList cs (by simpa using T.zsz) h
 cases htd:ti.d with
 | struct fs =>
  obtain ⟨F,hu,hm⟩:=T.isStruct htd
  have hmap:∀ (L:List Field) (gs:List (Nat × Nat × Nat)),(L.map fun f => (f.type,f.offset,(P.info? f.type).map (·.size))) = gs.map (fun x => (x.1,x.2.1,some x.2.2)) →
    (L.mapM (fun f => do pure (f.offset,<-sizeOf f.type):Field -> Sem (Nat × Nat))).run P w = .ok (gs.map (·.2)) w:=by
   intro L
   induction L with
   | nil => intro gs h; cases gs <;> simp_all
   | cons f L ih =>
    intro gs h
    cases gs with
    | nil => simp at h
    | cons g gs =>
     simp only [List.map_cons,List.cons.injEq,Prod.mk.injEq] at h
     obtain ⟨⟨_,h2,h3⟩,h4⟩:=h
     cases hi:P.info? f.type with
     | none => simp [hi] at h3
     | some i =>
      simp [hi] at h3
      have:=ih gs h4
      simp only [List.mapM_cons,Sem.run_bind,sizeOf,typeInfo] at this ⊢
      simp [hi,h3,h2]
      simp at this
      rw [this]
      rfl
  have hp:(fun i => ((fs.map (·.2)).toArray[i]? : Option (Nat × Nat))) = placeOf ti.d:=by
   funext i
   rw [htd]
   simp only [placeOf]
   cases hi:fs[i]? with
   | none => simp [hi]
   | some x => simp [hi]
  have:=hmap F.toList fs hm
  simp only [Instr.build,Sem.run_bind,T.run_zero,Result.andThen_ok,run_underlying hu]
  rw [Array.mapM_eq_mapM_toList,Sem.run_map,this]
  simp only [Result.andThen_ok]
  have e2:(parts.map fun (i,x) => (i,ρ x)).toList = parts.toList.map fun (i,x) => (i,ρ x):=by simp
  rw [e2,hp]
  have:Instr.fill (placeOf ti.d) ti.zero.cells (parts.toList.map fun (i,x) => (i,ρ x)) = some cs.toArray:=by simpa using hf
  rw [this]
  rfl
 | arr n e esz =>
  have hu:=(T.isArr htd).1
  have hz:=T.elem_arr htd
  rw [htd] at hf
  simp only [Instr.build,Sem.run_bind,T.run_zero,Result.andThen_ok,run_underlying hu,hz]
  have e2:(parts.map fun (i,x) => (i,ρ x)).toList = parts.toList.map fun (i,x) => (i,ρ x):=by simp
  rw [e2]
  have:Instr.fill (fun i => some (i * esz,esz)) ti.zero.cells (parts.toList.map fun (i,x) => (i,ρ x)) = some cs.toArray:=by
   have hpl:placeOf (.arr n e esz) = fun i => some (i * esz,esz):=rfl
   rw [hpl] at hf
   simpa using hf
  rw [this]
  rfl
 | _ => rw [htd] at hd; cases hd
def isPure:Op -> Bool
 | .move _ | .assign _ | .pick .. | .nilCheck _ | .fieldAddr .. | .indexAddr .. | .index .. | .field .. | .binOp .. | .unOp .not .. | .unOp .neg .. | .convert .. | .extract .. | .makeFunc .. | .build .. | .slice _ _ _ _ none => true
 | _ => false
theorem opQ_sound (hC:C.Ok) {o:Oper} {l:Env} {w:World} {K:Value -> Prop} (h:opQ C o l w K) :
  ∃ v,K v ∧ ∀ ρ:Operand -> Value,(∀ x u,evo l x = some u -> ρ x = u) -> ∀ w',(isPure o.op = true ∨ Ext w w') -> (execOp ρ o).run C.P w' = .ok (.value v) w':=by
 obtain ⟨dst,op,type,pos,after,guard⟩:=o
 unfold opQ at h
 simp only at h
 split at h
 case h_1 => -- move
  replace h:=withO_iff h; obtain ⟨v,hv,hk⟩:=h
  exact ⟨v,hk,fun ρ hρ w' _ => by simp [execOp,hρ _ _ hv]⟩
 case h_2 =>
  replace h:=withO_iff h; obtain ⟨v,hv,hk⟩:=h
  exact ⟨v,hk,fun ρ hρ w' _ => by simp [execOp,hρ _ _ hv]⟩
 case h_3 => -- pick
  replace h:=withO_iff h; obtain ⟨v,hv,hk⟩:=h
  split at hk
  ·rename_i b
   cases b with
   | true =>
    replace hk:=withO_iff (show withO _ _ from hk); obtain ⟨u,hu,hk⟩:=hk
    exact ⟨u,hk,fun ρ hρ w' _ => by simp [execOp,hρ _ _ hv,hρ _ _ hu,asBool]⟩
   | false =>
    replace hk:=withO_iff (show withO _ _ from hk); obtain ⟨u,hu,hk⟩:=hk
    exact ⟨u,hk,fun ρ hρ w' _ => by simp [execOp,hρ _ _ hv,hρ _ _ hu,asBool]⟩
  ·exact hk.elim
 case h_4 => -- load
  replace h:=withO_iff h; obtain ⟨v,hv,hk⟩:=h
  split at hk
  ·replace hk:=withO_iff hk; obtain ⟨ti,hti,hk⟩:=hk
   obtain ⟨u,hu,hr⟩:=run_load (hC.ti hti) hk
   exact ⟨u,hu,fun ρ hρ w' he => by simp [execOp,hρ _ _ hv,Instr.loadAt,Instr.sureAddr,hr w' (he.resolve_left (by simp [isPure]))]⟩
  ·exact hk.elim
 case h_5 => -- nilCheck
  replace h:=withO_iff h; obtain ⟨v,hv,hk⟩:=h
  split at hk
  ·exact ⟨_,hk,fun ρ hρ w' _ => by simp [execOp,hρ _ _ hv]⟩
  ·exact ⟨_,hk,fun ρ hρ w' _ => by simp [execOp,hρ _ _ hv]⟩
  ·exact hk.elim
 case h_6 => -- fieldAddr
  replace h:=withO_iff h; obtain ⟨v,hv,hk⟩:=h
  split at hk
  ·rename_i b o'
   replace hk:=withO_iff hk; obtain ⟨ti,hti,hk⟩:=hk
   split at hk
   ·rename_i hd
    replace hk:=withO_iff hk; obtain ⟨⟨ft,off,sz⟩,hf,hk⟩:=hk
    have hs:sz ≠ 0:=by rintro rfl; exact hk
    replace hk:K (.pointer (some ⟨b,addOff o' off,none⟩)):=by
     cases sz with
     | zero => exact hk.elim
     | succ m => exact hk
    obtain ⟨F,f,hu,hF,h1,h2,j,hj,h3⟩:=struct_field (hC.ti hti) hd hf
    refine ⟨_,hk,fun ρ hρ w' _ => ?_⟩
    have hz:(sizeOf f.type).run C.P w' = .ok sz w':=by simp [sizeOf,typeInfo,h1,hj,h3]
    simp [execOp,hρ _ _ hv,Instr.fieldAt,run_underlying hu,hF,Instr.sureAddr,fieldPlace,hz,hs,h2,add_spot,addOff_eq]
   ·exact hk.elim
  ·exact hk.elim
 case h_7 => -- indexAddr
  replace h:=withO_iff h; obtain ⟨v,hv,hk⟩:=h
  replace hk:=withO_iff hk; obtain ⟨iv,hiv,hk⟩:=hk
  replace hk:=withO_iff hk; obtain ⟨ti,hti,hk⟩:=hk
  split at hk
  ·rename_i hd
   obtain ⟨j,rfl,hj,hk⟩:=hk
   have hu:=((hC.ti hti).isArr hd).1
   have hz:=(hC.ti hti).elem_arr hd
   refine ⟨_,hk,fun ρ hρ w' _ => ?_⟩
   simp [execOp,hρ _ _ hv,hρ _ _ hiv,Instr.indexAt,asIntOf,run_underlying hu,Instr.sureAddr,hz,add_spot,hj]
  ·rename_i hd
   obtain ⟨j,b,o',rfl,hj,rfl,hk⟩:=hk
   have hu:=((hC.ti hti).isSlice hd).1
   have hz:=(hC.ti hti).elem_slice hd
   refine ⟨_,hk,fun ρ hρ w' _ => ?_⟩
   simp [execOp,hρ _ _ hv,hρ _ _ hiv,Instr.indexAt,asIntOf,run_underlying hu,hz,add_spot,hj]
  ·exact hk.elim
 case h_8 => -- index
  replace h:=withO_iff h; obtain ⟨v,hv,hk⟩:=h
  replace hk:=withO_iff hk; obtain ⟨iv,hiv,hk⟩:=hk
  replace hk:=withO_iff hk; obtain ⟨ti,hti,hk⟩:=hk
  split at hk
  ·rename_i hd
   obtain ⟨j,rfl,hj,hk⟩:=hk
   replace hk:=withO_iff hk; obtain ⟨te,hte,hk⟩:=hk
   have hu:=((hC.ti hti).isArr hd).1
   have hz:=(hC.ti hti).elem_arr hd
   obtain ⟨r,hr,hrun⟩:=run_part (hC.ti hte) hk
   refine ⟨r,hr,fun ρ hρ w' _ => ?_⟩
   simp [execOp,hρ _ _ hv,hρ _ _ hiv,Instr.index,asIntOf,run_underlying hu,hz,hj,hrun]
  ·rename_i hd
   obtain ⟨j,c,rfl,hj,hk⟩:=hk
   refine ⟨_,hk,fun ρ hρ w' _ => ?_⟩
   simp [execOp,hρ _ _ hv,hρ _ _ hiv,Instr.index,asIntOf,run_underlying ((hC.ti hti).isStr hd),hj]
  ·exact hk.elim
 case h_9 => -- field
  replace h:=withO_iff h; obtain ⟨v,hv,hk⟩:=h
  replace hk:=withO_iff hk; obtain ⟨ti,hti,hk⟩:=hk
  split at hk
  ·rename_i hd
   replace hk:=withO_iff hk; obtain ⟨⟨ft,off,sz⟩,hf,hk⟩:=hk
   replace hk:=withO_iff hk; obtain ⟨te,hte,hk⟩:=hk
   obtain ⟨F,f,hu,hF,h1,h2,_⟩:=struct_field (hC.ti hti) hd hf
   obtain ⟨r,hr,hrun⟩:=run_part (hC.ti hte) hk
   refine ⟨r,hr,fun ρ hρ w' _ => ?_⟩
   simp [execOp,hρ _ _ hv,Instr.field,run_underlying hu,hF,asAgg,h1,h2,hrun]
  ·exact hk.elim
 case h_10 => -- binOp
  replace h:=withO_iff h; obtain ⟨a,ha,hk⟩:=h
  replace hk:=withO_iff hk; obtain ⟨b,hb,hk⟩:=hk
  obtain ⟨r,hr,hrun⟩:=run_bin hk
  refine ⟨r,hr,fun ρ hρ w' _ => ?_⟩
  have:=hrun w'
  simp only [execOp,hρ _ _ ha,hρ _ _ hb]
  rw [Sem.run_bind,this]
  rfl
 case h_11 => -- not
  replace h:=withO_iff h; obtain ⟨a,ha,hk⟩:=h
  split at hk
  ·exact ⟨_,hk,fun ρ hρ w' _ => by simp [execOp,hρ _ _ ha,Op.unary]⟩
  ·exact hk.elim
 case h_12 => -- neg
  replace h:=withO_iff h; obtain ⟨a,ha,hk⟩:=h
  split at hk
  ·obtain ⟨z,hz,hk⟩:=hk
   exact ⟨_,hk,fun ρ hρ w' _ => by simp [execOp,hρ _ _ ha,Op.unary,Op.intArith]; simpa using hz⟩
  ·exact hk.elim
 case h_13 => -- convert
  replace h:=withO_iff h; obtain ⟨a,ha,hk⟩:=h
  replace hk:=withO_iff hk; obtain ⟨ts,hts,hk⟩:=hk
  replace hk:=withO_iff hk; obtain ⟨td,htd,hk⟩:=hk
  obtain ⟨ds,hds,_⟩:=(hC.ti hts).under
  split at hk
  ·rename_i hd
   obtain ⟨z,hz,hk⟩:=hk
   refine ⟨_,hk,fun ρ hρ w' _ => ?_⟩
   simp [execOp,hρ _ _ ha,convert,run_underlying hds,run_underlying ((hC.ti htd).isInt hd),Conv.intToInt,hz]
  ·rename_i hd
   refine ⟨_,hk,fun ρ hρ w' _ => ?_⟩
   simp [execOp,hρ _ _ ha,convert,run_underlying hds,run_underlying ((hC.ti htd).isStr hd)]
  ·exact hk.elim
 case h_14 => -- extract
  replace h:=withO_iff h; obtain ⟨a,ha,hk⟩:=h
  split at hk
  ·rename_i vs
   replace hk:=withO_iff hk; obtain ⟨u,hu,hk⟩:=hk
   simp at hu
   exact ⟨u,hk,fun ρ hρ w' _ => by simp [execOp,hρ _ _ ha,Instr.extract,hu]⟩
  ·exact hk.elim
 case h_15 => -- makeFunc
  obtain ⟨fs,cs,hf,hc,hk⟩:=h
  refine ⟨_,hk,fun ρ hρ w' _ => ?_⟩
  have all:∀ (xs:List Operand) (vs:List Value),xs.map (evo l) = vs.map some -> xs.map ρ = vs:=by
   intro xs
   induction xs with
   | nil => intro vs h; cases vs <;> simp_all
   | cons x xs ih =>
    intro vs h
    cases vs with
    | nil => simp at h
    | cons v vs => simp only [List.map_cons,List.cons.injEq] at h ⊢; exact ⟨hρ _ _ h.1,ih _ h.2⟩
  have e1:=all _ _ hf
  have e2:=all _ _ hc
  rename_i fn first captured _
  have a1:first.map ρ = fs.toArray:=by apply Array.ext'; simp [e1]
  have a2:captured.map ρ = cs.toArray:=by apply Array.ext'; simp [e2]
  simp [execOp,Instr.makeFunc,a1,a2]
 case h_16 => -- build
  replace h:=withO_iff h; obtain ⟨ti,hti,h⟩:=h
  split at h
  ·rename_i hd
   replace h:=withO_iff h; obtain ⟨cs,hcs,hk⟩:=h
   refine ⟨_,hk,fun ρ hρ w' _ => ?_⟩
   simp [execOp,run_build (hC.ti hti) hd hcs hρ]
  ·exact h.elim
 case h_17 => -- slice
  replace h:=withO_iff h; obtain ⟨v,hv,hk⟩:=h
  replace hk:=withO_iff hk; obtain ⟨ti,hti,hk⟩:=hk
  split at hk
  ·rename_i hd
   obtain ⟨i,h',hi,hh,h1,h2,hk⟩:=hk
   have hu:=((hC.ti hti).isSlice hd).1
   have hz:=(hC.ti hti).elem_slice hd
   refine ⟨_,hk,fun ρ hρ w' _ => ?_⟩
   have b1:=fun w => bounds_run hρ hi hh h1 h2 true C.P w
   have sz:=hz
   simp [execOp,hρ _ _ hv,Instr.sliceAt,run_underlying hu,Instr.slice,b1,sz]
  ·rename_i hd
   obtain ⟨i,h',hi,hh,h1,h2,hk⟩:=hk
   have hu:=(hC.ti hti).isStr hd
   refine ⟨_,hk,fun ρ hρ w' _ => ?_⟩
   have b1:=fun w => bounds_run hρ hi hh h1 h2 false C.P w
   simp [execOp,hρ _ _ hv,Instr.sliceAt,run_underlying hu,Instr.slice,b1]
  ·exact hk.elim
 case h_18 => -- len
  rename_i args ts
  replace h:=withO_iff h
  obtain ⟨x,hx,h⟩:=h
  replace h:=withO_iff h
  obtain ⟨ty,ht,h⟩:=h
  replace h:=withO_iff h
  obtain ⟨v,hv,h⟩:=h
  obtain ⟨r,hr,hrun⟩:=len_run hC h type
  refine ⟨r,hr,fun ρ hρ w' he => ?_⟩
  simp at hx ht
  have e:Builtin.len_ ts type (args.map ρ) = Builtin.len_ #[ty] type #[v]:=by
   unfold Builtin.len_
   simp [hx,ht,hρ _ _ hv]
  simp only [execOp,resolve,invoke,builtin,Sem.run_bind,Sem.run_pure,Result.andThen_ok,e,hrun w' (he.resolve_left (by simp [isPure]))]
 case h_19 =>
  obtain ⟨v,hr,hk⟩:=h
  refine ⟨v,hk,fun ρ hρ w' he => hr ρ hρ w' (he.resolve_left fun hp => ?_)⟩
  unfold isPure at hp
  split at hp <;> first | (cases hp; done) | simp_all
end
end Go.Eng
namespace Go.Eng
open Go.RowKit
theorem except_bind {ε α β:Type} {x:Except ε α} {f:α -> Except ε β} {r:β} (h:(x >>= f) = .ok r):∃ a,x = .ok a ∧ f a = .ok r:=by
 cases x with
 | ok a => exact ⟨a,rfl,h⟩
 | error e => cases h
theorem viewStore_drawn {p:Program} {w w':World} {at_:Addr} {u:TypeId} {k:Addr} {v:Value} {b:Bool} {l:List Addr} (h:w.viewStore p at_ u k v b = .ok (w',l)):w'.drawn = w.drawn:=by
 unfold World.viewStore at h
 by_cases h1:(!tight p p.depth u) = true
 ·rw [if_pos h1] at h
  obtain ⟨_,h2,_⟩:=except_bind h
  cases h2
 ·rw [if_neg h1] at h
  obtain ⟨⟨c,e,fr,fi,like,cells⟩,_,h⟩:=except_bind h
  dsimp only at h
  cases hb:v.bytes? with
  | none => rw [hb] at h; cases h
  | some bytes =>
   rw [hb] at h
   dsimp only at h
   by_cases h2:some bytes.length ≠ like.bytes?.map (·.length)
   ·rw [if_pos h2] at h
    obtain ⟨_,h3,_⟩:=except_bind h
    cases h3
   ·rw [if_neg h2] at h
    obtain ⟨c2,_,h⟩:=except_bind h
    injection h with h
    injection h with h1 h2
    rw [<-h1]
theorem farStore_drawn {p:Program} {w w':World} {a:Addr} {v:Value} {b:Bool} {l:List Addr} (h:w.farStore p a v b = .ok (w',l)):w'.drawn = w.drawn:=by
 unfold World.farStore at h
 split at h
 ·split at h
  ·rename_i r hr
   injection h with h
   subst h
   exact viewStore_drawn hr
  ·cases h
 ·cases h
theorem ask_drawn {α:Type}:∀ (a:Ask α) (w:World),w.drawn <= (w.ask a).2.drawn
 | .done a,w => Nat.le_refl _
 | .ask what range k,w => by
  unfold World.ask
  simp only
  split
  ·exact ask_drawn _ w
  ·exact Nat.le_trans (Nat.le_succ _) (ask_drawn _ { w with drawn:=w.drawn + 1 })
theorem sys_drawn (w:World) (c:Sys):w.drawn <= (w.sys c).2.drawn:=by
 have h:=ask_drawn (Kernel.perform c w.os) w
 unfold World.sys
 split
 ·exact Nat.le_refl _
 ·rename_i r os w1 hq
  rw [hq] at h
  exact h
theorem run_drawn {α:Type} (p:Program) (e:Sem α):∀ {w w':World} {v:α},e.run p w = .ok v w' -> w.drawn <= w'.drawn:=by
 induction e with
 | pure a => intro w w' v h; simp only [Sem.run] at h; cases h; exact Nat.le_refl _
 | load m a k ih =>
  intro w w' v h
  simp only [Sem.run] at h
  split at h
  ·exact ih _ h
  ·split at h
   ·exact ih _ h
   ·cases h
 | store m a x k ih =>
  intro w w' v h
  have key:∀ {r:Result α},r = .ok v w' -> (r = (match w.cell? a with
    | some _ => if w.frozen? a then .halt (.unsupported (.unsafePointer "a write to bytes that a string shares")) w else k.run p (w.setCell a x)
    | none => match w.farStore p a x (m == .atomic) with
     | .ok (w,_) => k.run p w
     | .error h => .halt h w)) -> w.drawn <= w'.drawn:=by
   intro r h1 h2
   rw [h1] at h2
   split at h2
   ·split at h2
    ·cases h2
    ·have:=ih h2.symm
     have e:(w.setCell a x).drawn = w.drawn:=by unfold World.setCell; split <;> rfl
     omega
   ·split at h2
    ·rename_i w2 l hf
     have:=ih h2.symm
     have:=farStore_drawn hf
     omega
    ·cases h2
  cases x <;> simp only [Sem.run] at h <;> first | (cases h; done) | exact key h rfl
 | new o k ih =>
  intro w w' v h
  simp only [Sem.run] at h
  exact ih w.heap.size (w:={ w with heap:=w.heap.push o }) h
 | shape r k ih => intro w w' v h; simp only [Sem.run] at h; exact ih _ h
 | freeze a n k ih =>
  intro w w' v h
  simp only [Sem.run] at h
  have:=ih h
  have e:(w.freeze a n).drawn = w.drawn:=by unfold World.freeze; split <;> rfl
  omega
 | frozen a k ih => intro w w' v h; simp only [Sem.run] at h; exact ih _ h
 | getObj r k ih =>
  intro w w' v h
  simp only [Sem.run] at h
  split at h
  ·cases h
  ·exact ih _ h
  ·cases h
 | setObj r o k ih =>
  intro w w' v h
  simp only [Sem.run] at h
  split at h
  ·cases h
  ·exact ih (w:={ w with heap:=w.heap.setIfInBounds r o }) h
  ·cases h
 | choose q k ih =>
  intro w w' v h
  simp only [Sem.run] at h
  split at h
  ·exact ih _ h
  ·exact Nat.le_trans (Nat.le_succ _) (ih _ h)
 | sys c k ih =>
  intro w w' v h
  simp only [Sem.run] at h
  exact Nat.le_trans (sys_drawn w c) (ih _ h)
 | program k ih => intro w w' v h; simp only [Sem.run] at h; exact ih _ h
 | mark m k ih => intro w w' v h; simp only [Sem.run] at h; exact ih h
 | halt x => intro w w' v h; simp only [Sem.run] at h; cases h
structure Alloc (w:World) (g:Nat) (o:Obj) (w':World):Prop where
 new:g = w.heap.size
 heap:w'.heap = w.heap.push o
 os:w'.os = w.os
 tape:w'.tape = w.tape
 output:w'.output = w.output
structure Put (w:World) (g:Nat) (o:Obj) (w':World):Prop where
 size:w'.heap.size = w.heap.size
 here:w'.heap[g]? = some o
 there:∀ k,k ≠ g -> w'.heap[k]? = w.heap[k]?
 os:w'.os = w.os
 tape:w'.tape = w.tape
 output:w'.output = w.output
def CallsX (b:Bool) (P:Program) (f:Nat) (args:Array Value) (w:World) (K:Value -> World -> Prop):Prop :=
 ∀ w₁,Same w w₁ -> Calls P f args w₁ fun e w' => (∃ v w'',e = .returned v ∧ K v w'' ∧ Same w'' w') ∧ (b = true -> w₁.drawn <= w'.drawn)
abbrev CallsV (P:Program) (f:Nat) (args:Array Value) (w:World) (K:Value -> World -> Prop):Prop:=CallsX true P f args w K
theorem CallsX.mono {b:Bool} {P:Program} {f:Nat} {args:Array Value} {w:World} {K K':Value -> World -> Prop} (h:CallsX b P f args w K) (hk:∀ v w',K v w' -> K' v w'):CallsX b P f args w K' :=
 fun w₁ hs => (h w₁ hs).mono fun _ _ ⟨⟨v,w'',he,hv,hw⟩,hd⟩ => ⟨⟨v,w'',he,hk v w'' hv,hw⟩,hd⟩
theorem callsV_of_calls {P:Program} {f:Nat} {args:Array Value} {w:World} {K:Value -> World -> Prop} (h:∀ w₁,Same w w₁ -> Calls P f args w₁ fun e w' => ∃ v,e = .returned v ∧ K v w' ∧ w₁.drawn <= w'.drawn):CallsV P f args w K :=
 fun w₁ hs => (h w₁ hs).mono fun _ w' ⟨v,he,hk,hd⟩ => ⟨⟨v,w',he,hk,Same.refl _⟩,fun _ => hd⟩
def inRow (l:Env) (esz:Nat):Nat -> List (Nat × Operand) -> Option (List Value)
 | _,[] => some []
 | k,(i,x) :: r => match Nat.beq i k,evo l x with
  | true,some v => match Nat.beq v.cells.size esz,inRow l esz (k + 1) r with
   | true,some cs => some (v.cells.toList ++ cs)
   | _,_ => none
  | _,_ => none
def argsOf (l:Env):List Operand -> Option (List Value)
 | [] => some []
 | x :: r => match evo l x,argsOf l r with
  | some v,some vs => some (v :: vs)
  | _,_ => none
def LoudRun (C:Cfg) (o:Oper) (l:Env) (w:World) (K:Value -> World -> Prop):Prop :=
 ∀ ρ:Operand -> Value,(∀ x u,evo l x = some u -> ρ x = u) -> ∀ w₁,Same w w₁ →
  ∃ v w' w'',((execOp ρ o).run C.P w₁ = .ok (.value v) w'' ∨ ((execOp ρ o).run C.P w₁ = .ok .skip w'' ∧ v = undef)) ∧ K v w' ∧ Same w' w''
def appE (C:Cfg) (t:Nat) (s x:Value) (w:World) (K:Value -> World -> Prop):Prop:=withO (C.ti t) fun ti => match ti.d,x with
 | .slice e esz eb,.slice A m _ => withO (C.ti e) fun te => ∃ (base n:Nat) (xs ys:List Value),w.ownsRow base e esz s n xs ∧ base <= w.heap.size ∧ 0 < esz ∧ te.zero.cells.size = esz ∧
   ys.length = m * esz ∧ (ys = [] ∨ ∃ b o,A = some ⟨b,o,none⟩ ∧ Rd w b o ys) ∧ (A.isSome || Nat.beq m 0) = true ∧ ys.all (·.oneCell') = true ∧ (n + m) * eb <= 140737488355328 ∧ n + m <= maxLen ∧
   ∀ v' w',w'.ownsRow base e esz v' (n + m) (xs ++ ys) -> w.grownBy w' s.ownBlock -> (((v' = .slice none 0 0 <-> s = .slice none 0 0 ∧ m = 0) ∧ ∀ k t':Nat,w.heap[k]? = some (Obj.cells #[] t' (0,0)) -> w'.heap[k]? = some (Obj.cells #[] t' (0,0))) ∧ ∀ k,v'.ownBlock = some k -> s.ownBlock = some k ∨ w.heap.size <= k) -> K v' w'
 | _,_ => False
def sameB:Option Nat -> Option Nat -> Bool
 | some a,some b => Nat.beq a b
 | _,_ => true
def opL (C:Cfg) (o:Oper) (l:Env) (w:World) (K:Value -> World -> Prop):Prop:=match o.op with
 | .alloc t => withO (C.ti t) fun ti => ∀ g w',Alloc w g (.cells ti.zero.cells t (0,0)) w' -> K (.pointer (some ⟨g,0,none⟩)) w'
 | .box t x => withO (evo l x) fun v => ∀ g w',Alloc w g (.cells v.cells t (0,0)) w' -> K (.pointer (some ⟨g,0,none⟩)) w'
 | .buildSlice t n parts => withO (C.ti t) fun ti => match ti.d with
  | .slice e esz _ => withO (C.ti e) fun te => match Nat.beq esz te.size && Nat.beq parts.size n && Nat.blt 0 esz && Nat.ble (n * esz) 16777216 with
   | true => withO (inRow l esz 0 parts.toList) fun cs => ∀ g w',Alloc w g (.cells cs.toArray e (0,0)) w' -> K (.slice (some ⟨g,0,none⟩) n n) w'
   | false => False
  | _ => False
 | .makeSlice t ln cp => withO (C.ti t) fun ti => withO (evo l ln) fun nv => withO (evo l cp) fun cv => match ti.d,nv,cv with
  | .slice e esz eb,.int _ ni,.int _ ci => withO (C.ti e) fun te => ∃ n c:Nat,ni = (n:Int) ∧ ci = (c:Int) ∧ n <= c ∧ c * eb <= 2 ^ 47 ∧ c < 2 ^ 62 ∧ esz = 1 ∧ te.size = 1 ∧ te.d.agg = false ∧
    te.zero.cells = #[te.zero] ∧ ∀ g w',Alloc w g (.cells (List.replicate c te.zero).toArray e (0,0)) w' -> K (.slice (some ⟨g,0,none⟩) n c) w'
  | _,_,_ => False
 | .store t x y => withO (evo l x) fun p => withO (evo l y) fun v => withO (C.ti t) fun ti => match p with
  | .pointer (some ⟨b,o,none⟩) => v.cells.size = ti.size ∧ ∃ (cs:List Value) (T:Nat),w.heap[b]? = some (.cells cs.toArray T (0,0)) ∧ o + ti.size <= cs.length ∧ v.cells.toList.all (·.oneCell') = true ∧
    ∀ w',Put w b (.cells (splice cs o v.cells.toList).toArray T (0,0)) w' -> K undef w'
  | _ => False
 | .call ⟨.value f,args,_⟩ => withO (evo l f) fun fv => match fv with
  | .func (.func g) first captured => brE (C.can g) (withO (argsOf l args.toList) fun vs => CallsX C.dr C.P g (first ++ vs.toArray ++ captured) w K) False
  | _ => False
 | .call ⟨.builtin .append,args,ts⟩ => match sameB ts.toList[0]? ts.toList[1]? with
  | true => withO args.toList[0]? fun s => withO args.toList[1]? fun x => withO ts.toList[0]? fun t => ts.toList[1]? = some t ∧ args.size = 2 ∧ ts.size = 2 ∧ withO (evo l s) fun sv => withO (evo l x) fun xv => appE C t sv xv w K
  | false => LoudRun C o l w K
 | .makeMap _ none => ∀ g w',Alloc w g (.map #[] 0) w' -> K (.map (some g)) w'
 | _ => LoudRun C o l w K
section
variable {C:Cfg}
theorem run_append_none {P:Program} {w:World} (base:Nat) (t ty e:TypeId) (i:TypeInfo) (size c:Nat) (ht:P.underlying t = some (.slice e)) (hi:P.info? e = some i)
  (v:Value) (n:Nat) (xs:List Value) (hown:w.ownsRow base e size v n xs):(Builtin.append_ #[t,t] ty #[v,.slice none 0 c]).run P w = .ok v w:=by
 rcases hown.2 with ⟨rfl,rfl⟩ | ⟨g,cap,cur,rfl,_,_,hnc,_⟩
 ·simp [Builtin.append_,run_underlying ht,sizeOf,typeInfo,hi,Builtin.lenOf,Builtin.firstCells]
 ·simp [Builtin.append_,run_underlying ht,sizeOf,typeInfo,hi,Builtin.lenOf,Builtin.firstCells,hnc,storeCells]
theorem append_place {P:Program} (w:World) (base:Nat) (t ty e:TypeId) (i:TypeInfo) (z:Value) (size bytes:Nat) (ht:P.underlying t = some (.slice e)) (hi:P.info? e = some i) (hz:i.zero = some z)
  (hsize:i.size = size) (hby:i.bytes = bytes) (v:Value) (n:Nat) (xs:List Value) (hown:w.ownsRow base e size v n xs)
  (a:Addr) (m c:Nat) (news:List Value) (hl:news.length = m * size) (hnews:∀ j u,news[j]? = some u -> w.cell? (a.add j) = some u) (h1:∀ u ∈ news,u.oneCell' = true)
  (h63:n + m <= maxLen) (hbytes:(n + m) * bytes <= 140737488355328) {v':Value} {w':World} (hr:(Builtin.append_ #[t,t] ty #[v,.slice (some a) m c]).run P w = .ok v' w') (h4:v' = .slice none 0 0 <-> v = .slice none 0 0 ∧ m = 0) :
  ∀ k,v'.ownBlock = some k -> v.ownBlock = some k ∨ w.heap.size <= k:=by
 subst hsize
 subst hby
 have hsmall:n + m <= 9223372036854775807:=by simp only [maxLen] at h63; omega
 rcases hown.2 with ⟨rfl,rfl⟩ | ⟨g,cap,cur,rfl,hbg,hg,hnc,hcm,hcs,htake⟩
 ·by_cases hm:m = 0
  ·have:=h4.2 ⟨rfl,hm⟩
   subst this
   intro k hk; simp [Value.ownBlock] at hk
  ·have hr2:=run_append_nil (P:=P) w t ty e i z ht hi hz a m c news hl hnews (by omega) (by omega) (by have hb:=hbytes; simp only [Nat.zero_add] at hb; omega)
   rw [hr2] at hr
   injection hr with hr _
   subst hr
   intro k hk
   simp [Value.ownBlock] at hk
   exact .inr (by omega)
 ·by_cases hroom:n + m <= cap
  ·have hfit:n * i.size + news.length <= cur.size:=by rw [hl,hcs,<-Nat.add_mul]; exact Nat.mul_le_mul_right _ hroom
   have hr2:=run_append_room (P:=P) w t ty e i ht hi g n cap cur hg a m c news hl hnews h1 hroom hfit
   rw [hr2] at hr
   injection hr with hr _
   subst hr
   intro k hk
   exact .inl hk
  ·have holds:∀ j u,xs[j]? = some u -> w.cell? ((⟨g,0,none⟩:Addr).add j) = some u:=hown.cells (g:=g) rfl
   have hr2:=run_append_grow (P:=P) w t ty e i z ht hi hz ⟨g,0,none⟩ n cap xs hown.1 holds a m c news hl hnews (by omega) (by omega) (growslice_fits (by omega) hbytes)
   rw [hr2] at hr
   injection hr with hr _
   subst hr
   intro k hk
   simp [Value.ownBlock] at hk
   exact .inr (by omega)
theorem append_empty {P:Program} (w:World) (base:Nat) (t ty e:TypeId) (i:TypeInfo) (z:Value) (size bytes:Nat) (ht:P.underlying t = some (.slice e)) (hi:P.info? e = some i) (hz:i.zero = some z)
  (hsize:i.size = size) (hby:i.bytes = bytes) (hpos:0 < size) (v:Value) (n:Nat) (xs:List Value) (hown:w.ownsRow base e size v n xs)
  (a:Addr) (m c:Nat) (news:List Value) (hl:news.length = m * size) (hnews:∀ j u,news[j]? = some u -> w.cell? (a.add j) = some u) (h1:∀ u ∈ news,u.oneCell' = true)
  (h63:n + m <= maxLen) (hbytes:(n + m) * bytes <= 140737488355328) {v':Value} {w':World} (hr:(Builtin.append_ #[t,t] ty #[v,.slice (some a) m c]).run P w = .ok v' w') (hgr:w.grownBy w' v.ownBlock) :
  ∀ (k t':Nat),w.heap[k]? = some (Obj.cells #[] t' (0,0)) -> w'.heap[k]? = some (Obj.cells #[] t' (0,0)):=by
 subst hsize
 subst hby
 have hsmall:n + m <= 9223372036854775807:=by simp only [maxLen] at h63; omega
 intro k t' hk
 have hks:k < w.heap.size:=(Array.getElem?_eq_some_iff.1 hk).1
 by_cases hkg:some k = v.ownBlock
 ·rcases hown.2 with ⟨rfl,_⟩ | ⟨g,cap,cur,rfl,hbg,hg,hnc,hcm,hcs,htake⟩
  ·simp [Value.ownBlock] at hkg
  ·simp only [Value.ownBlock,Option.some.injEq] at hkg
   subst hkg
   rw [hg] at hk
   simp only [Option.some.injEq,Obj.cells.injEq] at hk
   obtain ⟨rfl,rfl,_⟩:=hk
   have hc0:cap = 0:=by
    have:0 = cap * i.size:=hcs
    rcases Nat.mul_eq_zero.1 this.symm with h | h
    ·exact h
    ·omega
   subst hc0
   by_cases hroom:n + m <= 0
   ·have hm:m = 0:=by omega
    have hn:n = 0:=by omega
    subst hm hn
    have hnil:news = []:=List.eq_nil_of_length_eq_zero (by simpa using hl)
    subst hnil
    have hr2:=run_append_room (P:=P) w t ty e i ht hi k 0 0 #[] hg a 0 c [] hl hnews h1 (Nat.le_refl _) (by simp)
    rw [hr2] at hr
    injection hr with _ hr
    subst hr
    rw [setRow_heap w k #[] _ e _ hg]
    simp
   ·have holds:∀ j u,xs[j]? = some u -> w.cell? ((⟨k,0,none⟩:Addr).add j) = some u:=hown.cells (g:=k) rfl
    have hr2:=run_append_grow (P:=P) w t ty e i z ht hi hz ⟨k,0,none⟩ n 0 xs hown.1 holds a m c news hl hnews (by omega) (by omega) (growslice_fits (by omega) hbytes)
    rw [hr2] at hr
    injection hr with _ hr
    subst hr
    rw [heap_alloc_old w.drew _ k hks]
    exact hg
 ·rw [hgr.block k hks hkg]; exact hk
theorem argsOf_eval {l:Env} {ρ:Operand -> Value} (hρ:∀ x u,evo l x = some u -> ρ x = u):∀ {xs:List Operand} {vs:List Value},argsOf l xs = some vs -> xs.map ρ = vs
 | [],vs,h => by simp [argsOf] at h; subst h; rfl
 | x :: r,vs,h => by
  unfold argsOf at h
  split at h
  ·rename_i v us hv hus
   simp at h; subst h
   simp [hρ _ _ hv,argsOf_eval hρ hus]
  ·simp at h
theorem Alloc.of_same {w w₁:World} (h:Same w w₁) (o:Obj):Alloc w w.heap.size o (w₁.alloc o):=⟨rfl,by show w₁.heap.push o = _; rw [h.heap],h.os,h.tape,h.output⟩
theorem run_newRow (P:Program) (w:World) (e:Nat) (cs:Array Value):(newRow e cs).run P w = .ok ⟨w.heap.size,0,none⟩ (w.alloc (.cells cs e)):=by
 simp [newRow,newObj,Sem.run]
theorem ownsRow_same {w w₁:World} (h:Same w w₁) {base e size n:Nat} {v:Value} {xs:List Value} (ho:w.ownsRow base e size v n xs):w₁.ownsRow base e size v n xs:=by
 unfold World.ownsRow at *
 rw [h.heap]; exact ho
theorem fill_row {place:Nat -> Option (Nat × Nat)} {l:Env} {esz:Nat} (hp:∀ i,place i = some (i * esz,esz)) {ρ:Operand -> Value} (hρ:∀ x u,evo l x = some u -> ρ x = u) :
  ∀ (parts:List (Nat × Operand)) (k:Nat) (cs pre:List Value) (post:List Value),inRow l esz k parts = some cs -> pre.length = k * esz -> post.length = parts.length * esz →
   Instr.fill place (pre ++ post).toArray (parts.map fun (i,x) => (i,ρ x)) = some (pre ++ cs).toArray
 | [],k,cs,pre,post,h,_,hpost => by
  simp [inRow] at h; subst h
  have:post = []:=by simpa using hpost
  subst this
  simp [Instr.fill]
 | (i,x) :: r,k,cs,pre,post,h,hpre,hpost => by
  unfold inRow at h
  split at h
  ·rename_i v hb hv
   split at h
   ·rename_i cs' hsz hcs
    simp at h; subst h
    have hik:=Nat.eq_of_beq_eq_true hb
    have hvs:=Nat.eq_of_beq_eq_true hsz
    subst hik
    have hpl:post.length = esz + r.length * esz:=by rw [hpost]; simp [Nat.add_mul,Nat.add_comm]
    simp only [List.map_cons,Instr.fill,hp,hρ _ _ hv,hvs]
    have hb2:¬ (i * esz + esz > (pre ++ post).length):=by rw [List.length_append,hpre,hpl]; omega
    have hfold:∀ (vs:List Value) (j:Nat) (a b:List Value),a.length = i * esz + j -> vs.length <= b.length →
      (vs.zipIdx j).foldl (fun cs (x:Value × Nat) => cs.setIfInBounds (i * esz + x.2) x.1) (a ++ b).toArray = (a ++ vs ++ b.drop vs.length).toArray:=by
     intro vs
     induction vs with
     | nil => intro j a b _ _; simp
     | cons u us ih =>
      intro j a b ha hb
      cases b with
      | nil => simp at hb
      | cons b0 b =>
       simp only [List.zipIdx_cons,List.foldl_cons]
       have:(a ++ b0 :: b).toArray.setIfInBounds (i * esz + j) u = ((a ++ [u]) ++ b).toArray:=by
        simp [<-ha]
       rw [this,ih (j + 1) (a ++ [u]) b (by simp [ha]; omega) (by simpa using hb)]
       simp
    have hz:(v.cells.zipIdx.foldl (fun cs (x:Value × Nat) => cs.setIfInBounds (i * esz + x.2) x.1) (pre ++ post).toArray) = (pre ++ v.cells.toList ++ post.drop v.cells.size).toArray:=by
     have h1:=hfold v.cells.toList 0 pre post (by simpa using hpre) (by simp [hvs,hpl])
     rw [<-Array.foldl_toList]
     simpa using h1
    simp only [ne_eq,not_true_eq_false,decide_false,Bool.false_or,List.size_toArray,hb2,decide_false,Bool.false_eq_true,if_false]
    rw [hz]
    have ih:=fill_row hp hρ r (i + 1) cs' (pre ++ v.cells.toList) (post.drop v.cells.size) hcs (by simp [hpre,hvs,Nat.add_mul]) (by simp [hpl,hvs])
    rw [ih]
    try simp
   ·simp at h
  ·simp at h
theorem run_buildSlice {P:Program} {t e te_size eb n:Nat} {ti te:TI} (hT:TIok P t ti) (hd:ti.d = .slice e te_size eb) (hE:TIok P e te) {parts:Array (Nat × Operand)} (hn:parts.size = n) (hsmall:n * te_size <= 2 ^ 24)
  {l:Env} {cs:List Value} (hcs:inRow l te_size 0 parts.toList = some cs) {ρ:Operand -> Value} (hρ:∀ x u,evo l x = some u -> ρ x = u) (w:World) :
  (Instr.buildSlice t n (parts.map fun (i,x) => (i,ρ x))).run P w = .ok (.slice (some ⟨w.heap.size,0,none⟩) n n) (w.alloc (.cells cs.toArray e)):=by
 have hu:=(hT.isSlice hd).1
 have hz:=hT.elem_slice hd
 have hsm:¬ (n * te_size > 2 ^ 24):=Nat.not_lt.2 hsmall
 have key:∀ zc:Array Value,Instr.fill (fun i => some (i * te_size,te_size)) ((Array.range (n * te_size)).map (zc[· % zc.size]!)) (parts.map fun (i,x) => (i,ρ x)).toList = some cs.toArray:=by
  intro zc
  have:=fill_row (place:=fun i => some (i * te_size,te_size)) (fun _ => rfl) hρ parts.toList 0 cs [] ((Array.range (n * te_size)).map (zc[· % zc.size]!)).toList hcs (by simp) (by simp [hn])
  rw [List.nil_append,Array.toArray_toList] at this
  rw [Array.toList_map]
  simpa using this
 unfold Instr.buildSlice
 simp only [Sem.run_bind,run_underlying hu,Result.andThen_ok,hz,hsm,if_false]
 by_cases h0:n * te_size = 0
 ·simp only [h0,if_true]
  have:=key #[]
  rw [h0] at this
  simp only [this,Sem.run_bind,run_newRow,Result.andThen_ok,Sem.run_pure]
 ·simp only [h0,if_false,Sem.run_bind,hE.run_zero,Result.andThen_ok,Sem.run_pure]
  have:=key te.zero.cells
  simp only [this,Sem.run_bind,run_newRow,Result.andThen_ok,Sem.run_pure]
theorem wrap64_nat {n:Nat} (h:n < 2 ^ 62):IntKind.i64.wrap (n:Int) = (n:Int):=by
 have:=IntWalk.i64_in (n:Int) ⟨by omega,by omega⟩
 exact this
theorem run_makeSlice {P:Program} {t e eb n c:Nat} {ti te:TI} (hT:TIok P t ti) (hd:ti.d = .slice e 1 eb) (hE:TIok P e te) (hzc:te.zero.cells = #[te.zero]) (hnc:n <= c) (hb:c * eb <= 2 ^ 47) (hc:c < 2 ^ 62)
  (k k':IntKind) (w:World) :
  (Instr.makeSlice t (.int k n) (.int k' c)).run P w = .ok (.slice (some ⟨w.heap.size,0,none⟩) n c) (w.alloc (.cells (List.replicate c te.zero).toArray e)):=by
 obtain ⟨hu,i,hi,hs,hby⟩:=hT.isSlice hd
 have hz:=hT.elem_slice hd
 have w1:=wrap64_nat (show n < 2 ^ 62 by omega)
 have w2:=wrap64_nat hc
 have h1:¬ ((eb:Int) * (c:Int) > 2 ^ 48):=by
  have:((c * eb:Nat):Int) <= 2 ^ 47:=by exact_mod_cast hb
  rw [Int.mul_comm]; push_cast at this; omega
 have h2:¬ (c * eb > roomBytes):=by unfold roomBytes; omega
 have h3:¬ ((c:Int) < 0):=by omega
 have h4:¬ ((n:Int) < 0):=by omega
 have h5:¬ ((n:Int) > (c:Int)):=by omega
 unfold Instr.makeSlice
 simp [run_underlying hu,asInt,asIntOf,typeInfo,hi,hby,w1,w2,h3,h4,h5,askRoom,hz,run_newRow,hE.run_zero,hzc]
 have h1n:¬ (281474976710656 < (eb:Int) * (c:Int)):=by omega
 rw [if_neg h1n]
 by_cases h0:c = 0
 ·subst h0
  have e:(Array.map (fun _ => (default:Value)) (Array.range 0)) = #[]:=by simp
  simp
  exact congrArg (fun z => w.alloc (Obj.cells z _)) e
 ·rw [if_neg h0]
  have e:(Array.map (fun x => [te.zero][x % 1]?.getD default) (Array.range c)) = Array.replicate c te.zero:=by
   apply Array.ext
   ·simp
   ·intro i _ _; simp [Nat.mod_one]
  rw [e]
theorem allOne {vs:List Value} (h:vs.all (·.oneCell') = true):∀ v ∈ vs,v.oneCell' = true:=fun v hv => List.all_eq_true.1 h v hv
theorem run_storeVar {P:Program} {t:Nat} {ti:TI} (hT:TIok P t ti) {w:World} {b o T:Nat} {v:Value} {cs:List Value} (hsz:v.cells.size = ti.size) (hg:w.heap[b]? = some (.cells cs.toArray T (0,0)))
  (ho:o + ti.size <= cs.length) (h1:v.cells.toList.all (·.oneCell') = true) :
  (storeVar t ⟨b,o,none⟩ v).run P w = .ok () (w.setRow b (splice cs o v.cells.toList).toArray):=by
 have:=run_storeCells_at (P:=P) b o T v.cells.toList 0 cs.toArray w hg (by simp [hsz]; omega) (allOne h1)
 simp [storeVar,hT.run_size,hsz,splice] at this ⊢
 exact this
theorem put_setRow {w w₁:World} (hs:Same w w₁) {b T:Nat} {cs cs':Array Value} (hg:w.heap[b]? = some (.cells cs T (0,0))):Put w b (.cells cs' T (0,0)) (w₁.setRow b cs'):=by
 have hg':w₁.heap[b]? = some (.cells cs T (0,0)):=by rw [hs.heap]; exact hg
 exact ⟨by simp [hs.heap],setRow_heap w₁ b cs _ T _ hg',fun k hk => by rw [setRow_other w₁ b k _ hk,hs.heap],hs.os,hs.tape,hs.output⟩
theorem opL_sound (hC:C.Ok) {o:Oper} {l:Env} {w:World} {K:Value -> World -> Prop} (h:opL C o l w K) {a:Act} {w₁:World} (hρ:∀ x u,evo l x = some u -> a.eval x = u) (hs:Same w w₁)
  {K':Act -> World -> Prop} {Q:Exit -> Act -> World -> Prop} (hK:∀ v w' w'',K v w' -> Same w' w'' -> (C.dr = true -> w₁.drawn <= w''.drawn) -> K' (a.put o.dst v) w''):o.wp C.P a w₁ K' Q:=by
 obtain ⟨dst,op,type,pos,after,guard⟩:=o
 unfold opL at h
 simp only at h hK
 have done:∀ {v:Value} {w' w'':World},(execOp a.eval ⟨dst,op,type,pos,after,guard⟩).run C.P w₁ = .ok (.value v) w'' -> K v w' -> Same w' w'' -> Oper.wp C.P ⟨dst,op,type,pos,after,guard⟩ a w₁ K' Q:=by
  intro v w' w'' hr hk hw
  unfold Oper.wp
  rw [hr]
  exact hK v w' w'' hk hw fun _ => run_drawn _ _ hr
 have doneu:∀ {w' w'':World},(execOp a.eval ⟨dst,op,type,pos,after,guard⟩).run C.P w₁ = .ok .skip w'' -> K undef w' -> Same w' w'' -> Oper.wp C.P ⟨dst,op,type,pos,after,guard⟩ a w₁ K' Q:=by
  intro w' w'' hr hk hw
  unfold Oper.wp
  rw [hr]
  exact hK undef w' w'' hk hw fun _ => run_drawn _ _ hr
 have hsz:w₁.heap.size = w.heap.size:=by rw [hs.heap]
 split at h
 case h_1 => -- alloc
  replace h:=withO_iff h; obtain ⟨ti,hti,h⟩:=h
  refine done ?_ (h w.heap.size _ (Alloc.of_same hs _)) (Same.refl _)
  simp [execOp,Instr.alloc,(hC.ti hti).run_zero,newVar,run_newRow,hsz]
 case h_2 => -- box
  replace h:=withO_iff h; obtain ⟨v,hv,h⟩:=h
  refine done ?_ (h w.heap.size _ (Alloc.of_same hs _)) (Same.refl _)
  simp [execOp,Instr.box,hρ _ _ hv,newVar,run_newRow,hsz]
 case h_3 => -- buildSlice
  replace h:=withO_iff h; obtain ⟨ti,hti,h⟩:=h
  split at h
  ·rename_i hd
   replace h:=withO_iff h; obtain ⟨te,hte,h⟩:=h
   split at h
   ·rename_i hb
    simp only [Bool.and_eq_true] at hb
    obtain ⟨⟨⟨_,hn⟩,_⟩,hsmall⟩:=hb
    replace hn:=Nat.eq_of_beq_eq_true hn
    replace hsmall:=Nat.le_of_ble_eq_true hsmall
    replace h:=withO_iff h; obtain ⟨cs,hcs,h⟩:=h
    refine done ?_ (h w.heap.size _ (Alloc.of_same hs _)) (Same.refl _)
    simp [execOp,run_buildSlice (hC.ti hti) hd (hC.ti hte) hn hsmall hcs hρ,hsz]
   ·exact h.elim
  ·exact h.elim
 case h_4 => -- makeSlice
  replace h:=withO_iff h; obtain ⟨ti,hti,h⟩:=h
  replace h:=withO_iff h; obtain ⟨nv,hnv,h⟩:=h
  replace h:=withO_iff h; obtain ⟨cv,hcv,h⟩:=h
  split at h
  ·rename_i hd
   replace h:=withO_iff h; obtain ⟨te,hte,h⟩:=h
   obtain ⟨n,c,rfl,rfl,hnc,hb,hc,h1,_,_,hzc,h⟩:=h
   subst h1
   refine done ?_ (h w.heap.size _ (Alloc.of_same hs _)) (Same.refl _)
   simp [execOp,hρ _ _ hnv,hρ _ _ hcv,run_makeSlice (hC.ti hti) hd (hC.ti hte) hzc hnc hb hc,hsz]
  ·exact h.elim
 case h_5 => -- store
  replace h:=withO_iff h; obtain ⟨p,hp,h⟩:=h
  replace h:=withO_iff h; obtain ⟨v,hv,h⟩:=h
  replace h:=withO_iff h; obtain ⟨ti,hti,h⟩:=h
  split at h
  ·obtain ⟨hsize,cs,T,hg,ho,h1,h⟩:=h
   refine doneu ?_ (h _ (put_setRow hs hg)) (Same.refl _)
   have hr:=run_storeVar (w:=w₁) (hC.ti hti) hsize (by rw [hs.heap]; exact hg) ho h1
   simp [execOp,hρ _ _ hp,hρ _ _ hv,Instr.storeAt,Instr.sureAddr,hr]
  ·exact h.elim
 case h_6 => -- call
  rename_i f args ts
  replace h:=withO_iff h; obtain ⟨fv,hf,h⟩:=h
  split at h
  ·rename_i g first captured
   rcases Bool.eq_false_or_eq_true (C.can g) with hlt | hlt
   ·rw [hlt] at h
    have h:withO (argsOf l args.toList) fun vs => CallsX C.dr C.P g (first ++ vs.toArray ++ captured) w K:=h
    replace h:=withO_iff h; obtain ⟨vs,hvs,h⟩:=h
    have hc:=hC.funcs g hlt
    have hargs:=argsOf_eval hρ hvs
    unfold callable at hc
    cases hfn:C.P.funcs[g]? with
    | none => simp [hfn] at hc
    | some fn =>
     simp [hfn] at hc
     have hb:fn.body.isNone = false:=by
      cases hb:fn.body with
      | none => simp [hb] at hc
      | some c => rfl
     have hm:args.map a.eval = vs.toArray:=by apply Array.ext'; simp [hargs]
     have hrun:(execOp a.eval ⟨dst,.call ⟨.value f,args,ts⟩,type,pos,after,guard⟩).run C.P w₁ = .ok (.enter g (first ++ vs.toArray ++ captured)) w₁:=by
      simp [execOp,resolve,hρ _ _ hf,Deferred.ofValue,invoke,callFunc,hfn,hc.1,hm]
      intro hn; simp [hn] at hb
     unfold Oper.wp
     rw [hrun]
     refine (h w₁ hs).mono ?_
     rintro e w' ⟨⟨v,w'',rfl,hk,hw⟩,hd⟩
     exact hK v w'' w' hk hw hd
   ·rw [hlt] at h
    exact (show False from h).elim
  ·exact h.elim
 case h_7 => -- append
  rename_i args ts
  split at h
  case h_2 =>
   obtain ⟨v,w',w'',hr,hk,hw⟩:=h a.eval hρ w₁ hs
   rcases hr with hr | ⟨hr,rfl⟩
   ·exact done hr hk hw
   ·exact doneu hr hk hw
  case h_1 =>
   replace h:=withO_iff h; obtain ⟨s,hs0,h⟩:=h
   replace h:=withO_iff h; obtain ⟨x,hx0,h⟩:=h
   replace h:=withO_iff h; obtain ⟨t,ht0,ht1,hn1,hn2,h⟩:=h
   replace h:=withO_iff h; obtain ⟨sv,hsv,h⟩:=h
   replace h:=withO_iff h; obtain ⟨xv,hxv,h⟩:=h
   have ea:args = #[s,x]:=by
    apply Array.ext'
    have:args.toList.length = 2:=hn1
    match hl:args.toList with
    | [] => simp [hl] at this
    | [_] => simp [hl] at this
    | [p,q] => simp [hl] at hs0 hx0; simp [hs0,hx0]
    | _ :: _ :: _ :: _ => simp [hl] at this
   have et:ts = #[t,t]:=by
    apply Array.ext'
    have:ts.toList.length = 2:=hn2
    match hl:ts.toList with
    | [] => simp [hl] at this
    | [_] => simp [hl] at this
    | [p,q] => simp [hl] at ht0 ht1; simp [ht0,ht1]
    | _ :: _ :: _ :: _ => simp [hl] at this
   subst ea et
   unfold appE at h
   replace h:=withO_iff h; obtain ⟨ti,hti,h⟩:=h
   split at h
   ·rename_i e esz eb A m c hd
    replace h:=withO_iff h; obtain ⟨te,hte,h⟩:=h
    obtain ⟨base,n,xs,ys,hown,hbase,hpos,hzs,hl,hys,hA,h1,hbytes,hmax,h⟩:=h
    obtain ⟨hu,i,hi,hisz,hby⟩:=(hC.ti hti).isSlice hd
    obtain ⟨i',hi',hsz',hz'⟩:=(hC.ti hte).got
    have hii:i' = i:=Option.some.inj (hi'.symm.trans hi)
    subst hii
    match A,hA,hys,hxv with
    | none,hA,hys,hxv =>
     have hm0:m = 0:=Nat.eq_of_beq_eq_true hA
     subst hm0
     have hy:ys = []:=by
      rcases hys with h' | ⟨b,o,hb,_⟩
      ·exact h'
      ·cases hb
     subst hy
     have hr:=run_append_none (P:=C.P) (w:=w₁) base t type e i' esz c hu hi sv n xs (ownsRow_same hs hown)
     have hg:w.grownBy w₁ sv.ownBlock:=⟨hs.os,hs.tape,hs.output,by rw [hs.heap]; exact Nat.le_refl _,fun k hk _ => by rw [hs.heap]⟩
     refine done ?_ (h sv w₁ (by rw [Nat.add_zero,List.append_nil]; exact ownsRow_same hs hown) hg ⟨⟨by simp,fun k t' hk => by rw [hs.heap]; exact hk⟩,fun k hk => .inl hk⟩) (Same.refl _)
     simp [execOp,resolve,invoke,builtin,hρ _ _ hsv,hρ _ _ hxv,hr]
    | some ad,hA,hys,hxv =>
    have hnews:∀ j u,ys[j]? = some u -> w₁.cell? (ad.add j) = some u:=by
     intro j u hj
     rcases hys with rfl | ⟨b,o,hb,hr⟩
     ·simp at hj
     ·simp at hb; subst hb
      rw [add_spot,hs.cell]; exact hr j u hj
    obtain ⟨v',w',hr,h2,h3,h4⟩:=run_append_own (P:=C.P) w₁ base t type e i' te.zero esz eb hu hi hz' hisz hby hzs hpos sv n xs (ownsRow_same hs hown) ad m c ys hl hnews (allOne h1) hmax hbytes (by rw [hs.heap]; exact hbase)
    have hg:w.grownBy w' sv.ownBlock:=⟨h3.os.trans hs.os,h3.tape.trans hs.tape,h3.output.trans hs.output,by rw [<-hs.heap]; exact h3.size,fun k hk hne => by rw [<-hs.heap] at hk ⊢; exact h3.block k hk hne⟩
    have hpl:=append_place (P:=C.P) w₁ base t type e i' te.zero esz eb hu hi hz' hisz hby sv n xs (ownsRow_same hs hown) ad m c ys hl hnews (allOne h1) hmax hbytes hr h4
    have hem:=append_empty (P:=C.P) w₁ base t type e i' te.zero esz eb hu hi hz' hisz hby hpos sv n xs (ownsRow_same hs hown) ad m c ys hl hnews (allOne h1) hmax hbytes hr h3
    refine done ?_ (h v' w' h2 hg ⟨⟨h4,fun k t' hk => hem k t' (by rw [hs.heap]; exact hk)⟩,fun k hk => by rw [<-hs.heap]; exact hpl k hk⟩) (Same.refl _)
    simp [execOp,resolve,invoke,builtin,hρ _ _ hsv,hρ _ _ hxv,hr]
   ·exact h.elim
 case h_8 => -- makeMap
  refine done ?_ (h w.heap.size _ (Alloc.of_same hs _)) (Same.refl _)
  simp [execOp,Instr.makeMap,newObj,Sem.run,hsz]
 case h_9 =>
  obtain ⟨v,w',w'',hr,hk,hw⟩:=h a.eval hρ w₁ hs
  rcases hr with hr | ⟨hr,rfl⟩
  ·exact done hr hk hw
  ·exact doneu hr hk hw
end
end Go.Eng
