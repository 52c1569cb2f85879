/- A computed weakest precondition over the model's code: environments, the table of types, what an operation asks for. -/
import Derived.OrdersHeld
import Derived.Below
import Derived.Laws.CopyRow
import Derived.Laws.Rows
namespace Go.Eng
open Go.RowKit

/-! ### Environments: which slots are known -/
abbrev Env := List (Nat × Value)

def look : Env → Nat → Option Value
  | [], _ => none
  | (k, v) :: l, t => match Nat.beq k t with
    | true => some v
    | false => look l t

def evo (l : Env) : Operand → Option Value
  | .tmp t => look l t
  | .const v => some v
  | .global g => some (.pointer (some ⟨g, 0, none⟩))
  | .func f => some (.func (.func f) #[] #[])

structure Rep (n : Nat) (a : Act) (l : Env) : Prop where
  size : a.tmps.size = n
  defers : a.defers = []
  get : ∀ t v, look l t = some v → a.tmps[t]? = some v

theorem look_cons (k : Nat) (v : Value) (l : Env) (t : Nat) : look ((k, v) :: l) t = if k = t then some v else look l t := by
  show (match Nat.beq k t with | true => some v | false => look l t) = _
  by_cases h : k = t
  · subst h; simp [Nat.beq_refl]
  · have : Nat.beq k t = false := by
      cases hb : Nat.beq k t with
      | true => exact absurd (Nat.eq_of_beq_eq_true hb) h
      | false => rfl
    simp [this, h]

theorem Rep.evo {n : Nat} {a : Act} {l : Env} (h : Rep n a l) {x : Operand} {v : Value} (hv : evo l x = some v) : a.eval x = v := by
  cases x with
  | tmp t =>
    have := h.get t v hv
    simp [Act.eval, this]
  | const c => simpa [Eng.evo, Act.eval] using hv
  | global g => simpa [Eng.evo, Act.eval] using hv
  | func f => simpa [Eng.evo, Act.eval] using hv

theorem Rep.put {n : Nat} {a : Act} {l : Env} (h : Rep n a l) {d : Nat} (hd : d < n) (v : Value) : Rep n (a.put (some d) v) ((d, v) :: l) := by
  refine ⟨by simp [Act.put, h.size], by simp [Act.put, h.defers], fun t u hu => ?_⟩
  rw [look_cons] at hu
  by_cases ht : d = t
  · subst ht
    simp at hu; subst hu
    simp [Act.put, h.size, hd]
  · simp [ht] at hu
    simp only [Act.put]
    rw [Array.getElem?_setIfInBounds_ne ht]
    exact h.get t u hu

/-- What an operation's value does to the environment. -/
def bindv (dst : Option Nat) (v : Value) (l : Env) : Env := match dst with
  | some d => (d, v) :: l
  | none => l

theorem Rep.bindv {n : Nat} {a : Act} {l : Env} (h : Rep n a l) {d : Option Nat} (hd : ∀ t, d = some t → t < n) (v : Value) : Rep n (a.put d v) (bindv d v l) := by
  cases d with
  | none => exact h
  | some t => exact h.put (hd t rfl) v

theorem Rep.sub {n : Nat} {a : Act} {l l' : Env} (h : Rep n a l) (hs : ∀ t v, look l' t = some v → look l t = some v) : Rep n a l' :=
  ⟨h.size, h.defers, fun t v hv => h.get t v (hs t v hv)⟩

/-- 'l' knows all that 'r' knows (asked entry by entry). -/
def Cov (l : Env) : Env → Prop
  | [] => True
  | (t, v) :: r => look l t = some v ∧ Cov l r

theorem Cov.sub {l : Env} : ∀ {r : Env}, Cov l r → ∀ t v, look r t = some v → look l t = some v
  | [], _, t, v, h => by simp [look] at h
  | (k, u) :: r, hc, t, v, h => by
    rw [look_cons] at h
    by_cases hk : k = t
    · subst hk; simp at h; subst h; exact hc.1
    · simp [hk] at h; exact hc.2.sub t v h

/-! ### Worlds: one that differs in nothing but the count of draws; one that has grown -/
structure Same (w w' : World) : Prop where
  heap : w'.heap = w.heap
  os : w'.os = w.os
  tape : w'.tape = w.tape
  output : w'.output = w.output

theorem Same.refl (w : World) : Same w w := ⟨rfl, rfl, rfl, rfl⟩
theorem Same.trans {a b c : World} (h : Same a b) (k : Same b c) : Same a c := ⟨k.heap.trans h.heap, k.os.trans h.os, k.tape.trans h.tape, k.output.trans h.output⟩
theorem Same.symm {a b : World} (h : Same a b) : Same b a := ⟨h.heap.symm, h.os.symm, h.tape.symm, h.output.symm⟩
theorem Same.drew {a b : World} (h : Same a b) : Same a { b with drawn := b.drawn + 1 } := ⟨h.heap, h.os, h.tape, h.output⟩
theorem Same.cell {a b : World} (h : Same a b) (p : Addr) : b.cell? p = a.cell? p := by simp [World.cell?, h.heap]
theorem Same.frozen {a b : World} (h : Same a b) (p : Addr) : b.frozen? p = a.frozen? p := by simp [World.frozen?, h.heap]

/-- All that was there is as it was. -/
abbrev Ext (w w' : World) : Prop := Below w.heap.size w w'

theorem Ext.refl (w : World) : Ext w w := Below.refl _ w
theorem Ext.trans {a b c : World} (h : Ext a b) (k : Ext b c) : Ext a c := Below.trans h (k.mono h.size)
theorem Same.ext {a b : World} (h : Same a b) : Ext a b := ⟨h.os, h.tape, h.output, by simp [h.heap], fun k _ => by rw [h.heap]⟩
theorem Ext.same_left {a a' b : World} (h : Ext a b) (s : Same a a') : Ext a' b :=
  ⟨h.os.trans s.os.symm, h.tape.trans s.tape.symm, h.output.trans s.output.symm, by rw [s.heap]; exact h.size, fun k hk => by rw [s.heap] at hk ⊢; exact h.block k hk⟩
theorem Ext.same_right {a b b' : World} (h : Ext a b) (s : Same b b') : Ext a b' :=
  ⟨s.os.trans h.os, s.tape.trans h.tape, s.output.trans h.output, by rw [s.heap]; exact h.size, fun k hk => by rw [s.heap]; exact h.block k hk⟩
theorem Ext.cell {w w' : World} (h : Ext w w') {p : Addr} {v : Value} (hv : w.cell? p = some v) : w'.cell? p = some v := by
  rw [← hv]; exact Below.cell h (block_lt_of_cell hv)
theorem Ext.heap {w w' : World} (h : Ext w w') {k : Nat} {o : Obj} (hv : w.heap[k]? = some o) : w'.heap[k]? = some o := by
  have hk : k < w.heap.size := (Array.getElem?_eq_some_iff.1 hv).1
  rw [h.block k hk]; exact hv

/-! ### The table of types -/
inductive TD where
  | bool
  | int (k : IntKind)
  | str
  | ptr (e : Nat)
  | slice (e esz eb : Nat)
  | arr (n e esz : Nat)
  | map (k e : Nat)
  | struct (fs : List (Nat × Nat × Nat))
  | func
  | iface (bare : Bool)
  | other

structure TI where
  d : TD
  size : Nat
  zero : Value

def TD.agg : TD → Bool
  | .struct _ => true
  | .arr .. => true
  | _ => false

def descOk (P : Program) (t : Nat) (d : TD) : Bool := match P.underlying t, d with
  | some .bool, .bool => true
  | some (.int k), .int k' => k == k'
  | some .string, .str => true
  | some (.pointer e), .ptr e' => e == e'
  | some (.slice e), .slice e' esz eb => e == e' && (match P.info? e with | some i => i.size == esz && i.bytes == eb | none => false)
  | some (.array n e), .arr n' e' esz => n == n' && e == e' && (match P.info? e with | some i => i.size == esz | none => false)
  | some (.map k e), .map k' e' => k == k' && e == e'
  | some (.struct F), .struct fs => (F.toList.map fun f => (f.type, f.offset, (P.info? f.type).map (·.size))) == fs.map fun x => (x.1, x.2.1, some x.2.2)
  | some (.func ..), .func => true
  | some (.interface ms), .iface b => ms.isEmpty == b
  | some (.struct _), .other | some (.array ..), .other => false
  | some _, .other => true
  | _, _ => false

structure TIok (P : Program) (t : Nat) (ti : TI) : Prop where
  info : (P.info? t).map (fun i => (i.size, i.zero)) = some (ti.size, some ti.zero)
  desc : descOk P t ti.d = true
  zsz : ti.zero.cells.size = ti.size

/-- The program, what is known of its types, how many functions have bodies. -/
structure Cfg where
  P : Program
  tab : List (Nat × TI)
  lo : Nat
  nf : Nat

def lookT : List (Nat × TI) → Nat → Option TI
  | [], _ => none
  | (k, v) :: l, t => match Nat.beq k t with
    | true => some v
    | false => lookT l t

def Cfg.ti (C : Cfg) (t : Nat) : Option TI := lookT C.tab t

def callable (P : Program) (f : Nat) : Bool := match P.funcs[f]? with
  | some fn => !(fn.name == "runtime.NumGoroutine") && fn.body.isSome
  | none => false

structure Cfg.Ok (C : Cfg) : Prop where
  mixed : C.P.follows .mixedOrders = true
  types : ∀ e ∈ C.tab, TIok C.P e.1 e.2
  funcs : ∀ f, C.lo ≤ f → f < C.nf → callable C.P f = true

theorem lookT_mem : ∀ {l : List (Nat × TI)} {t : Nat} {ti : TI}, lookT l t = some ti → (t, ti) ∈ l
  | [], _, _, h => by simp [lookT] at h
  | (k, v) :: l, t, ti, h => by
    unfold lookT at h
    cases hb : Nat.beq k t with
    | true =>
      simp [hb] at h; subst h
      have := Nat.eq_of_beq_eq_true hb; subst this
      exact List.mem_cons_self
    | false => simp [hb] at h; exact List.mem_cons_of_mem _ (lookT_mem h)

theorem Cfg.Ok.ti {C : Cfg} (h : C.Ok) {t : Nat} {ti : TI} (ht : C.ti t = some ti) : TIok C.P t ti := h.types _ (lookT_mem ht)

/-! ### Small words of what is asked -/
def withO {α : Type} (o : Option α) (f : α → Prop) : Prop := match o with
  | some x => f x
  | none => False

theorem withO_iff {α : Type} {o : Option α} {f : α → Prop} (h : withO o f) : ∃ x, o = some x ∧ f x := by
  cases o with
  | none => exact h.elim
  | some x => exact ⟨x, rfl, h⟩

/-- By a test. A literal one goes its way by itself. -/
def brE (b : Bool) (A B : Prop) : Prop := match b with
  | true => A
  | false => B

theorem brE_mk {b : Bool} {A B : Prop} (t : b = true → A) (f : b = false → B) : brE b A B := by
  cases b
  · exact f rfl
  · exact t rfl

theorem brE_dec {p : Prop} [Decidable p] {A B : Prop} (t : p → A) (f : ¬ p → B) : brE (decide p) A B :=
  brE_mk (fun h => t (of_decide_eq_true h)) (fun h => f (of_decide_eq_false h))

theorem brE_true {b : Bool} {A B : Prop} (h : b = true) (t : A) : brE b A B := by subst h; exact t
theorem brE_false {b : Bool} {A B : Prop} (h : b = false) (t : B) : brE b A B := by subst h; exact t

/-- 'cs' lies in memory from ⟨b, o⟩ on. -/
def Rd (w : World) (b o : Nat) (cs : List Value) : Prop := ∀ i v, cs[i]? = some v → w.cell? ⟨b, o + i, none⟩ = some v

theorem Rd.ext {w w' : World} {b o : Nat} {cs : List Value} (h : Rd w b o cs) (e : Ext w w') : Rd w' b o cs := fun i v hv => e.cell (h i v hv)
theorem Rd.same {w w' : World} {b o : Nat} {cs : List Value} (h : Rd w b o cs) (e : Same w w') : Rd w' b o cs := h.ext e.ext

theorem Rd.of_block {w : World} {b : Nat} {cs : List Value} {t : Nat} {fr : Nat × Nat} (h : w.heap[b]? = some (.cells cs.toArray t fr)) : Rd w b 0 cs := fun i v hv => by
  simp [World.cell?, h, hv]

theorem Rd.part {w : World} {b o k : Nat} {cs ds : List Value} (h : Rd w b o cs) (hp : ∀ i v, ds[i]? = some v → cs[k + i]? = some v) : Rd w b (o + k) ds := fun i v hv => by
  have := h (k + i) v (hp i v hv)
  rwa [← Nat.add_assoc] at this

def loadE (ti : TI) (w : World) (b o : Nat) (K : Value → Prop) : Prop := match ti.d.agg with
  | true => ∃ cs : List Value, cs.length = ti.size ∧ Rd w b o cs ∧ K (.agg cs.toArray)
  | false => ∃ v, w.cell? ⟨b, o, none⟩ = some v ∧ K v

/-- A number of a kind, whatever it wraps to. -/
def numE (k : IntKind) (e : Int) (K : Value → Prop) : Prop := ∃ z, k.wrap e = z ∧ K (.int k z)

def sameKind (k k' : IntKind) (A : Prop) : Prop := match k, k' with
  | .i64, .i64 => A
  | .u8, .u8 => A
  | .u64, .u64 => A
  | .i32, .i32 => A
  | .u32, .u32 => A
  | _, _ => False

theorem sameKind_iff {k k' : IntKind} {A : Prop} (h : sameKind k k' A) : k = k' ∧ A := by
  unfold sameKind at h
  split at h <;> first | exact ⟨rfl, h⟩ | exact h.elim

/-- A comparison of values at a type by the model's own word. -/
def EqIs (P : Program) (op : BinOp) (t : Nat) (x y : Operand) (a b : Value) (r : Bool) : Prop :=
  ∀ w : World, (do eqGuard op t x y a b; binOp op t a b : Sem Value).run P w = .ok (.bool r) w

def binQ (C : Cfg) (op : BinOp) (t : Nat) (x y : Operand) (a b : Value) (K : Value → Prop) : Prop := match op, a, b with
  | .add, .int k m, .int k' n => sameKind k k' (numE k (m + n) K)
  | .sub, .int k m, .int k' n => sameKind k k' (numE k (m - n) K)
  | .mul, .int k m, .int k' n => sameKind k k' (numE k (m * n) K)
  | .quo, .int k m, .int k' n => sameKind k k' (n ≠ 0 ∧ numE k (m.tdiv n) K)
  | .rem, .int k m, .int k' n => sameKind k k' (n ≠ 0 ∧ ∃ z, m.tmod n = z ∧ K (.int k z))
  | .lss, .int k m, .int k' n => sameKind k k' (K (.bool (decide (m < n))))
  | .leq, .int k m, .int k' n => sameKind k k' (K (.bool (decide (m ≤ n))))
  | .gtr, .int k m, .int k' n => sameKind k k' (K (.bool (decide (m > n))))
  | .geq, .int k m, .int k' n => sameKind k k' (K (.bool (decide (m ≥ n))))
  | .eql, .int k m, .int k' n => sameKind k k' (K (.bool (decide (m = n))))
  | .neq, .int k m, .int k' n => sameKind k k' (K (.bool (!decide (m = n))))
  | .eql, a, b => ∃ r, EqIs C.P op t x y a b r ∧ K (.bool r)
  | .neq, a, b => ∃ r, EqIs C.P op t x y a b r ∧ K (.bool r)
  | op, a, b => ∃ v, (∀ w : World, (binOp op t a b).run C.P w = .ok v w) ∧ (op ≠ .eql ∧ op ≠ .neq) ∧ K v

/-- A bound of a slice: an operand that is this number; where there is none, the number that stands for it. -/
def bndE (l : Env) (x : Option Operand) (dflt : Nat) (n : Nat) : Prop := match x with
  | none => n = dflt
  | some y => withO (evo l y) fun v => match v with
    | .int _ i => i = (n : Int)
    | _ => False

def partE (ti : TI) (cs : Array Value) (off : Nat) (K : Value → Prop) : Prop := match ti.d.agg with
  | true => K (.agg (cs.extract off (off + ti.size)))
  | false => ∃ v, cs[off]? = some v ∧ K v

def splice (cs : List Value) (o : Nat) (vs : List Value) : List Value := cs.take o ++ vs ++ cs.drop (o + vs.length)

/-- A struct's or an array's literal: the zero value, and the parts laid into it. -/
def buildL (l : Env) (n : Nat) (place : Nat → Option (Nat × Nat)) : List (Nat × Operand) → List Value → Option (List Value)
  | [], cs => some cs
  | (i, x) :: r, cs => match place i, evo l x with
    | some (off, sz), some v => match Nat.beq v.cells.size sz && Nat.ble (off + sz) n with
      | true => buildL l n place r (splice cs off v.cells.toList)
      | false => none
    | _, _ => none

def placeOf : TD → Nat → Option (Nat × Nat)
  | .struct fs, i => match fs[i]? with
    | some (_, off, sz) => some (off, sz)
    | none => none
  | .arr _ _ esz, i => some (i * esz, esz)
  | _, _ => none

/-- What else leaves the world alone: by the model's own word. -/
def QuietRun (C : Cfg) (o : Oper) (l : Env) (w : World) (v : Value) : Prop :=
  ∀ ρ : Operand → Value, (∀ x u, evo l x = some u → ρ x = u) → ∀ w', Ext w w' → (execOp ρ o).run C.P w' = .ok (.value v) w'

def lenQ (C : Cfg) (t : Nat) (v : Value) (w : World) (K : Value → Prop) : Prop := withO (C.ti t) fun ti => match ti.d, v with
  | .slice .., .slice _ n _ => K (.int .i64 n)
  | .str, .string s => K (.int .i64 s.size)
  | .arr n .., _ => K (.int .i64 n)
  | .map .., .map none => K (.int .i64 0)
  | .map .., .map (some r) => ∃ es clk, w.heap[r]? = some (.map es clk) ∧ K (.int .i64 es.size)
  | _, _ => False

def addOff (o : Nat) : Nat → Nat
  | 0 => o
  | n + 1 => o + (n + 1)

theorem addOff_eq (o n : Nat) : addOff o n = o + n := by cases n <;> rfl

def opQ (C : Cfg) (o : Oper) (l : Env) (w : World) (K : Value → Prop) : Prop := match o.op with
  | .move x => withO (evo l x) K
  | .assign x => withO (evo l x) K
  | .pick c a b => withO (evo l c) fun v => match v with
    | .bool t => brE t (withO (evo l a) K) (withO (evo l b) K)
    | _ => False
  | .load t x => withO (evo l x) fun v => match v with
    | .pointer (some ⟨b, o, none⟩) => withO (C.ti t) fun ti => loadE ti w b o K
    | _ => False
  | .nilCheck x => withO (evo l x) fun v => match v with
    | .pointer (some a) => K (.pointer (some a))
    | .func (.func f) p q => K (.func (.func f) p q)
    | _ => False
  | .fieldAddr s x f => withO (evo l x) fun v => match v with
    | .pointer (some ⟨b, o, none⟩) => withO (C.ti s) fun ti => match ti.d with
      | .struct fs => withO fs[f]? fun (_, off, sz) => match sz with
        | 0 => False
        | _ + 1 => K (.pointer (some ⟨b, addOff o off, none⟩))
      | _ => False
    | _ => False
  | .indexAddr t x ix => withO (evo l x) fun v => withO (evo l ix) fun iv => withO (C.ti t) fun ti => match ti.d, v, iv with
    | .arr n _ esz, .pointer (some ⟨b, o, none⟩), .int _ i => ∃ j : Nat, i = (j : Int) ∧ j < n ∧ K (.pointer (some ⟨b, o + j * esz, none⟩))
    | .slice _ esz _, .slice A len _, .int _ i => ∃ j b o : Nat, i = (j : Int) ∧ j < len ∧ A = some ⟨b, o, none⟩ ∧ K (.pointer (some ⟨b, o + j * esz, none⟩))
    | _, _, _ => False
  | .index t x ix => withO (evo l x) fun v => withO (evo l ix) fun iv => withO (C.ti t) fun ti => match ti.d, v, iv with
    | .arr n e esz, .agg cs, .int _ i => ∃ j : Nat, i = (j : Int) ∧ j < n ∧ withO (C.ti e) fun te => partE te cs (j * esz) K
    | .str, .string s, .int _ i => ∃ (j : Nat) (c : UInt8), i = (j : Int) ∧ s[j]? = some c ∧ K (.int .u8 c.toNat)
    | _, _, _ => False
  | .field t x f => withO (evo l x) fun v => withO (C.ti t) fun ti => match ti.d, v with
    | .struct fs, .agg cs => withO fs[f]? fun (ft, off, _) => withO (C.ti ft) fun te => partE te cs off K
    | _, _ => False
  | .binOp op t x y _ => withO (evo l x) fun a => withO (evo l y) fun b => binQ C op t x y a b K
  | .unOp .not _ x => withO (evo l x) fun a => match a with
    | .bool b => K (.bool (!b))
    | _ => False
  | .unOp .neg _ x => withO (evo l x) fun a => match a with
    | .int k n => numE k (0 - n) K
    | _ => False
  | .convert s d x => withO (evo l x) fun a => withO (C.ti s) fun _ => withO (C.ti d) fun td => match td.d, a with
    | .int k, .int _ n => numE k n K
    | .str, .string s => K (.string s)
    | _, _ => False
  | .extract x i => withO (evo l x) fun a => match a with
    | .tuple vs => withO vs.toList[i]? K
    | _ => False
  | .makeFunc fn first captured => ∃ fs cs : List Value, first.toList.map (evo l) = fs.map some ∧ captured.toList.map (evo l) = cs.map some ∧ K (.func fn fs.toArray cs.toArray)
  | .build t parts => withO (C.ti t) fun ti => match ti.d.agg with
    | true => withO (buildL l ti.size (placeOf ti.d) parts.toList ti.zero.cells.toList) fun cs => K (.agg cs.toArray)
    | false => False
  | .slice t x lo hi none => withO (evo l x) fun v => withO (C.ti t) fun ti => match ti.d, v with
    | .slice _ esz _, .slice A len cap => ∃ i h : Nat, bndE l lo 0 i ∧ bndE l hi len h ∧ i ≤ h ∧ h ≤ cap ∧ K (.slice (if cap = i then A else A.map (·.add (i * esz))) (h - i) (cap - i))
    | .str, .string s => ∃ i h : Nat, bndE l lo 0 i ∧ bndE l hi s.size h ∧ i ≤ h ∧ h ≤ s.size ∧ K (.string (s.extract i h))
    | _, _ => False
  | .call ⟨.builtin .len, args, ts⟩ => withO args.toList[0]? fun x => withO ts.toList[0]? fun t => withO (evo l x) fun v => lenQ C t v w K
  | _ => ∃ v, QuietRun C o l w v ∧ K v

end Go.Eng
