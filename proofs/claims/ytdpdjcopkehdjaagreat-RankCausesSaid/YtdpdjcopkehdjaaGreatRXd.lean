/- a part of the proof: steps, walks and plain laws that the law below stands on; no condition. -/
import Derived.Test.YtdpdjcopkehdjaaGreatRXa
import Derived.Test.YtdpdjcopkehdjaaGreatRXb
import Derived.Test.YtdpdjcopkehdjaaGreatRXc
import Derived.WalkSpells
import Derived.Maps.RangeRun
set_option linter.unusedVariables false
set_option linter.unusedSimpArgs false
set_option linter.unnecessarySimpa false
set_option linter.unusedSectionVars false
namespace Go.Eng
open Go.RowKit
theorem splice_take {cs vs:List Value} {o m:Nat} (h:o + vs.length <= m):(splice cs o vs).take m = splice (cs.take m) o vs:=by
 by_cases hl:m <= cs.length
 ·unfold splice
  rw [List.take_append,List.take_append]
  have h1:(cs.take o).length = o:=by simp; omega
  rw [List.take_of_length_le (by omega:(cs.take o).length <= m),List.take_take,Nat.min_eq_left (by omega:o <= m)]
  rw [List.length_append,h1,List.take_of_length_le (by omega:vs.length <= m - o)]
  rw [List.drop_take]
 ·rw [List.take_of_length_le (by omega:cs.length <= m)]
  refine List.take_of_length_le ?_
  unfold splice
  simp only [List.length_append,List.length_take,List.length_drop]
  omega
theorem ownsRow_open {w:World} {base e size n cap g:Nat} {xs:List Value} (h:w.ownsRow base e size (.slice (some ⟨g,0,none⟩) n cap) n xs) :
  ∃ cur:List Value,w.heap[g]? = some (.cells cur.toArray e (0,0)) ∧ base <= g ∧ n * size <= cur.length ∧ cur.length = cap * size ∧ n <= cap ∧ xs.length = n * size ∧ cur.take (n * size) = xs ∧
   ∀ (o:Nat) (vs:List Value) (w':World),o + vs.length <= n * size -> Put w g (.cells (splice cur o vs).toArray e (0,0)) w' -> w'.ownsRow base e size (.slice (some ⟨g,0,none⟩) n cap) n (splice xs o vs):=by
 obtain ⟨hl,⟨hv,_⟩ | ⟨g',cap',cur,hv,h1,h2,h3,h4,h5,h6⟩⟩:=h
 ·cases hv
 ·cases hv
  have h5':cur.toList.length = cap * size:=by simpa using h5
  have hnc:n * size <= cap * size:=Nat.mul_le_mul_right _ h3
  refine ⟨cur.toList,by simpa using h2,h1,by omega,h5',h3,hl,h6,fun o vs w' ho p => ⟨?_,.inr ⟨g,cap,(splice cur.toList o vs).toArray,rfl,h1,p.here,h3,h4,?_,?_⟩⟩⟩
  ·rw [splice_length (by omega)]; exact hl
  ·rw [List.size_toArray,splice_length (by omega)]; exact h5'
  ·rw [List.toList_toArray,splice_take ho,h6]
theorem zeroCells_props (zc:Array Value) (n:Nat) (h1:zc.toList.all (·.oneCell') = true) (hz:0 < zc.size):(Builtin.zeroCells zc n).toList.length = n * zc.size ∧ ∀ v ∈ (Builtin.zeroCells zc n).toList,v.oneCell' = true:=by
 unfold Builtin.zeroCells
 refine ⟨by simp,fun v hv => ?_⟩
 simp only [Array.toList_map,List.mem_map] at hv
 obtain ⟨i,_,rfl⟩:=hv
 have hi:i % zc.size < zc.size:=Nat.mod_lt _ hz
 rw [getElem!_pos zc _ hi]
 exact List.all_eq_true.1 h1 _ (by simp)
section
variable {C:Cfg}
theorem clearRow (hC:C.Ok) {o:Oper} {t e esz eb m c g off:Nat} {x:Operand} {l:Env} {w:World} {A:Option Addr} {ti te:TI} {cur:List Value} (ho:o.op = .call ⟨.builtin .clear,#[x],#[t]⟩)
  (hx:evo l x = some (.slice A m c)) (hti:C.ti t = some ti) (hd:ti.d = .slice e esz eb) (hte:C.ti e = some te) (h1:te.zero.cells.toList.all (·.oneCell') = true) (hz:te.zero.cells.size = esz) (hpos:0 < esz)
  (hA:A = some ⟨g,off,none⟩) (hm:0 < m) (hg:w.heap[g]? = some (.cells cur.toArray e (0,0))) (hin:off + m * esz <= cur.length)
  {Q:Value -> World -> Prop} (h:∀ zs w',zs.length = m * esz -> Put w g (.cells (splice cur off zs).toArray e (0,0)) w' -> Q (.tuple #[]) w'):LoudRun C o l w Q:=by
 intro ρ hρ w₁ hs
 subst hA
 have hu:=((hC.ti hti).isSlice hd).1
 obtain ⟨hzl,hz1⟩:=zeroCells_props te.zero.cells m h1 (by omega)
 rw [hz] at hzl
 have hg1:w₁.heap[g]? = some (.cells cur.toArray e (0,0)):=by rw [hs.heap]; exact hg
 have hst:=run_storeCells_at (P:=C.P) g off e (Builtin.zeroCells te.zero.cells m).toList 0 cur.toArray w₁ hg1 (by simp only [List.size_toArray]; omega) hz1
 have hrun:(Builtin.clear_ #[t] o.type #[.slice (some ⟨g,off,none⟩) m c]).run C.P w₁ = .ok (.tuple #[]) (w₁.setRow g (splice cur off (Builtin.zeroCells te.zero.cells m).toList).toArray):=by
  obtain ⟨k,rfl⟩:∃ k,m = k + 1:=⟨m - 1,by omega⟩
  unfold Builtin.clear_
  simp [run_underlying hu,(hC.ti hte).run_zero]
  simp at hst
  rw [hst]
  simp [splice]
 refine ⟨.tuple #[],_,_,.inl ?_,h _ _ hzl (put_setRow hs hg),Same.refl _⟩
 unfold execOp
 rw [ho]
 simp only [resolve,invoke,builtin,List.map_toArray,List.map_cons,List.map_nil,hρ _ _ hx,Sem.run_bind,Sem.run_pure,Result.andThen_ok,hrun]
end
end Go.Eng
namespace Go.Eng
variable {α:Type}
theorem flat_get {enc:α -> List Value} {k:Nat} (hk:∀ x,(enc x).length = k):∀ (l:List α) (i c:Nat) (hi:i < l.length),c < k -> (l.flatMap enc)[i * k + c]? = (enc l[i])[c]?
 | [],i,c,hi,_ => by simp at hi
 | x :: l,0,c,_,hc => by
  rw [List.flatMap_cons,Nat.zero_mul,Nat.zero_add,List.getElem?_append_left (by rw [hk]; exact hc)]
  rfl
 | x :: l,i + 1,c,hi,hc => by
  rw [List.flatMap_cons,List.getElem?_append_right (by rw [hk,Nat.add_mul]; omega),hk]
  have e:(i + 1) * k + c - k = i * k + c:=by rw [Nat.add_mul]; omega
  rw [e,flat_get hk l i c (by simpa using hi) hc]
  rfl
theorem flat_length {enc:α -> List Value} {k:Nat} (hk:∀ x,(enc x).length = k) (l:List α):(l.flatMap enc).length = l.length * k:=by
 induction l with
 | nil => simp
 | cons x l ih => rw [List.flatMap_cons,List.length_append,hk,ih,List.length_cons,Nat.add_mul]; omega
end Go.Eng
namespace Go.Eng
open Go.RowKit
abbrev In64 (n:Int):Prop:=-9223372036854775808 <= n ∧ n <= 9223372036854775807
theorem fit {n:Int} (h:In64 n):IntKind.i64.wrap n = n:=IntWalk.i64_in n h
theorem wf64 {a:Int} (h:In64 a):(Lit.int .i64 a).wf = true:=by
 simp [Lit.wf,IntKind.min,IntKind.max,IntKind.bits,IntKind.signed]
 omega
theorem wf_in64 {a:Int} (h:(Lit.int .i64 a).wf = true):In64 a:=by
 simp [Lit.wf,IntKind.min,IntKind.max,IntKind.bits,IntKind.signed] at h
 omega
theorem brE_ndec {p:Prop} [Decidable p] {A B:Prop} (t:¬ p -> A) (f:p -> B):brE (!decide p) A B:=by
 by_cases h:p
 ·rw [decide_eq_true h]; exact f h
 ·rw [decide_eq_false h]; exact t h
def ints (xs:List Int):List Value:=xs.map (.int .i64 ·)
theorem ints_append (xs ys:List Int):ints (xs ++ ys) = ints xs ++ ints ys:=by simp [ints]
theorem ints_length (xs:List Int):(ints xs).length = xs.length:=by simp [ints]
theorem Reads.int {w:World} {A:Option Addr} {xs:List Int} (h:Reads w A (ints xs)) {i:Nat} (hi:i < xs.length):∃ b o,A = some ⟨b,o,none⟩ ∧ w.cell? ⟨b,o + i,none⟩ = some (.int .i64 xs[i]):=by
 rcases h with h | ⟨b,o,hA,hr⟩
 ·have:xs.length = 0:=by have:=congrArg List.length h; simpa [ints] using this
  omega
 ·exact ⟨b,o,hA,hr i _ (by simp [ints,hi])⟩
theorem Reads.elem {α:Type} {enc:α -> List Value} {k:Nat} (hk:∀ x,(enc x).length = k) (k0:0 < k) {w:World} {A:Option Addr} {l:List α} (h:Reads w A (l.flatMap enc)) {i:Nat} (hi:i < l.length) :
  ∃ b o,A = some ⟨b,o,none⟩ ∧ Rd w b (o + i * k) (enc l[i]):=by
 rcases h with h | ⟨b,o,hA,hr⟩
 ·have:=congrArg List.length h
  rw [flat_length hk] at this
  have:l.length * k = 0:=this
  rcases Nat.mul_eq_zero.1 this with h | h <;> omega
 ·refine ⟨b,o,hA,fun j v hv => ?_⟩
  have hj:j < k:=by
   have:=(List.getElem?_eq_some_iff.1 hv).1
   rwa [hk] at this
  have:=hr _ _ ((flat_get hk l i j hi hj).trans hv)
  rwa [<-Nat.add_assoc] at this
theorem own_ne {w:World} {base e size n g:Nat} {v:Value} {xs:List Value} {o:Obj} (h:w.ownsRow base e size v n xs) (hg:w.heap[g]? = some o) (ho:∀ c fr,o ≠ .cells c e fr):some g ≠ v.ownBlock:=by
 intro e
 obtain ⟨_,hv | ⟨g',cap,cur,hv,_,hg',_⟩⟩:=h
 ·rw [hv.1] at e; cases e
 ·rw [hv] at e
  have e:g = g':=by simpa [Value.ownBlock] using e
  subst e
  rw [hg] at hg'
  exact ho _ _ (Option.some.inj hg')
theorem ownsRow_len {w:World} {base e size n:Nat} {v:Value} {us:List Value} (h:w.ownsRow base e size v n us):n <= 9223372036854775807:=by
 obtain ⟨_,⟨_,rfl⟩ | ⟨_,cap,_,_,_,_,h1,h2,_⟩⟩:=h
 ·omega
 ·simp only [maxLen] at h2; omega
theorem eqFields_run {P:Program} {w:World} {d:Nat} {xs ys:Array Value} {f:Field -> Bool}:∀ {fs:List Field},(∀ x ∈ fs,x.name ≠ "_" ∧ ∃ u v,(part x.type xs x.offset).run P w = .ok u w ∧ (part x.type ys x.offset).run P w = .ok v w ∧ (Op.equalIn d x.type u v).run P w = .ok (f x) w) →
  (Op.eqFields d xs ys fs).run P w = .ok (fs.all f) w
 | [],_ => by simp [Op.eqFields]
 | x :: r,h => by
  obtain ⟨hn,u,v,h1,h2,h3⟩:=h x (by simp)
  rw [Op.eqFields,if_pos hn]
  simp only [Sem.run_bind,h1,h2,h3,Result.andThen_ok,List.all_cons]
  cases hf:f x with
  | false => simp
  | true => simpa using eqFields_run fun y hy => h y (by simp [hy])
theorem eqInt_run {P:Program} {t:Nat} {k:IntKind} (hu:P.underlying t = some (.int k)) (w:World) (d:Nat) (k':IntKind) (a b:Int):(Op.equalIn (d + 1) t (.int k' a) (.int k' b)).run P w = .ok (decide (a = b)) w:=by
 simp only [Op.equalIn,Sem.run_bind,run_underlying hu,Result.andThen_ok,if_true,Sem.run_pure]
 congr 1
theorem ba_beq (a b:ByteArray):(a.toList == b.toList) = decide (a = b):=by
 rw [Bool.eq_iff_iff]
 simp [ByteArray.toList_eq]
 exact ⟨fun h => ByteArray.ext h,fun h => by rw [h]⟩
theorem eqStr_run {P:Program} {t:Nat} (hu:P.underlying t = some .string) (w:World) (d:Nat) (a b:ByteArray):(Op.equalIn (d + 1) t (.string a) (.string b)).run P w = .ok (decide (a = b)) w:=by
 rw [run_equalIn_string w d t a b hu]
 rw [ba_beq]
end Go.Eng
namespace Go.Proofs.YtdpdjcopkehdjaaGreat
open Go.Eng Go.RowKit
open Go.Maps (Keyed)
theorem laidOut:laidOutB Tryz.prog = true:=by kernel_rfl
theorem under3:Tryz.prog.underlying 3 = some (.int .i64):=by kernel_rfl
theorem under4:Tryz.prog.underlying 4 = some .bool:=by kernel_rfl
theorem under5:Tryz.prog.underlying 5 = some (.int .u8):=by kernel_rfl
theorem under9:Tryz.prog.underlying 9 = some .string:=by kernel_rfl
theorem intK:Keyed C.P 3:=Go.Maps.int_keyed under3
theorem intKey {x:Int} (h:In64 x):keyOf C.P 3 (.int .i64 x) = some (.int .i64 x):=Go.Maps.keyOf_int_mk under3 (wf64 h)
def NewInts (B:Nat) (w:World) (v:Value) (xs:List Int):Prop:=w.ownsRow B 3 1 v xs.length (ints xs)
theorem NewInts.slice {B:Nat} {w:World} {v:Value} {xs:List Int} (h:NewInts B w v xs):∃ A c,v = .slice A xs.length c ∧ Reads w A (ints xs) ∧ xs.length <= c:=reads_of_owns h
theorem NewInts.base {B B':Nat} {w:World} {v:Value} {xs:List Int} (h:NewInts B' w v xs) (hb:B <= B'):NewInts B w v xs:=ownsRow_base h hb
theorem NewInts.ext {B:Nat} {w w':World} {v:Value} {xs:List Int} (h:NewInts B w v xs) (e:Ext w w'):NewInts B w' v xs:=ownsRow_ext h e
theorem newInts_nil (B:Nat) (w:World):NewInts B w (.slice none 0 0) []:=World.ownsRow_nil _ _ _ _
theorem neqBool (x y:Operand) (a b:Bool):EqIs C.P .neq 4 x y (.bool a) (.bool b) (a != b):=by
 intro w
 have hu:C.P.underlying 4 = some .bool:=under4
 have h1:(eqGuard .neq 4 x y (.bool a) (.bool b)).run C.P w = .ok () w:=by simp [eqGuard]
 rw [Sem.run_bind,h1]
 simp only [Result.andThen_ok]
 have h2:=run_equalIn_bool' (P:=C.P) w 9999 4 a b hu
 simp only [binOp]
 simp [Op.equal,Op.maxDepth,h2]
 cases a <;> cases b <;> rfl
theorem eqBool (x y:Operand) (a b:Bool):EqIs C.P .eql 4 x y (.bool a) (.bool b) (a == b):=by
 intro w
 have hu:C.P.underlying 4 = some .bool:=under4
 have h1:(eqGuard .eql 4 x y (.bool a) (.bool b)).run C.P w = .ok () w:=by simp [eqGuard]
 rw [Sem.run_bind,h1]
 simp only [Result.andThen_ok]
 have h2:=run_equalIn_bool' (P:=C.P) w 9999 4 a b hu
 simp only [binOp]
 simp [Op.equal,Op.maxDepth,h2]
theorem eqStr (x y:Operand) (a b:ByteArray):EqIs C.P .eql 9 x y (.string a) (.string b) (decide (a = b)):=by
 intro w
 have h1:(eqGuard .eql 9 x y (.string a) (.string b)).run C.P w = .ok () w:=by simp [eqGuard]
 rw [Sem.run_bind,h1]
 simp only [Result.andThen_ok]
 show (Op.stringOp .eql a b).run C.P w = _
 simp [Op.stringOp,ba_beq]
theorem neqStr (x y:Operand) (a b:ByteArray):EqIs C.P .neq 9 x y (.string a) (.string b) (!decide (a = b)):=by
 intro w
 have h1:(eqGuard .neq 9 x y (.string a) (.string b)).run C.P w = .ok () w:=by simp [eqGuard]
 rw [Sem.run_bind,h1]
 simp only [Result.andThen_ok]
 show (Op.stringOp .neq a b).run C.P w = _
 simp [Op.stringOp,ba_beq]
end Go.Proofs.YtdpdjcopkehdjaaGreat
namespace Go.Proofs.YtdpdjcopkehdjaaGreat
open Go.Eng Go.RowKit
structure Fact where
 id:Int
 known:Int
 kind:Int
 who:Int
 what:Int
 other:Int
 since:Int
 til:Int
 name:ByteArray
deriving DecidableEq
def factZ:Fact:=⟨0,0,0,0,0,0,0,0,⟨#[]⟩⟩
instance:Inhabited Fact:=⟨factZ⟩
def Fact.cells (x:Fact):List Value:=[.int .i64 x.id,.int .i64 x.known,.int .u8 x.kind,.int .i64 x.who,.int .i64 x.what,.int .i64 x.other,.int .i64 x.since,.int .i64 x.til,.string x.name]
def Fact.val (x:Fact):Value:=.agg x.cells.toArray
def fcells (l:List Fact):List Value:=l.flatMap Fact.cells
theorem fcells_append (a b:List Fact):fcells (a ++ b) = fcells a ++ fcells b:=by simp [fcells]
theorem fcells_one (x:Fact):fcells [x] = x.cells:=by simp [fcells]
def knownL (k:Int) (l:List Fact):List Fact:=l.takeWhile fun x => decide (x.known <= k)
def voidedBy (acc:List Fact) (n:Int):Bool:=acc.any fun y => decide (y.kind = 11 ∧ y.what = n)
def backL:List Fact -> List Fact -> List Fact
 | acc,[] => acc
 | acc,x :: r => if voidedBy acc x.id = true then backL acc r else backL (acc ++ [x]) r
def countL (k:Int) (l:List Fact):List Fact:=(backL [] (knownL k l).reverse).reverse
def holdsB (day:Int) (x:Fact):Bool:=decide (x.since <= day ∧ (x.til = 0 ∨ day < x.til))
def atL (k day:Int) (l:List Fact):List Fact:=(countL k l).filter fun x => !decide (x.kind = 11) && holdsB day x
def insD (n:Int):List Int -> List Int
 | [] => [n]
 | x :: r => if n < x then n :: x :: r else if n = x then x :: r else x :: insD n r
def sortD (l:List Int):List Int:=l.foldl (fun acc x => insD x acc) []
theorem mem_insD {n x:Int}:∀ {l:List Int},x ∈ insD n l <-> x = n ∨ x ∈ l
 | [] => by simp [insD]
 | y :: r => by
  unfold insD
  split
  ·simp
  ·split
   ·rename_i h; subst h; simp
   ·rw [List.mem_cons,mem_insD (l:=r),List.mem_cons]
    constructor
    ·rintro (h | h | h)
     ·exact .inr (.inl h)
     ·exact .inl h
     ·exact .inr (.inr h)
    ·rintro (h | h | h)
     ·exact .inr (.inl h)
     ·exact .inl h
     ·exact .inr (.inr h)
theorem insD_asc {n:Int}:∀ {l:List Int},l.Pairwise (· < ·) -> (insD n l).Pairwise (· < ·)
 | [],_ => by simp [insD]
 | y :: r,h => by
  obtain ⟨h1,h2⟩:=List.pairwise_cons.1 h
  unfold insD
  split
  ·rename_i hn
   refine List.pairwise_cons.2 ⟨fun a ha => ?_,h⟩
   rcases List.mem_cons.1 ha with rfl | ha
   ·exact hn
   ·exact Int.lt_trans hn (h1 a ha)
  ·split
   ·exact h
   ·rename_i h3 h4
    refine List.pairwise_cons.2 ⟨fun a ha => ?_,insD_asc h2⟩
    rcases mem_insD.1 ha with rfl | ha
    ·omega
    ·exact h1 a ha
theorem foldD {l:List Int}:∀ {acc:List Int},acc.Pairwise (· < ·) -> (l.foldl (fun acc x => insD x acc) acc).Pairwise (· < ·) ∧ ∀ x,x ∈ l.foldl (fun acc x => insD x acc) acc <-> x ∈ l ∨ x ∈ acc:=by
 induction l with
 | nil => intro acc h; exact ⟨h,fun x => by simp⟩
 | cons y r ih =>
  intro acc h
  obtain ⟨h1,h2⟩:=ih (insD_asc (n:=y) h)
  refine ⟨h1,fun x => ?_⟩
  rw [List.foldl_cons,h2,mem_insD,List.mem_cons]
  constructor
  ·rintro (h | h | h)
   ·exact .inl (.inr h)
   ·exact .inl (.inl h)
   ·exact .inr h
  ·rintro ((h | h) | h)
   ·exact .inr (.inl h)
   ·exact .inl h
   ·exact .inr (.inr h)
theorem sortD_asc (l:List Int):(sortD l).Pairwise (· < ·):=(foldD List.Pairwise.nil).1
theorem mem_sortD {l:List Int} {x:Int}:x ∈ sortD l <-> x ∈ l:=by
 unfold sortD
 rw [(foldD List.Pairwise.nil).2 x]
 simp
theorem asc_eq {a b:List Int} (ha:a.Pairwise (· < ·)) (hb:b.Pairwise (· < ·)) (h:∀ x,x ∈ a <-> x ∈ b):a = b:=by
 have na:a.Nodup:=ha.imp fun h e => by subst e; exact Int.lt_irrefl _ h
 have nb:b.Nodup:=hb.imp fun h e => by subst e; exact Int.lt_irrefl _ h
 exact List.Perm.eq_of_pairwise (fun a b _ _ h1 h2 => absurd (Int.lt_trans h1 h2) (Int.lt_irrefl _)) ha hb ((List.perm_ext_iff_of_nodup na nb).2 h)
theorem sortD_eq {a l:List Int} (ha:a.Pairwise (· < ·)) (h:∀ x,x ∈ a <-> x ∈ l):a = sortD l:=asc_eq ha (sortD_asc l) fun x => (h x).trans mem_sortD.symm
theorem asc_length {a:List Int} {l:List Int} (ha:a.Pairwise (· < ·)) (h:∀ x ∈ a,x ∈ l):a.length <= l.length:=by
 induction a generalizing l with
 | nil => simp
 | cons x r ih =>
  obtain ⟨h1,h2⟩:=List.pairwise_cons.1 ha
  have hx:x ∈ l:=h x (by simp)
  have:=ih (l:=l.erase x) h2 fun y hy => by
   have hne:y ≠ x:=fun e => by subst e; exact Int.lt_irrefl _ (h1 y hy)
   exact (List.mem_erase_of_ne hne).2 (h y (by simp [hy]))
  rw [List.length_erase_of_mem hx] at this
  have hp:0 < l.length:=List.length_pos_of_mem hx
  simp; omega
theorem sortD_length (l:List Int):(sortD l).length <= l.length:=asc_length (sortD_asc l) fun _ h => mem_sortD.1 h
end Go.Proofs.YtdpdjcopkehdjaaGreat
namespace Go.Proofs.YtdpdjcopkehdjaaGreat
open Go.Eng Go.RowKit
abbrev idB (n:Int):Bool:=decide (1 <= n ∧ n <= 1000000)
abbrev dayB (n:Int):Bool:=decide (0 <= n ∧ n <= 100000)
def chB (c:UInt8):Bool:=decide (97 <= c.toNat ∧ c.toNat <= 122) || decide (48 <= c.toNat ∧ c.toNat <= 57) || decide (c.toNat = 32) || decide (c.toNat = 45)
def nameB (s:List UInt8):Bool:=decide (1 <= s.length ∧ s.length <= 24) && !decide (s.head? = some 32) && !decide (s.getLast? = some 32) && s.all chB
def offs (k:Int):List Nat :=
 if k = 1 ∨ k = 6 ∨ k = 9 then [3,5,6,7] else if k = 5 then [3,4,6,7] else if k = 7 then [3,6,7] else if k = 10 then [3,6] else if k = 11 then [4] else [3,4,5,6,7]
def rightB (x:Fact):Bool :=
 if x.kind = 1 then idB x.who && decide (1 <= x.other ∧ x.other <= 3)
 else if x.kind = 2 ∨ x.kind = 3 then idB x.who && idB x.what && decide (1 <= x.other ∧ x.other <= 4)
 else if x.kind = 4 then idB x.who && idB x.what && idB x.other
 else if x.kind = 5 then idB x.who && idB x.what
 else if x.kind = 6 ∨ x.kind = 9 then idB x.who && idB x.other && !decide (x.who = x.other)
 else if x.kind = 7 then idB x.who
 else if x.kind = 8 then idB x.who && idB x.what && decide (1 <= x.other ∧ x.other <= 2)
 else if x.kind = 10 then idB x.who
 else if x.kind = 11 then idB x.what && !decide (x.what = x.id)
 else false
def restB (x:Fact):Bool :=
 (decide (3 ∈ offs x.kind) || decide (x.who = 0)) && (decide (4 ∈ offs x.kind) || decide (x.what = 0)) && (decide (5 ∈ offs x.kind) || decide (x.other = 0)) &&
 (decide (6 ∈ offs x.kind) || decide (x.since = 0)) && (decide (7 ∈ offs x.kind) || decide (x.til = 0)) && (decide (x.kind = 1) || decide (x.name = ⟨#[]⟩))
def headB (x:Fact):Bool:=decide (1 <= x.kind ∧ x.kind <= 11) && idB x.id && dayB x.known && dayB x.since && (decide (x.til = 0) || decide (x.since < x.til ∧ x.til <= 100000))
def formE (x:Fact):Int:=if (headB x && restB x && rightB x) = true then (if x.kind = 1 ∧ nameB x.name.data.toList = false then 4 else 0) else 1
def idIn (l:List Fact) (n:Int):Bool:=l.any fun y => decide (y.id = n)
def namedIn (l:List Fact) (s:Int):Bool:=l.any fun y => decide (y.kind = 1 ∧ y.who = s)
def whos (l:List Fact):List Int:=(l.filter fun y => decide (y.kind = 1)).map Fact.who
def statesN (l:List Fact):Nat:=(sortD (whos l)).length
def speaks (x:Fact):List Int:=if x.kind = 2 ∨ x.kind = 3 ∨ x.kind = 5 ∨ x.kind = 8 then [x.what] else if x.kind = 4 then [x.who,x.what] else if x.kind = 7 then [x.who] else []
def behindE (l:List Fact) (x:Fact):Int :=
 if formE x ≠ 0 then formE x
 else if 300 <= l.length then 2
 else if l.getLast?.any (fun y => decide (x.known < y.known)) = true then 7
 else if idIn l x.id = true then 6
 else if (speaks x).all (namedIn l) = false then 5
 else if x.kind = 11 ∧ idIn l x.what = false then 5
 else if x.kind = 1 ∧ namedIn l x.who = false ∧ 200 <= statesN l then 2
 else 0
def chkG (seen:List Fact):List Fact -> Nat × Int
 | [] => (0,0)
 | x :: r => if behindE seen x ≠ 0 then (seen.length,behindE seen x) else chkG (seen ++ [x]) r
def chkF (l:List Fact):Nat × Int:=chkG [] l
theorem chkG_at {l:List Fact} {i:Nat} (hi:i < l.length):chkG (l.take i) (l.drop i) = if behindE (l.take i) l[i] ≠ 0 then (i,behindE (l.take i) l[i]) else chkG (l.take (i + 1)) (l.drop (i + 1)):=by
 rw [List.drop_eq_getElem_cons hi,chkG,List.take_succ_eq_append_getElem hi,List.length_take,Nat.min_eq_left (Nat.le_of_lt hi)]
end Go.Proofs.YtdpdjcopkehdjaaGreat
namespace Go.Proofs.YtdpdjcopkehdjaaGreat
open Go.Eng Go.RowKit
structure Waiv where
 id:Int
 day:Int
 signer:Int
 giver:Int
 taker:Int
 under:Int
 over:Int
 since:Int
 til:Int
deriving DecidableEq
structure Gift where
 id:Int
 day:Int
 frm:Int
 to:Int
 cur:Int
 n:Int
 worth:Int
 state:Int
 answered:Int
 returns:Int
deriving DecidableEq
structure Entry where
 kind:Int
 day:Int
 w:Waiv
 g:Gift
 a:Int
 b:Int
 n:Int
deriving DecidableEq
def waivZ:Waiv:=⟨0,0,0,0,0,0,0,0,0⟩
def giftZ:Gift:=⟨0,0,0,0,0,0,0,0,0,0⟩
def entryZ:Entry:=⟨0,0,waivZ,giftZ,0,0,0⟩
instance:Inhabited Waiv:=⟨waivZ⟩
instance:Inhabited Gift:=⟨giftZ⟩
instance:Inhabited Entry:=⟨entryZ⟩
def atN {α:Type} [Inhabited α] (l:List α) (i:Int):α:=l.getD (i - 1).toNat default
def updAt {α:Type} [Inhabited α] (l:List α) (i:Int) (f:α -> α):List α:=l.set (i - 1).toNat (f (atN l i))
def endW (d:Int) (w:Waiv):Waiv:={ w with til:=min w.til (max d w.since) }
def waivS (l:List Waiv) (x:Entry):List Waiv:=if x.kind = 3 then l ++ [x.w] else if x.kind = 4 then updAt l x.w.id (endW x.day) else l
def waivL (es:List Entry):List Waiv:=es.foldl waivS []
def rateS (n:Int) (c:Int) (x:Entry):Int:=if x.kind = 1 ∧ x.a = c then x.n else n
def rateL (es:List Entry) (c:Int):Int:=es.foldl (fun n x => rateS n c x) 0
def metB (id:Int) (g:Gift):Bool:=decide (g.returns = id ∧ (g.state = 2 ∨ g.state = 4))
def metW (id:Int) (g:Gift):Int:=if metB id g = true then g.worth else 0
def metL (gs:List Gift) (id:Int):Int:=(gs.map (metW id)).sum
def takeG (d:Int) (g:Gift):Gift:={ g with state:=2,answered:=d }
def refuseG (d:Int) (g:Gift):Gift:={ g with state:=3,answered:=d }
def backG (g:Gift):Gift:={ g with state:=4 }
def baseS (es:List Entry) (gs:List Gift) (x:Entry):List Gift :=
 if x.kind = 5 then gs ++ [{ x.g with worth:=x.g.n * rateL es x.g.cur,state:=1 }]
 else if x.kind = 6 then updAt gs x.g.id (takeG x.day)
 else if x.kind = 7 then updAt gs x.g.id (refuseG x.day) else gs
def meetS (gs:List Gift) (x:Entry):List Gift :=
 if x.kind = 6 then
  let r:=(atN gs x.g.id).returns
  if r = 0 then gs else if (atN gs r).worth <= metL gs r then updAt gs r backG else gs
 else gs
def giftS (es:List Entry) (gs:List Gift) (x:Entry):List Gift:=meetS (baseS es gs x) x
def foldG (step:List Entry -> List Gift -> Entry -> List Gift):List Entry -> List Gift -> List Entry -> List Gift
 | _,gs,[] => gs
 | seen,gs,x :: r => foldG step (seen ++ [x]) (step seen gs x) r
def giftL (es:List Entry):List Gift:=foldG giftS [] [] es
end Go.Proofs.YtdpdjcopkehdjaaGreat
namespace Go.Proofs.YtdpdjcopkehdjaaGreat
open Go.Eng Go.RowKit
theorem Fact.len (x:Fact):x.cells.length = 9:=rfl
theorem Reads.fact {w:World} {A:Option Addr} {l:List Fact} (h:Reads w A (fcells l)) {i:Nat} (hi:i < l.length):∃ b o,A = some ⟨b,o,none⟩ ∧ Rd w b (o + i * 9) l[i].cells:=Reads.elem Fact.len (by omega) h hi
theorem fcells_length (l:List Fact):(fcells l).length = l.length * 9:=flat_length Fact.len l
structure Fact.Nums (x:Fact):Prop where
 id:In64 x.id
 known:In64 x.known
 kind:0 <= x.kind ∧ x.kind <= 255
 who:In64 x.who
 what:In64 x.what
 other:In64 x.other
 since:In64 x.since
 til:In64 x.til
 name:x.name.size <= 9223372036854775807
structure HF (w:World) (A:Option Addr) (l:List Fact) (c:Nat):Prop where
 nums:∀ x ∈ l,x.Nums
 reads:Reads w A (fcells l)
 len:l.length <= c
 cap:l.length <= 9223372036854775807
theorem HF.ext {w w':World} {A:Option Addr} {l:List Fact} {c:Nat} (h:HF w A l c) (e:Ext w w'):HF w' A l c:=⟨h.nums,h.reads.ext e,h.len,h.cap⟩
def NewF (B:Nat) (w:World) (v:Value) (l:List Fact):Prop:=w.ownsRow B 55 9 v l.length (fcells l)
theorem NewF.base {B B':Nat} {w:World} {v:Value} {l:List Fact} (h:NewF B' w v l) (hb:B <= B'):NewF B w v l:=ownsRow_base h hb
theorem NewF.ext {B:Nat} {w w':World} {v:Value} {l:List Fact} (h:NewF B w v l) (e:Ext w w'):NewF B w' v l:=ownsRow_ext h e
theorem newF_nil (B:Nat) (w:World):NewF B w (.slice none 0 0) []:=World.ownsRow_nil _ _ _ _
theorem NewF.slice {B:Nat} {w:World} {v:Value} {l:List Fact} (h:NewF B w v l):∃ A c,v = .slice A l.length c ∧ Reads w A (fcells l) ∧ l.length <= c:=reads_of_owns h
theorem fieldsF:Tryz.prog.fieldsOf 55 = #[⟨ "Id",3,0,false, "", "",0⟩,⟨ "Known",3,1,false, "", "",8⟩,⟨ "Kind",5,2,false, "", "",16⟩,⟨ "Who",3,3,false, "", "",24⟩,⟨ "What",3,4,false, "", "",32⟩,⟨ "Other",3,5,false, "", "",40⟩,⟨ "Since",3,6,false, "", "",48⟩,⟨ "Until",3,7,false, "", "",56⟩,⟨ "Name",9,8,false, "", "",64⟩]:=by kernel_rfl
theorem underF:Tryz.prog.underlying 55 = some (.struct #[⟨ "Id",3,0,false, "", "",0⟩,⟨ "Known",3,1,false, "", "",8⟩,⟨ "Kind",5,2,false, "", "",16⟩,⟨ "Who",3,3,false, "", "",24⟩,⟨ "What",3,4,false, "", "",32⟩,⟨ "Other",3,5,false, "", "",40⟩,⟨ "Since",3,6,false, "", "",48⟩,⟨ "Until",3,7,false, "", "",56⟩,⟨ "Name",9,8,false, "", "",64⟩]):=by kernel_rfl
theorem part_plain {t:Nat} {ti:TI} (ht:C.ti t = some ti) (ha:ti.d.agg = false) (i:Nat) (cs:Array Value) (v:Value) (w:World) (hv:cs[i]? = some v):(part t cs i).run C.P w = .ok v w:=by
 have:=(C_ok.ti ht).run_agg
 simp [part,this,ha,hv]
def sameField (p q:Fact) (o:Nat):Bool:=match o with
 | 0 => decide (p.id = q.id)
 | 1 => decide (p.known = q.known)
 | 2 => decide (p.kind = q.kind)
 | 3 => decide (p.who = q.who)
 | 4 => decide (p.what = q.what)
 | 5 => decide (p.other = q.other)
 | 6 => decide (p.since = q.since)
 | 7 => decide (p.til = q.til)
 | _ => decide (p.name = q.name)
set_option maxRecDepth 10000 in
theorem eqInF (p q:Fact) (w:World):(Op.equalIn 10000 55 p.val q.val).run C.P w = .ok (decide (p = q)) w:=by
 have hs:C.P.stoodInHeld 55 = false:=by kernel_rfl
 have hu:C.P.underlying 55 = some (.struct (C.P.fieldsOf 55)):=by show Tryz.prog.underlying _ = some (.struct (Tryz.prog.fieldsOf _)); rw [fieldsF]; exact underF
 have h3:C.P.underlying 3 = some (.int .i64):=under3
 have h5:C.P.underlying 5 = some (.int .u8):=under5
 have h9:C.P.underlying 9 = some .string:=under9
 have p3:=part_plain (t:=3) (ti:=ty3) rfl rfl
 have p5:=part_plain (t:=5) (ti:=ty5) rfl rfl
 have p9:=part_plain (t:=9) (ti:=ty9) rfl rfl
 rw [Fact.val,Fact.val,run_equalIn_struct w 9999 55 _ _ hu hs]
 show ((Op.eqFields 9999 _ _ (Tryz.prog.fieldsOf 55).toList).run C.P w) = _
 rw [fieldsF]
 rw [eqFields_run (f:=fun x => sameField p q x.offset)]
 ·obtain ⟨a0,a1,a2,a3,a4,a5,a6,a7,a8⟩:=p
  obtain ⟨b0,b1,b2,b3,b4,b5,b6,b7,b8⟩:=q
  congr 1
  rw [Bool.eq_iff_iff]
  simp [sameField]
 ·intro f hf
  simp only [List.mem_cons,List.not_mem_nil,or_false] at hf
  rcases hf with rfl | rfl | rfl | rfl | rfl | rfl | rfl | rfl | rfl
  ·exact ⟨by decide,_,_,p3 0 _ (.int .i64 p.id) w rfl,p3 0 _ (.int .i64 q.id) w rfl,eqInt_run h3 w 9998 .i64 p.id q.id⟩
  ·exact ⟨by decide,_,_,p3 1 _ (.int .i64 p.known) w rfl,p3 1 _ (.int .i64 q.known) w rfl,eqInt_run h3 w 9998 .i64 p.known q.known⟩
  ·exact ⟨by decide,_,_,p5 2 _ (.int .u8 p.kind) w rfl,p5 2 _ (.int .u8 q.kind) w rfl,eqInt_run h5 w 9998 .u8 p.kind q.kind⟩
  ·exact ⟨by decide,_,_,p3 3 _ (.int .i64 p.who) w rfl,p3 3 _ (.int .i64 q.who) w rfl,eqInt_run h3 w 9998 .i64 p.who q.who⟩
  ·exact ⟨by decide,_,_,p3 4 _ (.int .i64 p.what) w rfl,p3 4 _ (.int .i64 q.what) w rfl,eqInt_run h3 w 9998 .i64 p.what q.what⟩
  ·exact ⟨by decide,_,_,p3 5 _ (.int .i64 p.other) w rfl,p3 5 _ (.int .i64 q.other) w rfl,eqInt_run h3 w 9998 .i64 p.other q.other⟩
  ·exact ⟨by decide,_,_,p3 6 _ (.int .i64 p.since) w rfl,p3 6 _ (.int .i64 q.since) w rfl,eqInt_run h3 w 9998 .i64 p.since q.since⟩
  ·exact ⟨by decide,_,_,p3 7 _ (.int .i64 p.til) w rfl,p3 7 _ (.int .i64 q.til) w rfl,eqInt_run h3 w 9998 .i64 p.til q.til⟩
  ·exact ⟨by decide,_,_,p9 8 _ (.string p.name) w rfl,p9 8 _ (.string q.name) w rfl,eqStr_run h9 w 9998 p.name q.name⟩
theorem neqF (x y:Operand) (p q:Fact):EqIs C.P .neq 55 x y p.val q.val (!decide (p = q)):=by
 intro w
 have hm:C.P.eqGuardType C.P.depth 55 = false:=by kernel_rfl
 rw [Sem.run_bind,Fact.val,Fact.val,run_eqGuard_agg w .neq 55 x y _ _ hm]
 simp only [Result.andThen_ok]
 rw [run_neq_struct]
 have:=eqInF p q w
 rw [Fact.val,Fact.val] at this
 rw [this]
 rfl
end Go.Proofs.YtdpdjcopkehdjaaGreat
namespace Go.Proofs.YtdpdjcopkehdjaaGreat
open Go.Eng Go.RowKit
theorem id_spec (n:Int) (w:World):CallsV C.P 247 #[.int .i64 n] w fun v w' => v = .bool (idB n) ∧ w' = w:=by
 refine callsV_of C_ok (args:=[_]) (plans:=[]) Tryz.func247 rfl Tryz.ntmps247 (by kernel_rfl) (Nat.le_of_ble_eq_true rfl) ?_
 refine brE_dec (fun h1 => ?_) (fun h1 => ?_)
 ·refine ⟨congrArg Value.bool ?_,rfl⟩
  have h1:1 <= n:=h1
  rw [Bool.eq_iff_iff]; simp only [decide_eq_true_eq]; omega
 ·refine ⟨congrArg Value.bool ?_,rfl⟩
  have h1:¬ 1 <= n:=h1
  rw [idB,decide_eq_false]; omega
theorem refId_spec (n:Int) (w:World):CallsV C.P 241 #[.int .i64 n] w fun v w' => v = .bool (idB n) ∧ w' = w:=by
 refine callsV_of C_ok (args:=[_]) (plans:=[]) Tryz.func241 rfl Tryz.ntmps241 (by kernel_rfl) (Nat.le_of_ble_eq_true rfl) ?_
 refine brE_dec (fun h1 => ?_) (fun h1 => ?_)
 ·refine ⟨congrArg Value.bool ?_,rfl⟩
  have h1:1 <= n:=h1
  rw [Bool.eq_iff_iff]; simp only [decide_eq_true_eq]; omega
 ·refine ⟨congrArg Value.bool ?_,rfl⟩
  have h1:¬ 1 <= n:=h1
  rw [idB,decide_eq_false]; omega
theorem within_spec (n a b:Int) (w:World):CallsV C.P 240 #[.int .i64 n,.int .i64 a,.int .i64 b] w fun v w' => v = .bool (decide (a <= n ∧ n <= b)) ∧ w' = w:=by
 refine callsV_of C_ok (args:=[_,_,_]) (plans:=[]) Tryz.func240 rfl Tryz.ntmps240 (by kernel_rfl) (Nat.le_of_ble_eq_true rfl) ?_
 refine brE_dec (fun h1 => ?_) (fun h1 => ?_)
 ·refine ⟨congrArg Value.bool ?_,rfl⟩
  have h1:a <= n:=h1
  rw [Bool.eq_iff_iff]; simp only [decide_eq_true_eq]; omega
 ·refine ⟨congrArg Value.bool ?_,rfl⟩
  have h1:¬ a <= n:=h1
  rw [decide_eq_false]; omega
theorem on_spec (s u day:Int) (w:World):CallsV C.P 208 #[.agg #[.int .i64 s,.int .i64 u],.int .i64 day] w fun v w' => v = .bool (decide (s <= day ∧ (u = 0 ∨ day < u))) ∧ Ext w w':=by
 refine callsV_of C_ok (args:=[_,_]) (plans:=[]) Tryz.func208 rfl Tryz.ntmps208 (by kernel_rfl) (Nat.le_of_ble_eq_true rfl) ?_
 intro g2 w1 h1
 have M1:=(Mem.start w).alloc h1
 refine ⟨_,M1.cell 0 rfl rfl,?_⟩
 refine brE_dec (fun h1 => ?_) (fun h1 => ?_)
 ·have h1:s <= day:=h1
  refine ⟨_,M1.cell 0 rfl rfl,?_⟩
  refine brE_dec (fun h2 => ?_) (fun h2 => ?_)
  ·have h2:u = 0:=h2
   exact ⟨congrArg Value.bool (decide_eq_true ⟨h1,.inl h2⟩).symm,M1.ext⟩
  ·have h2:¬ u = 0:=h2
   refine ⟨_,M1.cell 0 rfl rfl,?_⟩
   refine ⟨congrArg Value.bool ?_,M1.ext⟩
   rw [Bool.eq_iff_iff]; simp only [decide_eq_true_eq]; omega
 ·have h1:¬ s <= day:=h1
  exact ⟨congrArg Value.bool (decide_eq_false (fun h => h1 h.1)).symm,M1.ext⟩
theorem Holds_spec (x:Fact) (day:Int) (w:World):CallsV C.P 139 #[x.val,.int .i64 day] w fun v w' => v = .bool (holdsB day x) ∧ Ext w w':=by
 refine callsV_of C_ok (args:=[_,_]) (plans:=[]) Tryz.func139 rfl Tryz.ntmps139 (by kernel_rfl) (Nat.le_of_ble_eq_true rfl) ?_
 intro g2 w1 h1
 have M1:=(Mem.start w).alloc h1
 refine ⟨_,M1.cell 0 rfl rfl,?_⟩
 refine ⟨_,M1.cell 0 rfl rfl,?_⟩
 refine ⟨x.cells,rfl,M1.rd 0 rfl,?_⟩
 refine (on_spec x.since x.til day w1).mono ?_
 rintro v w2 ⟨rfl,e2⟩
 exact ⟨rfl,M1.ext.trans e2⟩
theorem refHolds_spec (x:Fact) (day:Int) (w:World):CallsV C.P 221 #[x.val,.int .i64 day] w fun v w' => v = .bool (holdsB day x) ∧ Ext w w':=by
 refine callsV_of C_ok (args:=[_,_]) (plans:=[]) Tryz.func221 rfl Tryz.ntmps221 (by kernel_rfl) (Nat.le_of_ble_eq_true rfl) ?_
 intro g2 w1 h1
 have M1:=(Mem.start w).alloc h1
 refine ⟨_,M1.cell 0 rfl rfl,?_⟩
 refine brE_dec (fun h1 => ?_) (fun h1 => ?_)
 ·have h1:x.since <= day:=h1
  refine ⟨_,M1.cell 0 rfl rfl,?_⟩
  refine brE_dec (fun h2 => ?_) (fun h2 => ?_)
  ·have h2:x.til = 0:=h2
   exact ⟨congrArg Value.bool (decide_eq_true ⟨h1,.inl h2⟩).symm,M1.ext⟩
  ·have h2:¬ x.til = 0:=h2
   refine ⟨_,M1.cell 0 rfl rfl,?_⟩
   refine ⟨congrArg Value.bool ?_,M1.ext⟩
   unfold holdsB
   rw [Bool.eq_iff_iff]; simp only [decide_eq_true_eq]; omega
 ·have h1:¬ x.since <= day:=h1
  exact ⟨congrArg Value.bool (decide_eq_false (fun h => h1 h.1)).symm,M1.ext⟩
theorem ba_get {s:ByteArray} {j:Nat} (h:j < s.data.toList.length):s[j]? = some s.data.toList[j]:=by
 have h':j < s.size:=by simpa using h
 rw [getElem?_pos s j h']
 simp [ByteArray.getElem_eq_getElem_data]
theorem ba_size (s:ByteArray):s.size = s.data.toList.length:=by simp
theorem chB_iff {c:UInt8}:chB c = true <-> (97 <= (c.toNat:Int) ∧ (c.toNat:Int) <= 122) ∨ (48 <= (c.toNat:Int) ∧ (c.toNat:Int) <= 57) ∨ (c.toNat:Int) = 32 ∨ (c.toNat:Int) = 45:=by
 simp only [chB,Bool.or_eq_true,decide_eq_true_eq]
 omega
theorem nameB_iff {l:List UInt8}:nameB l = true <-> ((1 <= l.length ∧ l.length <= 24) ∧ l.head? ≠ some 32 ∧ l.getLast? ≠ some 32) ∧ ∀ c ∈ l,chB c = true:=by
 simp only [nameB,Bool.and_eq_true,decide_eq_true_eq,Bool.not_eq_true',decide_eq_false_iff_not,List.all_eq_true,ne_eq]
 constructor
 ·rintro ⟨⟨⟨a,b⟩,c⟩,d⟩; exact ⟨⟨a,b,c⟩,d⟩
 ·rintro ⟨⟨a,b,c⟩,d⟩; exact ⟨⟨⟨a,b⟩,c⟩,d⟩
theorem eq32 {c:UInt8}:c = 32 <-> (c.toNat:Int) = 32:=by
 constructor
 ·rintro rfl; rfl
 ·intro h
  have:c.toNat = 32:=by omega
  exact UInt8.toNat_inj.1 (by simpa using this)
theorem name_head {l:List UInt8} (h:0 < l.length):l.head? = some l[0]:=by
 cases l with
 | nil => simp at h
 | cons x r => rfl
theorem name_last {l:List UInt8} (h:0 < l.length):l.getLast? = some (l[l.length - 1]'(by omega)):=List.getLast?_eq_getElem? ▸ List.getElem?_eq_getElem (by omega)
theorem isName_spec (s:ByteArray) (w:World) (hs:s.size <= 9223372036854775807):CallsV C.P 248 #[.string s] w fun v w' => v = .bool (nameB s.data.toList) ∧ w' = w:=by
 have hsz:=ba_size s
 generalize hl:s.data.toList = l at *
 have get:∀ {j:Nat} (h:j < l.length),s[j]? = some l[j]:=fun {j} h => by subst hl; exact ba_get h
 have no:∀ {A:Prop},(nameB l = true -> False) -> Value.bool false = .bool (nameB l):=fun h => by
  cases hh:nameB l with
  | false => rfl
  | true => exact (h hh).elim
 refine callsV_of C_ok (args:=[_]) (plans:=[]) Tryz.func248 rfl Tryz.ntmps248 (by kernel_rfl) (Nat.le_of_ble_eq_true rfl) ?_
 refine brE_dec (fun h1 => ?_) (fun h1 => ?_)
 ·have h1:(s.size:Int) < 1:=h1
  exact ⟨no (A:=True) fun h => by have:=(nameB_iff.1 h).1.1; omega,rfl⟩
 have h1:¬ (s.size:Int) < 1:=h1
 refine brE_dec (fun h2 => ?_) (fun h2 => ?_)
 ·have h2:(s.size:Int) > 24:=h2
  exact ⟨no (A:=True) fun h => by have:=(nameB_iff.1 h).1.1; omega,rfl⟩
 have h2:¬ (s.size:Int) > 24:=h2
 have h0:0 < l.length:=by omega
 have hk:l.length - 1 < l.length:=by omega
 refine ⟨0,l[0],rfl,get h0,?_⟩
 refine brE_dec (fun h3 => ?_) (fun h3 => ?_)
 ·exact ⟨no (A:=True) fun h => by
   have:=(nameB_iff.1 h).1.2.1
   rw [name_head h0] at this
   exact this (congrArg some (eq32.2 h3)),rfl⟩
 refine ⟨((l.length - 1:Nat):Int),by rw [fit ⟨by omega,by omega⟩]; omega,?_⟩
 refine ⟨l.length - 1,l[l.length - 1],rfl,get hk,?_⟩
 refine brE_dec (fun h4 => ?_) (fun h4 => ?_)
 ·exact ⟨no (A:=True) fun h => by
   have:=(nameB_iff.1 h).1.2.2
   rw [name_last h0] at this
   exact this (congrArg some (eq32.2 h4)),rfl⟩
 have hhead:(1 <= l.length ∧ l.length <= 24) ∧ l.head? ≠ some 32 ∧ l.getLast? ≠ some 32:=by
  refine ⟨⟨by omega,by omega⟩,?_,?_⟩
  ·rw [name_head h0]; exact fun e => h3 (eq32.1 (Option.some.inj e))
  ·rw [name_last h0]; exact fun e => h4 (eq32.1 (Option.some.inj e))
 refine loopE C_ok (fun (i:Nat) => [(0,.string s),(27,.int .i64 s.size),(28,.int .i64 i)]) (fun i w' => w' = w ∧ i <= l.length ∧ ∀ j (h:j < l.length),j < i -> chB l[j] = true) (fun i => l.length - i) 0
  ⟨rfl,rfl,rfl,trivial⟩ ⟨rfl,Nat.zero_le _,fun _ _ h => absurd h (Nat.not_lt_zero _)⟩ ?_
 rintro i w1 ⟨rfl,hi,hall⟩
 refine brE_dec (fun hlt => ?_) (fun hge => ?_)
 ·have hlt:i < l.length:=by have:(i:Int) < (s.size:Nat):=hlt; omega
  refine ⟨i,l[i],rfl,get hlt,?_⟩
  have hc:=chB_iff (c:=l[i])
  generalize hcv:l[i] = c at *
  have bad:¬ ((97 <= (c.toNat:Int) ∧ (c.toNat:Int) <= 122) ∨ (48 <= (c.toNat:Int) ∧ (c.toNat:Int) <= 57) ∨ (c.toNat:Int) = 32 ∨ (c.toNat:Int) = 45) -> Value.bool false = .bool (nameB l) ∧ w1 = w1:=fun hb =>
   ⟨no (A:=True) fun h => hb (hc.1 ((nameB_iff.1 h).2 c (hcv ▸ List.getElem_mem hlt))),rfl⟩
  have next:IntKind.i64.wrap ((i:Int) + 1) = ((i + 1:Nat):Int):=fit ⟨by omega,by omega⟩
  have fin:chB c = true -> i + 1 <= l.length ∧ ∀ j (h:j < l.length),j < i + 1 -> chB l[j] = true:=fun hg => ⟨hlt,fun j hj hji => by
   rcases Nat.lt_or_ge j i with h | h
   ·exact hall j hj h
   ·obtain rfl:j = i:=by omega
    rw [hcv]; exact hg⟩
  repeat' first
   | refine brE_ndec (fun a => ?_) (fun a => ?_)
   | refine brE_dec (fun a => ?_) (fun a => ?_)
  all_goals first
   | exact bad (by omega)
   | exact ⟨_,next,i + 1,⟨rfl,rfl,rfl,trivial⟩,⟨rfl,fin (hc.2 (by omega))⟩,by omega⟩
 ·have:i = l.length:=by have:¬ (i:Int) < (s.size:Nat):=hge; omega
  subst this
  refine ⟨congrArg Value.bool (nameB_iff.2 ⟨hhead,fun c hc => ?_⟩).symm,rfl⟩
  obtain ⟨j,hj,rfl⟩:=List.getElem_of_mem hc
  exact hall j hj hj
theorem refIsName_spec (s:ByteArray) (w:World) (hs:s.size <= 9223372036854775807):CallsV C.P 243 #[.string s] w fun v w' => v = .bool (nameB s.data.toList) ∧ w' = w:=by
 have hsz:=ba_size s
 generalize hl:s.data.toList = l at *
 have get:∀ {j:Nat} (h:j < l.length),s[j]? = some l[j]:=fun {j} h => by subst hl; exact ba_get h
 have no:∀ {A:Prop},(nameB l = true -> False) -> Value.bool false = .bool (nameB l):=fun h => by
  cases hh:nameB l with
  | false => rfl
  | true => exact (h hh).elim
 refine callsV_of C_ok (args:=[_]) (plans:=[]) Tryz.func243 rfl Tryz.ntmps243 (by kernel_rfl) (Nat.le_of_ble_eq_true rfl) ?_
 refine brE_dec (fun h1 => ?_) (fun h1 => ?_)
 ·have h1:(s.size:Int) < 1:=h1
  exact ⟨no (A:=True) fun h => by have:=(nameB_iff.1 h).1.1; omega,rfl⟩
 have h1:¬ (s.size:Int) < 1:=h1
 refine brE_dec (fun h2 => ?_) (fun h2 => ?_)
 ·have h2:(s.size:Int) > 24:=h2
  exact ⟨no (A:=True) fun h => by have:=(nameB_iff.1 h).1.1; omega,rfl⟩
 have h2:¬ (s.size:Int) > 24:=h2
 have h0:0 < l.length:=by omega
 have hk:l.length - 1 < l.length:=by omega
 refine ⟨0,l[0],rfl,get h0,?_⟩
 refine brE_dec (fun h3 => ?_) (fun h3 => ?_)
 ·exact ⟨no (A:=True) fun h => by
   have:=(nameB_iff.1 h).1.2.1
   rw [name_head h0] at this
   exact this (congrArg some (eq32.2 h3)),rfl⟩
 refine ⟨((l.length - 1:Nat):Int),by rw [fit ⟨by omega,by omega⟩]; omega,?_⟩
 refine ⟨l.length - 1,l[l.length - 1],rfl,get hk,?_⟩
 refine brE_dec (fun h4 => ?_) (fun h4 => ?_)
 ·exact ⟨no (A:=True) fun h => by
   have:=(nameB_iff.1 h).1.2.2
   rw [name_last h0] at this
   exact this (congrArg some (eq32.2 h4)),rfl⟩
 have hhead:(1 <= l.length ∧ l.length <= 24) ∧ l.head? ≠ some 32 ∧ l.getLast? ≠ some 32:=by
  refine ⟨⟨by omega,by omega⟩,?_,?_⟩
  ·rw [name_head h0]; exact fun e => h3 (eq32.1 (Option.some.inj e))
  ·rw [name_last h0]; exact fun e => h4 (eq32.1 (Option.some.inj e))
 refine loopE C_ok (fun (i:Nat) => [(0,.string s),(3,.int .i64 i)]) (fun i w' => w' = w ∧ i <= l.length ∧ ∀ j (h:j < l.length),j < i -> chB l[j] = true) (fun i => l.length - i) 0
  ⟨rfl,rfl,trivial⟩ ⟨rfl,Nat.zero_le _,fun _ _ h => absurd h (Nat.not_lt_zero _)⟩ ?_
 rintro i w1 ⟨rfl,hi,hall⟩
 refine brE_dec (fun hlt => ?_) (fun hge => ?_)
 ·have hlt:i < l.length:=by have:(i:Int) < (s.size:Nat):=hlt; omega
  refine ⟨i,l[i],rfl,get hlt,?_⟩
  have hc:=chB_iff (c:=l[i])
  generalize hcv:l[i] = c at *
  have bad:¬ ((97 <= (c.toNat:Int) ∧ (c.toNat:Int) <= 122) ∨ (48 <= (c.toNat:Int) ∧ (c.toNat:Int) <= 57) ∨ (c.toNat:Int) = 32 ∨ (c.toNat:Int) = 45) -> Value.bool false = .bool (nameB l) ∧ w1 = w1:=fun hb =>
   ⟨no (A:=True) fun h => hb (hc.1 ((nameB_iff.1 h).2 c (hcv ▸ List.getElem_mem hlt))),rfl⟩
  have next:IntKind.i64.wrap ((i:Int) + 1) = ((i + 1:Nat):Int):=fit ⟨by omega,by omega⟩
  have fin:chB c = true -> i + 1 <= l.length ∧ ∀ j (h:j < l.length),j < i + 1 -> chB l[j] = true:=fun hg => ⟨hlt,fun j hj hji => by
   rcases Nat.lt_or_ge j i with h | h
   ·exact hall j hj h
   ·obtain rfl:j = i:=by omega
    rw [hcv]; exact hg⟩
  repeat' first
   | refine brE_ndec (fun a => ?_) (fun a => ?_)
   | refine brE_dec (fun a => ?_) (fun a => ?_)
  all_goals first
   | exact bad (by omega)
   | exact ⟨_,next,i + 1,⟨rfl,rfl,trivial⟩,⟨rfl,fin (hc.2 (by omega))⟩,by omega⟩
 ·have:i = l.length:=by have:¬ (i:Int) < (s.size:Nat):=hge; omega
  subst this
  refine ⟨congrArg Value.bool (nameB_iff.2 ⟨hhead,fun c hc => ?_⟩).symm,rfl⟩
  obtain ⟨j,hj,rfl⟩:=List.getElem_of_mem hc
  exact hall j hj hj
end Go.Proofs.YtdpdjcopkehdjaaGreat
namespace Go.Proofs.YtdpdjcopkehdjaaGreat
open Go.Eng Go.RowKit
theorem underFs:Tryz.prog.underlying 22 = some (.slice 55):=by kernel_rfl
theorem eqNilF (x y:Operand) (A:Option Addr) (n c:Nat):EqIs C.P .eql 22 x y (.slice A n c) (.slice none 0 0) A.isNone:=by
 intro w
 have hu:C.P.underlying 22 = some (.slice 55):=underFs
 have h1:(eqGuard .eql 22 x y (.slice A n c) (.slice none 0 0)).run C.P w = .ok () w:=by simp [eqGuard]
 rw [Sem.run_bind,h1]
 simp only [Result.andThen_ok]
 exact Lib.run_eql_slice_nil w _ _ A n c _ _ hu
theorem Clone_spec {w:World} {A:Option Addr} {l:List Fact} {c:Nat} (h:Reads w A (fcells l)) (hl:l.length <= 2 ^ 20) :
  CallsV C.P 52 #[.slice A l.length c] w fun v w' => NewF w.heap.size w' v l ∧ Ext w w':=by
 refine callsV_of C_ok (args:=[_]) (plans:=[]) Tryz.func52 rfl Tryz.ntmps52 (by kernel_rfl) (Nat.le_of_ble_eq_true rfl) ?_
 refine ⟨_,eqNilF _ _ _ _ _,?_⟩
 refine brE_mk (fun hn => ?_) (fun hn => ?_)
 ·have hl0:l = []:=by
   rcases h with h | ⟨b,o,hA,_⟩
   ·have:=congrArg List.length h
    rw [fcells_length] at this
    have:l.length * 9 = 0:=this
    exact List.length_eq_zero_iff.1 (by omega)
   ·rw [hA] at hn; cases hn
  subst hl0
  exact ⟨newF_nil _ _,Ext.refl _⟩
 ·intro g w1 h1
  have ho:w1.ownsRow w.heap.size 55 9 (.slice (some ⟨g,0,none⟩) 0 0) 0 []:=owns_block (cs:=[]) h1.here (by rw [h1.new]; exact Nat.le_refl _) rfl (Nat.zero_le _)
  have hd:fcells l = [] ∨ ∃ b o,A = some ⟨b,o,none⟩ ∧ Rd w1 b o (fcells l):=h.ext h1.ext
  have hs:A.isSome = true:=by cases A with
   | none => cases hn
   | some a => rfl
  have h1c:(fcells l).all (·.oneCell') = true:=by
   rw [List.all_eq_true]
   intro v hv
   obtain ⟨x,_,hx⟩:=List.mem_flatMap.1 hv
   simp [Fact.cells] at hx
   rcases hx with rfl | rfl | rfl | rfl | rfl | rfl | rfl | rfl | rfl <;> rfl
  refine ⟨rfl,rfl,rfl,w.heap.size,0,[],fcells l,ho,h1.ext.size,Nat.le_of_ble_eq_true rfl,rfl,fcells_length l,hd,by rw [hs]; rfl,h1c,by omega,by simp only [maxLen]; omega,?_⟩
  intro v2 w2 ho2 hg2 _
  refine ⟨?_,app_ext h1.ext ho hg2⟩
  show w2.ownsRow _ _ _ v2 _ _
  rw [Nat.zero_add,List.nil_append] at ho2
  exact ho2
theorem knownL_all {k:Int}:∀ {l:List Fact},(∀ j (h:j < l.length),l[j].known <= k) -> knownL k l = l
 | [],_ => rfl
 | x :: r,h => by
  have h0:=h 0 (by simp)
  unfold knownL
  rw [List.takeWhile_cons,if_pos (by simpa using h0)]
  exact congrArg (x :: ·) (knownL_all (l:=r) fun j hj => h (j + 1) (by simpa using hj))
theorem knownL_stop {k:Int}:∀ {l:List Fact} {i:Nat} (hi:i < l.length),(∀ j (h:j < l.length),j < i -> l[j].known <= k) -> ¬ l[i].known <= k -> knownL k l = l.take i
 | x :: r,0,_,_,h => by
  unfold knownL
  rw [List.takeWhile_cons,if_neg (by simpa using h)]; rfl
 | x :: r,i + 1,hi,ha,h => by
  have h0:=ha 0 (by simp) (Nat.succ_pos _)
  unfold knownL
  rw [List.takeWhile_cons,if_pos (by simpa using h0),List.take_succ_cons]
  exact congrArg (x :: ·) (knownL_stop (l:=r) (i:=i) (by simpa using hi) (fun j hj hji => ha (j + 1) (by simpa using hj) (by omega)) (by simpa using h))
theorem knownL_length (k:Int) (l:List Fact):(knownL k l).length <= l.length:=(List.takeWhile_sublist _).length_le
theorem knownL_sub {k:Int} {l:List Fact}:∀ x ∈ knownL k l,x ∈ l:=fun _ h => (List.takeWhile_sublist _).subset h
theorem Reads.front {w:World} {A:Option Addr} {l:List Fact} {c i:Nat} (h:Reads w A (fcells l)):Reads w (if c = 0 then A else A.map (·.add (0 * 9))) (fcells (l.take i)):=by
 have e:(if c = 0 then A else A.map (·.add (0 * 9))) = A:=by
  split
  ·rfl
  ·cases A <;> rfl
 rw [e]
 rcases h with h | ⟨b,o,hA,hr⟩
 ·left
  have:=congrArg List.length h
  rw [fcells_length] at this
  have:l.length * 9 = 0:=this
  have:l = []:=List.length_eq_zero_iff.1 (by omega)
  subst this; simp [fcells]
 ·refine .inr ⟨b,o,hA,fun j v hv => hr j v ?_⟩
  have e:fcells l = fcells (l.take i) ++ fcells (l.drop i):=by rw [<-fcells_append,List.take_append_drop]
  rw [e,List.getElem?_append_left (List.getElem?_eq_some_iff.1 hv).1]
  exact hv
theorem Known_spec {w:World} {A:Option Addr} {l:List Fact} {c:Nat} (h:HF w A l c) (hl:l.length <= 2 ^ 20) (k:Int) :
  CallsV C.P 205 #[.slice A l.length c,.int .i64 k] w fun v w' => NewF w.heap.size w' v (knownL k l) ∧ Ext w w':=by
 have hcap:=h.len
 refine callsV_of C_ok (args:=[_,_]) (plans:=[]) Tryz.func205 rfl Tryz.ntmps205 (by kernel_rfl) (Nat.le_of_ble_eq_true rfl) ?_
 refine loopE C_ok (fun (i:Nat) => [(0,.slice A l.length c),(1,.int .i64 k),(7,.slice A l.length c),(8,.int .i64 l.length),(9,.int .i64 i)])
  (fun i w' => i <= l.length ∧ Ext w w' ∧ ∀ j (h:j < l.length),j < i -> l[j].known <= k) (fun i => l.length - i) 0
  ⟨rfl,rfl,rfl,rfl,rfl,trivial⟩ ⟨Nat.zero_le _,Ext.refl _,fun _ _ h => absurd h (Nat.not_lt_zero _)⟩ ?_
 rintro i w1 ⟨hi,e1,hall⟩
 refine brE_dec (fun hlt => ?_) (fun hge => ?_)
 ·have hlt:i < l.length:=by have:(i:Int) < (l.length:Nat):=hlt; omega
  obtain ⟨b,o,hA,hc⟩:=Reads.fact (h.reads.ext e1) hlt
  refine ⟨i,b,o,rfl,hlt,hA,?_⟩
  refine ⟨l[i].cells,rfl,hc,?_⟩
  intro g w2 h2
  refine ⟨rfl,_,_,h2.here,Nat.le_of_ble_eq_true rfl,rfl,?_⟩
  intro w3 h3
  have e13:Ext w1 w3:=h3.ext_of h2.ext (by rw [h2.new]; exact Nat.le_refl _)
  refine ⟨_,cell_of_block (i:=1) h3.here rfl,?_⟩
  refine brE_dec (fun hk => ?_) (fun hk => ?_)
  ·have hk:l[i].known > k:=hk
   refine ⟨0,i,rfl,rfl,Nat.zero_le _,by omega,?_⟩
   have hr:=Reads.front (c:=c) (i:=i) (h.reads.ext (e1.trans e13))
   have hlen:(l.take i).length = i:=by rw [List.length_take]; omega
   have:=Clone_spec (c:=c - 0) hr (by omega)
   rw [hlen] at this
   refine this.mono ?_
   rintro v w4 ⟨hn,e4⟩
   rw [knownL_stop hlt hall (by omega)]
   exact ⟨hn.base (e1.trans e13).size,(e1.trans e13).trans e4⟩
  ·have hk:¬ l[i].known > k:=hk
   refine ⟨((i + 1:Nat):Int),fit ⟨by omega,by omega⟩,?_⟩
   refine ⟨i + 1,⟨rfl,rfl,rfl,rfl,rfl,trivial⟩,⟨hlt,e1.trans e13,fun j hj hji => ?_⟩,by omega⟩
   rcases Nat.lt_or_ge j i with h | h
   ·exact hall j hj h
   ·obtain rfl:j = i:=by omega
    omega
 ·have:i = l.length:=by have:¬ (i:Int) < (l.length:Nat):=hge; omega
  subst this
  refine (Clone_spec (h.reads.ext e1) hl).mono ?_
  rintro v w4 ⟨hn,e4⟩
  rw [knownL_all fun j hj => hall j hj hj]
  exact ⟨hn.base e1.size,e1.trans e4⟩
theorem refKnown_spec {w:World} {A:Option Addr} {l:List Fact} {c:Nat} (h:HF w A l c) (hl:l.length <= 2 ^ 20) (k:Int) :
  CallsV C.P 261 #[.slice A l.length c,.int .i64 k] w fun v w' => NewF w.heap.size w' v (knownL k l) ∧ Ext w w':=by
 refine callsV_of C_ok (args:=[_,_]) (plans:=[]) Tryz.func261 rfl Tryz.ntmps261 (by kernel_rfl) (Nat.le_of_ble_eq_true rfl) ?_
 refine loopE C_ok (fun (s:Nat × Value) => [(0,.slice A l.length c),(1,.int .i64 k),(5,s.2),(6,.int .i64 s.1)])
  (fun s w' => s.1 <= l.length ∧ Ext w w' ∧ (∀ j (h:j < l.length),j < s.1 -> l[j].known <= k) ∧ NewF w.heap.size w' s.2 (l.take s.1)) (fun s => l.length - s.1) (0,.slice none 0 0)
  ⟨rfl,rfl,rfl,rfl,trivial⟩ ⟨Nat.zero_le _,Ext.refl _,(fun _ _ h => absurd h (Nat.not_lt_zero _)),newF_nil _ _⟩ ?_
 rintro ⟨i,v⟩ w1 ⟨hi',e1,hall',ho'⟩
 have hi:i <= l.length:=hi'
 have hall:∀ j (h:j < l.length),j < i -> l[j].known <= k:=hall'
 have ho:NewF w.heap.size w1 v (l.take i):=ho'
 clear hall' hi' ho'
 refine brE_dec (fun hlt => ?_) (fun hge => ?_)
 case' refine_2 =>
  have:i = l.length:=by have:¬ (i:Int) < (l.length:Nat):=hge; omega
  subst this
  rw [knownL_all fun j hj => hall j hj hj]
  rw [List.take_length] at ho
  exact ⟨ho,e1⟩
 have hlt:i < l.length:=by have:(i:Int) < (l.length:Nat):=hlt; omega
 obtain ⟨b,o,hA,hc⟩:=Reads.fact (h.reads.ext e1) hlt
 refine ⟨i,b,o,rfl,hlt,hA,?_⟩
 refine ⟨.int .i64 l[i].known,hc 1 _ rfl,?_⟩
 refine brE_dec (fun hk => ?_) (fun hk => ?_)
 ·have hk:l[i].known <= k:=hk
  refine ⟨i,b,o,rfl,hlt,hA,?_⟩
  refine ⟨l[i].cells,rfl,hc,?_⟩
  intro g w2 h2
  have ho2:w2.ownsRow w.heap.size 55 9 v (l.take i).length (fcells (l.take i)):=ownsRow_ext ho h2.ext
  have hlen:(l.take i).length = i:=by rw [List.length_take]; omega
  refine ⟨rfl,rfl,rfl,w.heap.size,_,_,l[i].cells,ho2,(e1.trans h2.ext).size,Nat.le_of_ble_eq_true rfl,rfl,rfl,.inr ⟨g,0,rfl,Rd.of_block h2.here⟩,rfl,rfl,by omega,by simp only [maxLen]; omega,?_⟩
  intro v3 w3 ho3 hg3 _
  refine ⟨((i + 1:Nat):Int),fit ⟨by omega,by omega⟩,?_⟩
  refine ⟨(i + 1,v3),⟨rfl,rfl,rfl,rfl,trivial⟩,⟨hlt,app_ext (e1.trans h2.ext) ho2 hg3,fun j hj hji => ?_,?_⟩,by show l.length - (i + 1) < l.length - i; omega⟩
  ·rcases Nat.lt_or_ge j i with h | h
   ·exact hall j hj h
   ·obtain rfl:j = i:=by have:j < i + 1:=hji; omega
    exact hk
  ·show w3.ownsRow _ _ _ v3 (l.take (i + 1)).length (fcells (l.take (i + 1)))
   rw [List.take_succ_eq_append_getElem hlt,fcells_append,fcells_one,List.length_append]
   exact ho3
 ·have hk:¬ l[i].known <= k:=hk
  rw [knownL_stop hlt hall hk]
  exact ⟨ho,e1⟩
end Go.Proofs.YtdpdjcopkehdjaaGreat
namespace Go.Proofs.YtdpdjcopkehdjaaGreat
open Go.Eng Go.RowKit
theorem voidedBy_take {acc:List Fact} {n:Int} {j:Nat} (hj:j < acc.length):voidedBy (acc.take (j + 1)) n = (voidedBy (acc.take j) n || decide (acc[j].kind = 11 ∧ acc[j].what = n)):=by
 unfold voidedBy
 rw [List.take_succ_eq_append_getElem hj,List.any_append]; simp
theorem backL_step {acc:List Fact} {K:List Fact} {n:Nat} (hn:n < K.length):backL acc (K.take (n + 1)).reverse = if voidedBy acc K[n].id = true then backL acc (K.take n).reverse else backL (acc ++ [K[n]]) (K.take n).reverse:=by
 rw [List.take_succ_eq_append_getElem hn,List.reverse_append]
 rfl
theorem backL_length:∀ (K acc:List Fact),(backL acc K).length <= acc.length + K.length
 | [],acc => by simp [backL]
 | x :: r,acc => by
  unfold backL
  split
  ·have:=backL_length r acc; simp; omega
  ·have:=backL_length r (acc ++ [x]); simp at this ⊢; omega
theorem backL_sub:∀ {K acc:List Fact} {x:Fact},x ∈ backL acc K -> x ∈ acc ∨ x ∈ K
 | [],acc,x,h => .inl h
 | y :: r,acc,x,h => by
  unfold backL at h
  split at h
  ·rcases backL_sub h with h | h
   ·exact .inl h
   ·exact .inr (by simp [h])
  ·rcases backL_sub h with h | h
   ·simp at h
    rcases h with h | rfl
    ·exact .inl h
    ·exact .inr (by simp)
   ·exact .inr (by simp [h])
theorem countL_length (k:Int) (l:List Fact):(countL k l).length <= l.length:=by
 unfold countL
 rw [List.length_reverse]
 have h1:=backL_length (knownL k l).reverse []
 have h2:=knownL_length k l
 simp at h1; omega
theorem countL_sub {k:Int} {l:List Fact} {x:Fact} (h:x ∈ countL k l):x ∈ l:=by
 unfold countL at h
 rw [List.mem_reverse] at h
 rcases backL_sub h with h | h
 ·cases h
 ·exact knownL_sub x (List.mem_reverse.1 h)
theorem atL_length (k day:Int) (l:List Fact):(atL k day l).length <= l.length:=Nat.le_trans (List.length_filter_le _ _) (countL_length k l)
theorem atL_sub {k day:Int} {l:List Fact} {x:Fact} (h:x ∈ atL k day l):x ∈ l:=countL_sub (List.mem_filter.1 h).1
set_option maxRecDepth 100000 in
theorem refCounting_spec {w:World} {A:Option Addr} {l:List Fact} {c:Nat} (h:HF w A l c) (hl:l.length <= 2 ^ 20) (k:Int) :
  CallsV C.P 220 #[.slice A l.length c,.int .i64 k] w fun v w' => NewF w.heap.size w' v (countL k l) ∧ Ext w w':=by
 refine callsV_of C_ok (args:=[_,_]) (plans:=plans220) Tryz.func220 rfl Tryz.ntmps220 (by kernel_rfl) (Nat.le_of_ble_eq_true rfl) ?_
 refine (refKnown_spec h hl k).mono ?_
 rintro v w1 ⟨hK,e1⟩
 have hkl:=knownL_length k l
 have hcount:countL k l = (backL [] (knownL k l).reverse).reverse:=rfl
 rw [hcount]
 clear hcount
 generalize knownL k l = K at *
 obtain ⟨AK,cK,rfl,hrK,_⟩:=hK.slice
 refine ⟨(K.length:Int) - 1,fit ⟨by omega,by omega⟩,?_⟩
 refine loopE C_ok (fun (s:Nat × Value × List Fact) => [(5,.slice AK K.length cK),(6,s.2.1),(7,.int .i64 ((s.1:Int) - 1))])
  (fun s w' => s.1 <= K.length ∧ Ext w1 w' ∧ NewF w1.heap.size w' s.2.1 s.2.2 ∧ backL [] K.reverse = backL s.2.2 (K.take s.1).reverse ∧ s.2.2.length + s.1 <= K.length) (fun s => s.1) (K.length,.slice none 0 0,[])
  ⟨rfl,rfl,rfl,trivial⟩ ⟨Nat.le_refl _,Ext.refl _,newF_nil _ _,by rw [List.take_length],by simp⟩ ?_
 rintro ⟨n,v,acc⟩ w2 ⟨hn',e2,ho',hb',hal'⟩
 have hn:n <= K.length:=hn'
 have ho:NewF w1.heap.size w2 v acc:=ho'
 have hb:backL [] K.reverse = backL acc (K.take n).reverse:=hb'
 have hal:acc.length + n <= K.length:=hal'
 clear hal' hb' hn' ho'
 refine brE_dec (fun hge => ?_) (fun hlt => ?_)
 ·have hge:(n:Int) - 1 >= 0:=hge
  obtain ⟨m,rfl⟩:∃ m,n = m + 1:=⟨n - 1,by omega⟩
  have hm:m < K.length:=by omega
  rw [backL_step hm] at hb
  obtain ⟨Aa,ca,rfl,hra,_⟩:=ho.slice
  refine loopE C_ok (fun (s:Nat × Bool) => [(5,.slice AK K.length cK),(6,.slice Aa acc.length ca),(7,.int .i64 (((m + 1:Nat):Int) - 1)),(8,.bool s.2),(9,.int .i64 s.1)])
   (fun s w' => w' = w2 ∧ s.1 <= acc.length ∧ s.2 = voidedBy (acc.take s.1) K[m].id) (fun s => acc.length - s.1) (0,false)
   ⟨rfl,rfl,rfl,rfl,rfl,trivial⟩ ⟨rfl,Nat.zero_le _,rfl⟩ ?_
  rintro ⟨j,b⟩ w3 ⟨rfl,hj',hbv'⟩
  have hj:j <= acc.length:=hj'
  have hbv:b = voidedBy (acc.take j) K[m].id:=hbv'
  clear hbv' hj'
  refine brE_dec (fun hlt => ?_) (fun hge2 => ?_)
  ·have hlt:j < acc.length:=by have:(j:Int) < (acc.length:Nat):=hlt; omega
   have hvs:=voidedBy_take (n:=K[m].id) hlt
   have next:IntKind.i64.wrap ((j:Int) + 1) = ((j + 1:Nat):Int):=fit ⟨by omega,by omega⟩
   obtain ⟨b1,o1,hA1,hc1⟩:=Reads.fact hra hlt
   obtain ⟨b2,o2,hA2,hc2⟩:=Reads.fact (hrK.ext e2) hm
   refine brE_mk (fun hbt => ?_) (fun hbf => ?_)
   ·have hbt:b = true:=hbt
    refine ⟨_,next,?_⟩
    refine ⟨(j + 1,true),⟨rfl,rfl,rfl,rfl,rfl,trivial⟩,⟨rfl,hlt,?_⟩,by show acc.length - (j + 1) < acc.length - j; omega⟩
    show true = voidedBy (acc.take (j + 1)) K[m].id
    rw [hvs,<-hbv,hbt]; rfl
   have hbf:b = false:=hbf
   refine ⟨j,b1,o1,rfl,hlt,hA1,?_⟩
   refine ⟨.int .u8 acc[j].kind,hc1 2 _ rfl,?_⟩
   refine brE_dec (fun hk => ?_) (fun hk => ?_)
   ·have hk:acc[j].kind = 11:=hk
    refine ⟨j,b1,o1,rfl,hlt,hA1,?_⟩
    refine ⟨.int .i64 acc[j].what,hc1 4 _ rfl,?_⟩
    refine ⟨m,b2,o2,by omega,hm,hA2,?_⟩
    refine ⟨.int .i64 K[m].id,hc2 0 _ rfl,?_⟩
    refine ⟨_,next,?_⟩
    refine ⟨(j + 1,_),⟨rfl,rfl,rfl,rfl,rfl,trivial⟩,⟨rfl,hlt,?_⟩,by show acc.length - (j + 1) < acc.length - j; omega⟩
    show decide (acc[j].what = K[m].id) = voidedBy (acc.take (j + 1)) K[m].id
    rw [hvs,<-hbv,hbf,Bool.false_or]
    simp [hk]
   ·have hk:¬ acc[j].kind = 11:=hk
    refine ⟨_,next,?_⟩
    refine ⟨(j + 1,false),⟨rfl,rfl,rfl,rfl,rfl,trivial⟩,⟨rfl,hlt,?_⟩,by show acc.length - (j + 1) < acc.length - j; omega⟩
    show false = voidedBy (acc.take (j + 1)) K[m].id
    rw [hvs,<-hbv,hbf,Bool.false_or]
    exact (decide_eq_false fun h => hk h.1).symm
  ·have:j = acc.length:=by have:¬ (j:Int) < (acc.length:Nat):=hge2; omega
   subst this
   rw [List.take_length] at hbv
   have next:IntKind.i64.wrap ((((m + 1:Nat):Int) - 1) - 1) = (m:Int) - 1:=by rw [fit ⟨by omega,by omega⟩]; omega
   obtain ⟨b2,o2,hA2,hc2⟩:=Reads.fact (hrK.ext e2) hm
   refine brE_mk (fun hbf => ?_) (fun hbt => ?_)
   ·have hbf:b = false:=by simpa using hbf
    rw [<-hbv,hbf,if_neg (by decide)] at hb
    refine ⟨m,b2,o2,by omega,hm,hA2,?_⟩
    refine ⟨K[m].cells,rfl,hc2,?_⟩
    intro g w4 h4
    have ho4:w4.ownsRow w1.heap.size 55 9 (.slice Aa acc.length ca) acc.length (fcells acc):=ownsRow_ext ho h4.ext
    refine ⟨rfl,rfl,rfl,w1.heap.size,_,_,K[m].cells,ho4,(e2.trans h4.ext).size,Nat.le_of_ble_eq_true rfl,rfl,rfl,.inr ⟨g,0,rfl,Rd.of_block h4.here⟩,rfl,rfl,by omega,by simp only [maxLen]; omega,?_⟩
    intro v5 w5 ho5 hg5 _
    refine ⟨_,next,?_⟩
    refine ⟨(m,v5,acc ++ [K[m]]),⟨rfl,rfl,rfl,trivial⟩,⟨by show m <= K.length; omega,app_ext (e2.trans h4.ext) ho4 hg5,?_,hb,by show (acc ++ [K[m]]).length + m <= K.length; simp; omega⟩,by show m < m + 1; omega⟩
    show w5.ownsRow _ _ _ v5 (acc ++ [K[m]]).length (fcells (acc ++ [K[m]]))
    rw [fcells_append,fcells_one,List.length_append]
    exact ho5
   ·have hbt:b = true:=by simpa using hbt
    rw [<-hbv,hbt,if_pos rfl] at hb
    refine ⟨_,next,?_⟩
    exact ⟨(m,_,acc),⟨rfl,rfl,rfl,trivial⟩,⟨by show m <= K.length; omega,e2,ho,hb,by show acc.length + m <= K.length; omega⟩,by show m < m + 1; omega⟩
 ·have:n = 0:=by have:¬ (n:Int) - 1 >= 0:=hlt; omega
  subst this
  have hb:backL [] K.reverse = acc:=hb
  rw [hb]
  obtain ⟨Aa,ca,rfl,hra,_⟩:=ho.slice
  refine ⟨(acc.length:Int) - 1,fit ⟨by omega,by omega⟩,?_⟩
  have e12:=e1.trans e2
  refine loopE C_ok (fun (s:Nat × Value) => [(6,.slice Aa acc.length ca),(10,s.2),(11,.int .i64 ((s.1:Int) - 1))])
   (fun s w' => s.1 <= acc.length ∧ Ext w2 w' ∧ NewF w2.heap.size w' s.2 (acc.drop s.1).reverse) (fun s => s.1) (acc.length,.slice none 0 0)
   ⟨rfl,rfl,rfl,trivial⟩ ⟨Nat.le_refl _,Ext.refl _,by rw [List.drop_length]; exact newF_nil _ _⟩ ?_
  rintro ⟨n,v⟩ w3 ⟨hn',e3,ho3'⟩
  have hn:n <= acc.length:=hn'
  have ho3:NewF w2.heap.size w3 v (acc.drop n).reverse:=ho3'
  clear hn' ho3'
  refine brE_dec (fun hge => ?_) (fun hlt => ?_)
  ·have hge:(n:Int) - 1 >= 0:=hge
   obtain ⟨m,rfl⟩:∃ m,n = m + 1:=⟨n - 1,by omega⟩
   have hm:m < acc.length:=by omega
   have next:IntKind.i64.wrap ((((m + 1:Nat):Int) - 1) - 1) = (m:Int) - 1:=by rw [fit ⟨by omega,by omega⟩]; omega
   obtain ⟨b1,o1,hA1,hc1⟩:=Reads.fact (hra.ext e3) hm
   have hdl:(acc.drop (m + 1)).reverse.length <= acc.length:=by simp
   refine ⟨m,b1,o1,by omega,hm,hA1,?_⟩
   refine ⟨acc[m].cells,rfl,hc1,?_⟩
   intro g w4 h4
   have ho4:w4.ownsRow w2.heap.size 55 9 v (acc.drop (m + 1)).reverse.length (fcells (acc.drop (m + 1)).reverse):=ownsRow_ext ho3 h4.ext
   refine ⟨rfl,rfl,rfl,w2.heap.size,_,_,acc[m].cells,ho4,(e3.trans h4.ext).size,Nat.le_of_ble_eq_true rfl,rfl,rfl,.inr ⟨g,0,rfl,Rd.of_block h4.here⟩,rfl,rfl,by omega,by simp only [maxLen]; omega,?_⟩
   intro v5 w5 ho5 hg5 _
   refine ⟨_,next,?_⟩
   refine ⟨(m,v5),⟨rfl,rfl,rfl,trivial⟩,⟨by show m <= acc.length; omega,app_ext (e3.trans h4.ext) ho4 hg5,?_⟩,by show m < m + 1; omega⟩
   show w5.ownsRow _ _ _ v5 (acc.drop m).reverse.length (fcells (acc.drop m).reverse)
   rw [List.drop_eq_getElem_cons hm,List.reverse_cons,fcells_append,fcells_one,List.length_append]
   exact ho5
  ·have:n = 0:=by have:¬ (n:Int) - 1 >= 0:=hlt; omega
   subst this
   exact ⟨NewF.base ho3 e12.size,e12.trans e3⟩
theorem refAt_spec {w:World} {A:Option Addr} {l:List Fact} {c:Nat} (h:HF w A l c) (hl:l.length <= 2 ^ 20) (k day:Int) :
  CallsV C.P 143 #[.slice A l.length c,.int .i64 k,.int .i64 day] w fun v w' => NewF w.heap.size w' v (atL k day l) ∧ Ext w w':=by
 refine callsV_of C_ok (args:=[_,_,_]) (plans:=[]) Tryz.func143 rfl Tryz.ntmps143 (by kernel_rfl) (Nat.le_of_ble_eq_true rfl) ?_
 refine (refCounting_spec h hl k).mono ?_
 rintro v w1 ⟨hK,e1⟩
 have hcl:=countL_length k l
 have hat:atL k day l = (countL k l).filter fun x => !decide (x.kind = 11) && holdsB day x:=rfl
 rw [hat]
 clear hat
 generalize countL k l = K at *
 obtain ⟨AK,cK,rfl,hrK,_⟩:=hK.slice
 refine loopE C_ok (fun (s:Nat × Value) => [(2,.int .i64 day),(7,.slice AK K.length cK),(8,s.2),(9,.int .i64 s.1)])
  (fun s w' => s.1 <= K.length ∧ Ext w1 w' ∧ NewF w1.heap.size w' s.2 ((K.take s.1).filter fun x => !decide (x.kind = 11) && holdsB day x)) (fun s => K.length - s.1) (0,.slice none 0 0)
  ⟨rfl,rfl,rfl,rfl,trivial⟩ ⟨Nat.zero_le _,Ext.refl _,newF_nil _ _⟩ ?_
 rintro ⟨i,v⟩ w2 ⟨hi',e2,ho'⟩
 have hi:i <= K.length:=hi'
 have ho:NewF w1.heap.size w2 v ((K.take i).filter fun x => !decide (x.kind = 11) && holdsB day x):=ho'
 clear hi' ho'
 refine brE_dec (fun hlt => ?_) (fun hge => ?_)
 ·have hlt:i < K.length:=by have:(i:Int) < (K.length:Nat):=hlt; omega
  have next:IntKind.i64.wrap ((i:Int) + 1) = ((i + 1:Nat):Int):=fit ⟨by omega,by omega⟩
  have hfl:((K.take i).filter fun x => !decide (x.kind = 11) && holdsB day x).length <= K.length:=Nat.le_trans (List.length_filter_le _ _) (by rw [List.length_take]; omega)
  have hft:(K.take (i + 1)).filter (fun x => !decide (x.kind = 11) && holdsB day x) = (K.take i).filter (fun x => !decide (x.kind = 11) && holdsB day x) ++ if (!decide (K[i].kind = 11) && holdsB day K[i]) = true then [K[i]] else []:=by
   rw [List.take_succ_eq_append_getElem hlt,List.filter_append]
   congr 1
   rw [List.filter_cons,List.filter_nil]
  obtain ⟨b1,o1,hA1,hc1⟩:=Reads.fact (hrK.ext e2) hlt
  refine ⟨i,b1,o1,rfl,hlt,hA1,?_⟩
  refine ⟨K[i].cells,rfl,hc1,?_⟩
  refine (refHolds_spec K[i] day w2).mono ?_
  rintro v3 w3 ⟨rfl,e3⟩
  have e23:=e2.trans e3
  obtain ⟨b2,o2,hA2,hc2⟩:=Reads.fact (hrK.ext e23) hlt
  refine ⟨i,b2,o2,rfl,hlt,hA2,?_⟩
  refine ⟨.int .u8 K[i].kind,hc2 2 _ rfl,?_⟩
  have ho3:=NewF.ext ho e3
  have miss:(!decide (K[i].kind = 11) && holdsB day K[i]) = false -> i + 1 <= K.length ∧ Ext w1 w3 ∧ NewF w1.heap.size w3 v ((K.take (i + 1)).filter fun x => !decide (x.kind = 11) && holdsB day x):=fun hf => by
   rw [hft,hf,if_neg (by decide),List.append_nil]
   exact ⟨hlt,e23,ho3⟩
  refine brE_ndec (fun hk => ?_) (fun hk => ?_)
  ·have hk:¬ K[i].kind = 11:=hk
   refine brE_mk (fun hh => ?_) (fun hh => ?_)
   ·rw [decide_eq_false hk,hh,if_pos (show (!false && true) = true from rfl)] at hft
    refine ⟨i,b2,o2,rfl,hlt,hA2,?_⟩
    refine ⟨K[i].cells,rfl,hc2,?_⟩
    intro g w4 h4
    have ho4:w4.ownsRow w1.heap.size 55 9 v _ _:=ownsRow_ext ho3 h4.ext
    refine ⟨rfl,rfl,rfl,w1.heap.size,_,_,K[i].cells,ho4,(e23.trans h4.ext).size,Nat.le_of_ble_eq_true rfl,rfl,rfl,.inr ⟨g,0,rfl,Rd.of_block h4.here⟩,rfl,rfl,by omega,by simp only [maxLen]; omega,?_⟩
    intro v5 w5 ho5 hg5 _
    refine ⟨_,next,?_⟩
    refine ⟨(i + 1,v5),⟨rfl,rfl,rfl,rfl,trivial⟩,⟨hlt,app_ext (e23.trans h4.ext) ho4 hg5,?_⟩,by show K.length - (i + 1) < K.length - i; omega⟩
    show NewF w1.heap.size w5 v5 ((K.take (i + 1)).filter fun x => !decide (x.kind = 11) && holdsB day x)
    rw [hft]
    unfold NewF
    rw [fcells_append,fcells_one,List.length_append]
    exact ho5
   ·refine ⟨_,next,?_⟩
    exact ⟨(i + 1,v),⟨rfl,rfl,rfl,rfl,trivial⟩,miss (by rw [hh,Bool.and_false]),by show K.length - (i + 1) < K.length - i; omega⟩
  ·have hk:K[i].kind = 11:=hk
   refine ⟨_,next,?_⟩
   exact ⟨(i + 1,v),⟨rfl,rfl,rfl,rfl,trivial⟩,miss (by rw [decide_eq_true hk]; rfl),by show K.length - (i + 1) < K.length - i; omega⟩
 ·have:i = K.length:=by have:¬ (i:Int) < (K.length:Nat):=hge; omega
  subst this
  rw [List.take_length] at ho
  exact ⟨ho.base e1.size,e1.trans e2⟩
end Go.Proofs.YtdpdjcopkehdjaaGreat
namespace Go.Proofs.YtdpdjcopkehdjaaGreat
open Go.Eng Go.RowKit
def lastP (p:Fact -> Bool) (c:List Fact):Option Fact:=(c.filter p).getLast?
theorem lastP_snoc (p:Fact -> Bool) (c:List Fact) (x:Fact):lastP p (c ++ [x]) = if p x = true then some x else lastP p c:=by
 unfold lastP
 rw [List.filter_append,List.filter_cons,List.filter_nil]
 by_cases h:p x = true
 ·rw [if_pos h,if_pos h,List.getLast?_append]; rfl
 ·rw [if_neg h,if_neg h,List.append_nil]
theorem lastP_take {p:Fact -> Bool} {c:List Fact} {i:Nat} (hi:i < c.length):lastP p (c.take (i + 1)) = if p c[i] = true then some c[i] else lastP p (c.take i):=by
 rw [List.take_succ_eq_append_getElem hi,lastP_snoc]
theorem lastP_some {p:Fact -> Bool} {c:List Fact} {x:Fact} (h:lastP p c = some x):x ∈ c ∧ p x = true:=by
 have:=List.mem_of_getLast? h
 exact ⟨(List.mem_filter.1 this).1,(List.mem_filter.1 this).2⟩
def deathB (n:Int) (x:Fact):Bool:=decide (x.kind = 10 ∧ x.who = n)
def deadB (c:List Fact) (n:Int):Bool:=c.any (deathB n)
def livesB (c:List Fact) (k s cl:Int) (x:Fact):Bool:=decide (x.kind = k ∧ x.what = s ∧ x.other = cl) && !deadB c x.who
def livingL (c:List Fact) (k s cl:Int):List Int:=sortD ((c.filter (livesB c k s cl)).map Fact.who)
def isNm (s lang:Int) (x:Fact):Bool:=decide (x.kind = 1 ∧ x.who = s ∧ x.other = lang)
def nameL (c:List Fact) (s lang:Int):ByteArray:=((lastP (isNm s lang) c).getD factZ).name
def statesL (c:List Fact):List Int:=sortD (whos c)
def mournB (s:Int) (x:Fact):Bool:=decide (x.kind = 7 ∧ x.who = s)
def recogB (host s p:Int) (x:Fact):Bool:=decide (x.kind = 4 ∧ x.who = host ∧ x.what = s ∧ x.other = p)
def chosenL (c:List Fact) (host s:Int):List Int:=if 1 < (livingL c 2 s 1).length then (livingL c 2 s 1).filter fun p => c.any (recogB host s p) else livingL c 2 s 1
def recogL (c:List Fact) (host s:Int):Int × Bool:=match chosenL c host s with
 | [p] => (p,true)
 | _ => (0,false)
def heldB (c:List Fact) (host p s cl:Int):Bool:=if cl = 1 then decide (recogL c host s = (p,true)) else decide (p ∈ livingL c 2 s cl)
def actsB (c:List Fact) (p s cl:Int):Bool:=decide (p ∈ livingL c 3 s cl)
def classAt (c:List Fact) (host p s:Int):List Int -> Int × Bool
 | [] => (5,false)
 | cl :: r => if (heldB c host p s cl || actsB c p s cl) = true then (cl,!heldB c host p s cl) else classAt c host p s r
def classL (c:List Fact) (host p s:Int):Int × Bool:=classAt c host p s [1,2,3,4]
def credB (p s:Int) (x:Fact):Bool:=decide (x.kind = 5 ∧ x.who = p ∧ x.what = s)
def credL (c:List Fact) (p s:Int):Int:=match lastP (credB p s) c with
 | some x => x.since
 | none => 100001
def visitB (p s:Int) (x:Fact):Bool:=decide (x.kind = 8 ∧ x.who = p ∧ x.what = s)
def visitAt (p s:Int):Int × Bool -> List Fact -> Int × Bool
 | a,[] => a
 | a,x :: r => visitAt p s (if (visitB p s x && (!a.2 || decide (x.other < a.1))) = true then (x.other,true) else a) r
def visitL (c:List Fact) (p s:Int):Int:=(visitAt p s (0,false) c).1
theorem visitAt_snoc (p s:Int) (x:Fact):∀ (c:List Fact) (a:Int × Bool),visitAt p s a (c ++ [x]) = if (visitB p s x && (!(visitAt p s a c).2 || decide (x.other < (visitAt p s a c).1))) = true then (x.other,true) else visitAt p s a c
 | [],a => rfl
 | y :: r,a => visitAt_snoc p s x r _
def marriedB (p:Int) (x:Fact):Bool:=decide (x.kind = 6 ∧ (x.who = p ∨ x.other = p))
def spouseL (c:List Fact) (p:Int):Int × Bool:=match lastP (marriedB p) c with
 | none => (0,false)
 | some x => if (deadB c x.who || deadB c x.other) = true then (0,false) else if x.who = p then (x.other,true) else (x.who,true)
def deputyB (p:Int) (x:Fact):Bool:=decide (x.kind = 9 ∧ x.who = p)
def nextL (c:List Fact) (p:Int):Option Int:=(lastP (deputyB p) c).map Fact.other
def princAt (c:List Fact):Nat -> List Int -> Int -> Int × Bool
 | 0,_,_ => (0,false)
 | n + 1,met,at_ => if at_ ∈ met then (0,false) else match nextL c at_ with
  | none => if met.length = 0 then (0,false) else (at_,true)
  | some q => princAt c n (met ++ [at_]) q
def princL (c:List Fact) (p:Int):Int × Bool:=princAt c (c.length + 2) [] p
end Go.Proofs.YtdpdjcopkehdjaaGreat
namespace Go.Proofs.YtdpdjcopkehdjaaGreat
open Go.Eng Go.RowKit
structure Opn where
 kind:Int
 x:Entry
deriving DecidableEq
def opnZ:Opn:=⟨0,entryZ⟩
instance:Inhabited Opn:=⟨opnZ⟩
def rateE (day c n:Int):Entry:=⟨1,day,waivZ,giftZ,c,0,n⟩
def ceilE (day s n:Int):Entry:=⟨2,day,waivZ,giftZ,s,0,n⟩
def grantE (es:List Entry) (w:Waiv):Entry:=⟨3,w.day,{ w with id:=(((waivL es).length + 1:Nat):Int) },giftZ,0,0,0⟩
def endE (day id:Int):Entry:=⟨4,day,{ waivZ with id:=id },giftZ,0,0,0⟩
def offerE (es:List Entry) (day frm to cur n returns:Int):Entry:=⟨5,day,waivZ,⟨(((giftL es).length + 1:Nat):Int),day,frm,to,cur,n,0,0,0,returns⟩,0,0,0⟩
def takeE (day id:Int):Entry:=⟨6,day,waivZ,{ giftZ with id:=id },0,0,0⟩
def refuseE (day id:Int):Entry:=⟨7,day,waivZ,{ giftZ with id:=id },0,0,0⟩
def opK (o:Opn):Int:=o.kind % 8
def opE (es:List Entry) (o:Opn):Entry :=
 if opK o = 1 then grantE es o.x.w else if opK o = 2 then offerE es o.x.day o.x.g.frm o.x.g.to o.x.g.cur o.x.g.n o.x.g.returns else if opK o = 3 then rateE o.x.day o.x.g.cur o.x.n
 else if opK o = 4 then ceilE o.x.day o.x.a o.x.n else if opK o = 5 then endE o.x.day o.x.w.id else if opK o = 6 then takeE o.x.day o.x.g.id else if opK o = 7 then refuseE o.x.day o.x.g.id else o.x
structure Guest where
 person:Int
 state:Int
deriving DecidableEq
def guestZ:Guest:=⟨0,0⟩
instance:Inhabited Guest:=⟨guestZ⟩
def coversB (w:Waiv) (u o:Guest):Bool:=decide (w.giver = u.state) && (decide (w.taker = o.state) && ((decide (w.under = 0) || decide (w.under = u.person)) && (decide (w.over = 0) || decide (w.over = o.person))))
structure IPair where
 a:Int
 b:Int
deriving DecidableEq
def pairZ:IPair:=⟨0,0⟩
instance:Inhabited IPair:=⟨pairZ⟩
def rowPairs (ws:List Waiv) (g:List Guest) (a:Nat):List IPair:=(List.range g.length).flatMap fun b => if ws.any (fun w => coversB w (g.getD a guestZ) (g.getD b guestZ)) = true then [⟨(a:Int),(b:Int)⟩] else []
def pairsL (ws:List Waiv) (g:List Guest):List IPair:=(List.range g.length).flatMap fun a => rowPairs ws g a
end Go.Proofs.YtdpdjcopkehdjaaGreat
namespace Go.Eng
open Go.RowKit
theorem splice_in {a e b vs:List Value} {c:Nat} (hc:c + vs.length <= e.length):splice (a ++ (e ++ b)) (a.length + c) vs = a ++ (splice e c vs ++ b):=by
 unfold splice
 have h1:(a ++ (e ++ b)).take (a.length + c) = a ++ e.take c:=by
  rw [List.take_append,List.take_of_length_le (by omega),show a.length + c - a.length = c by omega,List.take_append_of_le_length (by omega)]
 have h2:(a ++ (e ++ b)).drop (a.length + c + vs.length) = e.drop (c + vs.length) ++ b:=by
  rw [List.drop_append,List.drop_eq_nil_of_le (by omega),show a.length + c + vs.length - a.length = c + vs.length by omega,List.drop_append_of_le_length (by omega),List.nil_append]
 rw [h1,h2]
 simp
theorem flat_field {α:Type} {enc:α -> List Value} {k:Nat} (hk:∀ x,(enc x).length = k) {l:List α} {i:Nat} (hi:i < l.length) {y:α} {c:Nat} {vs:List Value} (h:splice (enc l[i]) c vs = enc y) (hc:c + vs.length <= k) :
  splice (l.flatMap enc) (i * k + c) vs = (l.set i y).flatMap enc:=by
 have e1:l.flatMap enc = (l.take i).flatMap enc ++ (enc l[i] ++ (l.drop (i + 1)).flatMap enc):=by
  conv => lhs; rw [<-List.take_append_drop i l,List.drop_eq_getElem_cons hi]
  rw [List.flatMap_append,List.flatMap_cons]
 have hl:((l.take i).flatMap enc).length = i * k:=by
  have:∀ m:List α,(m.flatMap enc).length = m.length * k:=by
   intro m
   induction m with
   | nil => simp
   | cons x r ih => rw [List.flatMap_cons,List.length_append,hk,ih,List.length_cons,Nat.add_mul,Nat.one_mul,Nat.add_comm]
  rw [this,List.length_take,Nat.min_eq_left (Nat.le_of_lt hi)]
 have e2:(l.set i y).flatMap enc = (l.take i).flatMap enc ++ (enc y ++ (l.drop (i + 1)).flatMap enc):=by
  rw [List.set_eq_take_append_cons_drop,if_pos hi,List.flatMap_append,List.flatMap_cons]
 rw [e1,e2,<-hl,splice_in (by rw [hk]; exact hc),h]
end Go.Eng
namespace Go.Proofs.YtdpdjcopkehdjaaGreat
open Go.Eng Go.RowKit
theorem part_agg {t:Nat} {ti:TI} (ht:C.ti t = some ti) (ha:ti.d.agg = true) (i:Nat) (cs:Array Value) (w:World):(part t cs i).run C.P w = .ok (.agg (cs.extract i (i + ti.size))) w:=by
 have h1:=(C_ok.ti ht).run_agg
 have h2:=(C_ok.ti ht).run_size
 simp [part,h1,h2,ha]
structure HL {α:Type} (enc:α -> List Value) (w:World) (A:Option Addr) (l:List α) (c:Nat):Prop where
 reads:Reads w A (l.flatMap enc)
 len:l.length <= c
 cap:l.length <= 9223372036854775807
theorem HL.ext {α:Type} {enc:α -> List Value} {w w':World} {A:Option Addr} {l:List α} {c:Nat} (h:HL enc w A l c) (e:Ext w w'):HL enc w' A l c:=⟨h.reads.ext e,h.len,h.cap⟩
def NewL {α:Type} (enc:α -> List Value) (T k:Nat) (B:Nat) (w:World) (v:Value) (l:List α):Prop:=w.ownsRow B T k v l.length (l.flatMap enc)
theorem NewL.base {α:Type} {enc:α -> List Value} {T k B B':Nat} {w:World} {v:Value} {l:List α} (h:NewL enc T k B' w v l) (hb:B <= B'):NewL enc T k B w v l:=ownsRow_base h hb
theorem NewL.ext {α:Type} {enc:α -> List Value} {T k B:Nat} {w w':World} {v:Value} {l:List α} (h:NewL enc T k B w v l) (e:Ext w w'):NewL enc T k B w' v l:=ownsRow_ext h e
theorem newL_nil {α:Type} {enc:α -> List Value} {T k B:Nat} {w:World}:NewL enc T k B w (.slice none 0 0) ([]:List α):=World.ownsRow_nil _ _ _ _
theorem NewL.hl {α:Type} {enc:α -> List Value} {T k B:Nat} {w:World} {v:Value} {l:List α} (h:NewL enc T k B w v l):∃ A c,v = .slice A l.length c ∧ HL enc w A l c:=by
 obtain ⟨A,c,rfl,hr,hc⟩:=reads_of_owns h
 exact ⟨A,c,rfl,hr,hc,ownsRow_len h⟩
theorem HL.at {α:Type} {enc:α -> List Value} {w:World} {A:Option Addr} {l:List α} {c k:Nat} (h:HL enc w A l c) (hk:∀ x,(enc x).length = k) (k0:0 < k) {i:Nat} (hi:i < l.length):∃ b o,A = some ⟨b,o,none⟩ ∧ Rd w b (o + i * k) (enc l[i]):=Reads.elem hk k0 h.reads hi
end Go.Proofs.YtdpdjcopkehdjaaGreat
namespace Go.Proofs.YtdpdjcopkehdjaaGreat.Rk
open Go.Eng Go.RowKit
structure Prof where
 cls:Int
 visit:Int
 host:Bool
 dep:Bool
 mourn:Bool
 cred:Int
 letter:Int
deriving DecidableEq
def profZ:Prof:=⟨0,0,false,false,false,0,0⟩
instance:Inhabited Prof:=⟨profZ⟩
def Prof.cells (p:Prof):List Value:=[.int .i64 p.cls,.int .i64 p.visit,.bool p.host,.bool p.dep,.bool p.mourn,.int .i64 p.cred,.int .i64 p.letter]
def Prof.val (p:Prof):Value:=.agg p.cells.toArray
structure Cause where
 a:Int
 b:Int
 own:Prof
 other:Prof
 rule:Int
 name:ByteArray
 waived:Bool
deriving DecidableEq
def causeZ:Cause:=⟨0,0,profZ,profZ,0,⟨#[]⟩,false⟩
instance:Inhabited Cause:=⟨causeZ⟩
def Cause.cells (p:Cause):List Value:=.int .i64 p.a :: .int .i64 p.b :: (p.own.cells ++ (p.other.cells ++ [.int .i64 p.rule,.string p.name,.bool p.waived]))
def Cause.val (p:Cause):Value:=.agg p.cells.toArray
theorem eqBoo_run {P:Program} {t:Nat} (hu:P.underlying t = some .bool) (w:World) (d:Nat) (a b:Bool):(Op.equalIn (d + 1) t (.bool a) (.bool b)).run P w = .ok (decide (a = b)) w:=by
 simp only [Op.equalIn,Sem.run_bind,run_underlying hu,Result.andThen_ok,if_true,Sem.run_pure]
 cases a <;> cases b <;> rfl
theorem fieldsPf:Tryz.prog.fieldsOf 38 = #[⟨ "Class",3,0,false, "", "",0⟩,⟨ "Visit",3,1,false, "", "",8⟩,⟨ "Host",4,2,false, "", "",16⟩,⟨ "Deputy",4,3,false, "", "",17⟩,⟨ "Mourning",4,4,false, "", "",18⟩,⟨ "Cred",3,5,false, "", "",24⟩,⟨ "Letter",3,6,false, "", "",32⟩]:=by kernel_rfl
theorem underPf:Tryz.prog.underlying 38 = some (.struct #[⟨ "Class",3,0,false, "", "",0⟩,⟨ "Visit",3,1,false, "", "",8⟩,⟨ "Host",4,2,false, "", "",16⟩,⟨ "Deputy",4,3,false, "", "",17⟩,⟨ "Mourning",4,4,false, "", "",18⟩,⟨ "Cred",3,5,false, "", "",24⟩,⟨ "Letter",3,6,false, "", "",32⟩]):=by kernel_rfl
def samePf (p q:Prof) (o:Nat):Bool:=match o with
 | 0 => decide (p.cls = q.cls)
 | 1 => decide (p.visit = q.visit)
 | 2 => decide (p.host = q.host)
 | 3 => decide (p.dep = q.dep)
 | 4 => decide (p.mourn = q.mourn)
 | 5 => decide (p.cred = q.cred)
 | _ => decide (p.letter = q.letter)
set_option maxRecDepth 10000 in
theorem eqInPf (d:Nat) (p q:Prof) (w:World):(Op.equalIn (d + 2) 38 p.val q.val).run C.P w = .ok (decide (p = q)) w:=by
 have hs:C.P.stoodInHeld 38 = false:=by kernel_rfl
 have hu:C.P.underlying 38 = some (.struct (C.P.fieldsOf 38)):=by show Tryz.prog.underlying _ = some (.struct (Tryz.prog.fieldsOf _)); rw [fieldsPf]; exact underPf
 have h3:C.P.underlying 3 = some (.int .i64):=under3
 have h4:C.P.underlying 4 = some .bool:=under4
 have h9:C.P.underlying 9 = some .string:=under9
 have p3:=part_plain (t:=3) (ti:=ty3) rfl rfl
 have p4:=part_plain (t:=4) (ti:=ty4) rfl rfl
 have p9:=part_plain (t:=9) (ti:=ty9) rfl rfl
 rw [Prof.val,Prof.val,run_equalIn_struct w (d + 1) 38 _ _ hu hs]
 show ((Op.eqFields (d + 1) _ _ (Tryz.prog.fieldsOf 38).toList).run C.P w) = _
 rw [fieldsPf]
 rw [eqFields_run (f:=fun x => samePf p q x.offset)]
 ·obtain ⟨a0,a1,a2,a3,a4,a5,a6⟩:=p
  obtain ⟨b0,b1,b2,b3,b4,b5,b6⟩:=q
  congr 1
  rw [Bool.eq_iff_iff]
  simp [samePf]
 ·intro f hf
  simp only [List.mem_cons,List.not_mem_nil,or_false] at hf
  rcases hf with rfl | rfl | rfl | rfl | rfl | rfl | rfl
  ·exact ⟨by decide,_,_,p3 0 _ (.int .i64 p.cls) w rfl,p3 0 _ (.int .i64 q.cls) w rfl,eqInt_run h3 w (d) .i64 p.cls q.cls⟩
  ·exact ⟨by decide,_,_,p3 1 _ (.int .i64 p.visit) w rfl,p3 1 _ (.int .i64 q.visit) w rfl,eqInt_run h3 w (d) .i64 p.visit q.visit⟩
  ·exact ⟨by decide,_,_,p4 2 _ (.bool p.host) w rfl,p4 2 _ (.bool q.host) w rfl,eqBoo_run h4 w (d) p.host q.host⟩
  ·exact ⟨by decide,_,_,p4 3 _ (.bool p.dep) w rfl,p4 3 _ (.bool q.dep) w rfl,eqBoo_run h4 w (d) p.dep q.dep⟩
  ·exact ⟨by decide,_,_,p4 4 _ (.bool p.mourn) w rfl,p4 4 _ (.bool q.mourn) w rfl,eqBoo_run h4 w (d) p.mourn q.mourn⟩
  ·exact ⟨by decide,_,_,p3 5 _ (.int .i64 p.cred) w rfl,p3 5 _ (.int .i64 q.cred) w rfl,eqInt_run h3 w (d) .i64 p.cred q.cred⟩
  ·exact ⟨by decide,_,_,p3 6 _ (.int .i64 p.letter) w rfl,p3 6 _ (.int .i64 q.letter) w rfl,eqInt_run h3 w (d) .i64 p.letter q.letter⟩
theorem fieldsCa:Tryz.prog.fieldsOf 83 = #[⟨ "A",3,0,false, "", "",0⟩,⟨ "B",3,1,false, "", "",8⟩,⟨ "Own",38,2,false, "", "",16⟩,⟨ "Other",38,9,false, "", "",56⟩,⟨ "Rule",3,16,false, "", "",96⟩,⟨ "Name",9,17,false, "", "",104⟩,⟨ "Waived",4,18,false, "", "",120⟩]:=by kernel_rfl
theorem underCa:Tryz.prog.underlying 83 = some (.struct #[⟨ "A",3,0,false, "", "",0⟩,⟨ "B",3,1,false, "", "",8⟩,⟨ "Own",38,2,false, "", "",16⟩,⟨ "Other",38,9,false, "", "",56⟩,⟨ "Rule",3,16,false, "", "",96⟩,⟨ "Name",9,17,false, "", "",104⟩,⟨ "Waived",4,18,false, "", "",120⟩]):=by kernel_rfl
def sameCa (p q:Cause) (o:Nat):Bool:=match o with
 | 0 => decide (p.a = q.a)
 | 1 => decide (p.b = q.b)
 | 2 => decide (p.own = q.own)
 | 9 => decide (p.other = q.other)
 | 16 => decide (p.rule = q.rule)
 | 17 => decide (p.name = q.name)
 | _ => decide (p.waived = q.waived)
set_option maxRecDepth 10000 in
theorem eqInCa (d:Nat) (p q:Cause) (w:World):(Op.equalIn (d + 3) 83 p.val q.val).run C.P w = .ok (decide (p = q)) w:=by
 have hs:C.P.stoodInHeld 83 = false:=by kernel_rfl
 have hu:C.P.underlying 83 = some (.struct (C.P.fieldsOf 83)):=by show Tryz.prog.underlying _ = some (.struct (Tryz.prog.fieldsOf _)); rw [fieldsCa]; exact underCa
 have h3:C.P.underlying 3 = some (.int .i64):=under3
 have h4:C.P.underlying 4 = some .bool:=under4
 have h9:C.P.underlying 9 = some .string:=under9
 have p3:=part_plain (t:=3) (ti:=ty3) rfl rfl
 have p4:=part_plain (t:=4) (ti:=ty4) rfl rfl
 have p9:=part_plain (t:=9) (ti:=ty9) rfl rfl
 rw [Cause.val,Cause.val,run_equalIn_struct w (d + 2) 83 _ _ hu hs]
 show ((Op.eqFields (d + 2) _ _ (Tryz.prog.fieldsOf 83).toList).run C.P w) = _
 rw [fieldsCa]
 rw [eqFields_run (f:=fun x => sameCa p q x.offset)]
 ·obtain ⟨a0,a1,a2,a3,a4,a5,a6⟩:=p
  obtain ⟨b0,b1,b2,b3,b4,b5,b6⟩:=q
  congr 1
  rw [Bool.eq_iff_iff]
  simp [sameCa]
 ·intro f hf
  simp only [List.mem_cons,List.not_mem_nil,or_false] at hf
  rcases hf with rfl | rfl | rfl | rfl | rfl | rfl | rfl
  ·exact ⟨by decide,_,_,p3 0 _ (.int .i64 p.a) w rfl,p3 0 _ (.int .i64 q.a) w rfl,eqInt_run h3 w (d + 1) .i64 p.a q.a⟩
  ·exact ⟨by decide,_,_,p3 1 _ (.int .i64 p.b) w rfl,p3 1 _ (.int .i64 q.b) w rfl,eqInt_run h3 w (d + 1) .i64 p.b q.b⟩
  ·exact ⟨by decide,p.own.val,q.own.val,part_agg (ti:=ty38) rfl rfl 2 _ w,part_agg (ti:=ty38) rfl rfl 2 _ w,eqInPf d p.own q.own w⟩
  ·exact ⟨by decide,p.other.val,q.other.val,part_agg (ti:=ty38) rfl rfl 9 _ w,part_agg (ti:=ty38) rfl rfl 9 _ w,eqInPf d p.other q.other w⟩
  ·exact ⟨by decide,_,_,p3 16 _ (.int .i64 p.rule) w rfl,p3 16 _ (.int .i64 q.rule) w rfl,eqInt_run h3 w (d + 1) .i64 p.rule q.rule⟩
  ·exact ⟨by decide,_,_,p9 17 _ (.string p.name) w rfl,p9 17 _ (.string q.name) w rfl,eqStr_run h9 w (d + 1) p.name q.name⟩
  ·exact ⟨by decide,_,_,p4 18 _ (.bool p.waived) w rfl,p4 18 _ (.bool q.waived) w rfl,eqBoo_run h4 w (d + 1) p.waived q.waived⟩
theorem neqCa (x y:Operand) (p q:Cause):EqIs C.P .neq 83 x y p.val q.val (!decide (p = q)):=by
 intro w
 have hm:C.P.eqGuardType C.P.depth 83 = false:=by kernel_rfl
 rw [Sem.run_bind,Cause.val,Cause.val,run_eqGuard_agg w .neq 83 x y _ _ hm]
 simp only [Result.andThen_ok]
 rw [run_neq_struct]
 have:=eqInCa 9997 p q w
 rw [Cause.val,Cause.val] at this
 rw [this]
 rfl
end Go.Proofs.YtdpdjcopkehdjaaGreat.Rk
