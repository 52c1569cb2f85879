/- a part of the proof: steps, walks and plain laws that the law below stands on; no condition. -/
import Derived.Test.YtcnbpfecgokhiaaGreatDoorDTb
import Derived.Test.YtcnbpfecgokhiaaGreatDoorDEc
set_option linter.unusedVariables false
set_option linter.unusedSimpArgs false
set_option linter.unnecessarySimpa false
set_option linter.unusedSectionVars false
namespace Go.Eng
open Go.RowKit

/-- The numbers of Go that fit. -/
abbrev In64 (n : Int) : Prop := -9223372036854775808 ≤ n ∧ n ≤ 9223372036854775807
theorem fit {n : Int} (h : In64 n) : IntKind.i64.wrap n = n := IntWalk.i64_in n h
theorem wf64 {a : Int} (h : In64 a) : (Lit.int .i64 a).wf = true := by
  simp [Lit.wf, IntKind.min, IntKind.max, IntKind.bits, IntKind.signed]
  omega
theorem wf_in64 {a : Int} (h : (Lit.int .i64 a).wf = true) : In64 a := by
  simp [Lit.wf, IntKind.min, IntKind.max, IntKind.bits, IntKind.signed] at h
  omega

theorem brE_ndec {p : Prop} [Decidable p] {A B : Prop} (t : ¬ p → A) (f : p → B) : brE (!decide p) A B := by
  by_cases h : p
  · rw [decide_eq_true h]; exact f h
  · rw [decide_eq_false h]; exact t h

def ints (xs : List Int) : List Value := xs.map (.int .i64 ·)
theorem ints_append (xs ys : List Int) : ints (xs ++ ys) = ints xs ++ ints ys := by simp [ints]
theorem ints_length (xs : List Int) : (ints xs).length = xs.length := by simp [ints]

theorem Reads.int {w : World} {A : Option Addr} {xs : List Int} (h : Reads w A (ints xs)) {i : Nat} (hi : i < xs.length) : ∃ b o, A = some ⟨b, o, none⟩ ∧ w.cell? ⟨b, o + i, none⟩ = some (.int .i64 xs[i]) := by
  rcases h with h | ⟨b, o, hA, hr⟩
  · have : xs.length = 0 := by have := congrArg List.length h; simpa [ints] using this
    omega
  · exact ⟨b, o, hA, hr i _ (by simp [ints, hi])⟩

/-- One element of a row of elements of k cells. -/
theorem Reads.elem {α : Type} {enc : α → List Value} {k : Nat} (hk : ∀ x, (enc x).length = k) (k0 : 0 < k) {w : World} {A : Option Addr} {l : List α} (h : Reads w A (l.flatMap enc)) {i : Nat} (hi : i < l.length) :
    ∃ b o, A = some ⟨b, o, none⟩ ∧ Rd w b (o + i * k) (enc l[i]) := by
  rcases h with h | ⟨b, o, hA, hr⟩
  · have := congrArg List.length h
    rw [flat_length hk] at this
    have : l.length * k = 0 := this
    rcases Nat.mul_eq_zero.1 this with h | h <;> omega
  · refine ⟨b, o, hA, fun j v hv => ?_⟩
    have hj : j < k := by
      have := (List.getElem?_eq_some_iff.1 hv).1
      rwa [hk] at this
    have := hr _ _ ((flat_get hk l i j hi hj).trans hv)
    rwa [← Nat.add_assoc] at this

theorem own_ne {w : World} {base e size n g : Nat} {v : Value} {xs : List Value} {o : Obj} (h : w.ownsRow base e size v n xs) (hg : w.heap[g]? = some o) (ho : ∀ c fr, o ≠ .cells c e fr) : some g ≠ v.ownBlock := by
  intro e
  obtain ⟨_, hv | ⟨g', cap, cur, hv, _, hg', _⟩⟩ := h
  · rw [hv.1] at e; cases e
  · rw [hv] at e
    have e : g = g' := by simpa [Value.ownBlock] using e
    subst e
    rw [hg] at hg'
    exact ho _ _ (Option.some.inj hg')
theorem ownsRow_len {w : World} {base e size n : Nat} {v : Value} {us : List Value} (h : w.ownsRow base e size v n us) : n ≤ 9223372036854775807 := by
  obtain ⟨_, ⟨_, rfl⟩ | ⟨_, cap, _, _, _, _, h1, h2, _⟩⟩ := h
  · omega
  · simp only [maxLen] at h2; omega
theorem reads_block {w : World} {g t : Nat} {cs : List Value} (h : w.heap[g]? = some (.cells cs.toArray t (0, 0))) : Reads w (some ⟨g, 0, none⟩) cs := .inr ⟨g, 0, rfl, Rd.of_block h⟩

theorem eqFields_run {P : Program} {w : World} {d : Nat} {xs ys : Array Value} {f : Field → Bool} : ∀ {fs : List Field}, (∀ x ∈ fs, x.name ≠ "_" ∧ ∃ u v, (part x.type xs x.offset).run P w = .ok u w ∧ (part x.type ys x.offset).run P w = .ok v w ∧ (Op.equalIn d x.type u v).run P w = .ok (f x) w) →
    (Op.eqFields d xs ys fs).run P w = .ok (fs.all f) w
  | [], _ => by simp [Op.eqFields]
  | x :: r, h => by
    obtain ⟨hn, u, v, h1, h2, h3⟩ := h x (by simp)
    rw [Op.eqFields, if_pos hn]
    simp only [Sem.run_bind, h1, h2, h3, Result.andThen_ok, List.all_cons]
    cases hf : f x with
    | false => simp
    | true => simpa using eqFields_run fun y hy => h y (by simp [hy])

theorem eqInt_run {P : Program} {t : Nat} {k : IntKind} (hu : P.underlying t = some (.int k)) (w : World) (d : Nat) (k' : IntKind) (a b : Int) : (Op.equalIn (d + 1) t (.int k' a) (.int k' b)).run P w = .ok (decide (a = b)) w := by
  simp only [Op.equalIn, Sem.run_bind, run_underlying hu, Result.andThen_ok, if_true, Sem.run_pure]
  congr 1

theorem ba_beq (a b : ByteArray) : (a.toList == b.toList) = decide (a = b) := by
  rw [Bool.eq_iff_iff]
  simp [ByteArray.toList_eq]
  exact ⟨fun h => ByteArray.ext h, fun h => by rw [h]⟩

theorem eqStr_run {P : Program} {t : Nat} (hu : P.underlying t = some .string) (w : World) (d : Nat) (a b : ByteArray) : (Op.equalIn (d + 1) t (.string a) (.string b)).run P w = .ok (decide (a = b)) w := by
  rw [run_equalIn_string w d t a b hu]
  rw [ba_beq]

end Go.Eng

namespace Go.Proofs.YtcnbpfecgokhiaaGreatDoor
open Go.Eng Go.RowKit
open Go.Maps (Keyed)

theorem laidOut : laidOutB Tryz.prog = true := by kernel_rfl
theorem under3 : Tryz.prog.underlying 3 = some (.int .i64) := by kernel_rfl
theorem under4 : Tryz.prog.underlying 4 = some .bool := by kernel_rfl
theorem under5 : Tryz.prog.underlying 5 = some (.int .u8) := by kernel_rfl
theorem under9 : Tryz.prog.underlying 9 = some .string := by kernel_rfl
theorem intK : Keyed C.P 3 := Go.Maps.int_keyed under3
theorem intKey {x : Int} (h : In64 x) : keyOf C.P 3 (.int .i64 x) = some (.int .i64 x) := Go.Maps.keyOf_int_mk under3 (wf64 h)

/-- A row of numbers that the call has made. -/
def NewInts (B : Nat) (w : World) (v : Value) (xs : List Int) : Prop := w.ownsRow B 3 1 v xs.length (ints xs)
theorem NewInts.slice {B : Nat} {w : World} {v : Value} {xs : List Int} (h : NewInts B w v xs) : ∃ A c, v = .slice A xs.length c ∧ Reads w A (ints xs) ∧ xs.length ≤ c := reads_of_owns h
theorem NewInts.base {B B' : Nat} {w : World} {v : Value} {xs : List Int} (h : NewInts B' w v xs) (hb : B ≤ B') : NewInts B w v xs := ownsRow_base h hb
theorem NewInts.ext {B : Nat} {w w' : World} {v : Value} {xs : List Int} (h : NewInts B w v xs) (e : Ext w w') : NewInts B w' v xs := ownsRow_ext h e
theorem newInts_nil (B : Nat) (w : World) : NewInts B w (.slice none 0 0) [] := World.ownsRow_nil _ _ _ _

theorem neqBool (x y : Operand) (a b : Bool) : EqIs C.P .neq 4 x y (.bool a) (.bool b) (a != b) := by
  intro w
  have hu : C.P.underlying 4 = some .bool := under4
  have h1 : (eqGuard .neq 4 x y (.bool a) (.bool b)).run C.P w = .ok () w := by simp [eqGuard]
  rw [Sem.run_bind, h1]
  simp only [Result.andThen_ok]
  have h2 := run_equalIn_bool' (P := C.P) w 9999 4 a b hu
  simp only [binOp]
  simp [Op.equal, Op.maxDepth, h2]
  cases a <;> cases b <;> rfl
theorem eqBool (x y : Operand) (a b : Bool) : EqIs C.P .eql 4 x y (.bool a) (.bool b) (a == b) := by
  intro w
  have hu : C.P.underlying 4 = some .bool := under4
  have h1 : (eqGuard .eql 4 x y (.bool a) (.bool b)).run C.P w = .ok () w := by simp [eqGuard]
  rw [Sem.run_bind, h1]
  simp only [Result.andThen_ok]
  have h2 := run_equalIn_bool' (P := C.P) w 9999 4 a b hu
  simp only [binOp]
  simp [Op.equal, Op.maxDepth, h2]
theorem eqStr (x y : Operand) (a b : ByteArray) : EqIs C.P .eql 9 x y (.string a) (.string b) (decide (a = b)) := by
  intro w
  have h1 : (eqGuard .eql 9 x y (.string a) (.string b)).run C.P w = .ok () w := by simp [eqGuard]
  rw [Sem.run_bind, h1]
  simp only [Result.andThen_ok]
  show (Op.stringOp .eql a b).run C.P w = _
  simp [Op.stringOp, ba_beq]
theorem neqStr (x y : Operand) (a b : ByteArray) : EqIs C.P .neq 9 x y (.string a) (.string b) (!decide (a = b)) := by
  intro w
  have h1 : (eqGuard .neq 9 x y (.string a) (.string b)).run C.P w = .ok () w := by simp [eqGuard]
  rw [Sem.run_bind, h1]
  simp only [Result.andThen_ok]
  show (Op.stringOp .neq a b).run C.P w = _
  simp [Op.stringOp, ba_beq]

end Go.Proofs.YtcnbpfecgokhiaaGreatDoor

namespace Go.Proofs.YtcnbpfecgokhiaaGreatDoor
open Go.Eng Go.RowKit

structure Fact where
  id : Int
  known : Int
  kind : Int
  who : Int
  what : Int
  other : Int
  since : Int
  til : Int
  name : ByteArray
deriving DecidableEq

def factZ : Fact := ⟨0, 0, 0, 0, 0, 0, 0, 0, ⟨#[]⟩⟩
instance : Inhabited Fact := ⟨factZ⟩

def Fact.cells (x : Fact) : List Value := [.int .i64 x.id, .int .i64 x.known, .int .u8 x.kind, .int .i64 x.who, .int .i64 x.what, .int .i64 x.other, .int .i64 x.since, .int .i64 x.til, .string x.name]
def Fact.val (x : Fact) : Value := .agg x.cells.toArray
def fcells (l : List Fact) : List Value := l.flatMap Fact.cells
theorem fcells_append (a b : List Fact) : fcells (a ++ b) = fcells a ++ fcells b := by simp [fcells]
theorem fcells_one (x : Fact) : fcells [x] = x.cells := by simp [fcells]

/-! ### what is known, what counts, what holds -/
def knownL (k : Int) (l : List Fact) : List Fact := l.takeWhile fun x => decide (x.known ≤ k)

def voidedBy (acc : List Fact) (n : Int) : Bool := acc.any fun y => decide (y.kind = 11 ∧ y.what = n)
def backL : List Fact → List Fact → List Fact
  | acc, [] => acc
  | acc, x :: r => if voidedBy acc x.id = true then backL acc r else backL (acc ++ [x]) r
def countL (k : Int) (l : List Fact) : List Fact := (backL [] (knownL k l).reverse).reverse

def holdsB (day : Int) (x : Fact) : Bool := decide (x.since ≤ day ∧ (x.til = 0 ∨ day < x.til))
def atL (k day : Int) (l : List Fact) : List Fact := (countL k l).filter fun x => !decide (x.kind = 11) && holdsB day x

/-! ### rows of numbers, ascending, each once -/
def insD (n : Int) : List Int → List Int
  | [] => [n]
  | x :: r => if n < x then n :: x :: r else if n = x then x :: r else x :: insD n r
def sortD (l : List Int) : List Int := l.foldl (fun acc x => insD x acc) []

theorem mem_insD {n x : Int} : ∀ {l : List Int}, x ∈ insD n l ↔ x = n ∨ x ∈ l
  | [] => by simp [insD]
  | y :: r => by
    unfold insD
    split
    · simp
    · split
      · rename_i h; subst h; simp
      · rw [List.mem_cons, mem_insD (l := r), List.mem_cons]
        constructor
        · rintro (h | h | h)
          · exact .inr (.inl h)
          · exact .inl h
          · exact .inr (.inr h)
        · rintro (h | h | h)
          · exact .inr (.inl h)
          · exact .inl h
          · exact .inr (.inr h)

theorem insD_asc {n : Int} : ∀ {l : List Int}, l.Pairwise (· < ·) → (insD n l).Pairwise (· < ·)
  | [], _ => by simp [insD]
  | y :: r, h => by
    obtain ⟨h1, h2⟩ := List.pairwise_cons.1 h
    unfold insD
    split
    · rename_i hn
      refine List.pairwise_cons.2 ⟨fun a ha => ?_, h⟩
      rcases List.mem_cons.1 ha with rfl | ha
      · exact hn
      · exact Int.lt_trans hn (h1 a ha)
    · split
      · exact h
      · rename_i h3 h4
        refine List.pairwise_cons.2 ⟨fun a ha => ?_, insD_asc h2⟩
        rcases mem_insD.1 ha with rfl | ha
        · omega
        · exact h1 a ha

theorem foldD {l : List Int} : ∀ {acc : List Int}, acc.Pairwise (· < ·) → (l.foldl (fun acc x => insD x acc) acc).Pairwise (· < ·) ∧ ∀ x, x ∈ l.foldl (fun acc x => insD x acc) acc ↔ x ∈ l ∨ x ∈ acc := by
  induction l with
  | nil => intro acc h; exact ⟨h, fun x => by simp⟩
  | cons y r ih =>
    intro acc h
    obtain ⟨h1, h2⟩ := ih (insD_asc (n := y) h)
    refine ⟨h1, fun x => ?_⟩
    rw [List.foldl_cons, h2, mem_insD, List.mem_cons]
    constructor
    · rintro (h | h | h)
      · exact .inl (.inr h)
      · exact .inl (.inl h)
      · exact .inr h
    · rintro ((h | h) | h)
      · exact .inr (.inl h)
      · exact .inl h
      · exact .inr (.inr h)

theorem sortD_asc (l : List Int) : (sortD l).Pairwise (· < ·) := (foldD List.Pairwise.nil).1
theorem mem_sortD {l : List Int} {x : Int} : x ∈ sortD l ↔ x ∈ l := by
  unfold sortD
  rw [(foldD List.Pairwise.nil).2 x]
  simp

/-- Two ascending rows with the same members are one. -/
theorem asc_eq {a b : List Int} (ha : a.Pairwise (· < ·)) (hb : b.Pairwise (· < ·)) (h : ∀ x, x ∈ a ↔ x ∈ b) : a = b := by
  have na : a.Nodup := ha.imp fun h e => by subst e; exact Int.lt_irrefl _ h
  have nb : b.Nodup := hb.imp fun h e => by subst e; exact Int.lt_irrefl _ h
  exact List.Perm.eq_of_pairwise (fun a b _ _ h1 h2 => absurd (Int.lt_trans h1 h2) (Int.lt_irrefl _)) ha hb ((List.perm_ext_iff_of_nodup na nb).2 h)
theorem sortD_eq {a l : List Int} (ha : a.Pairwise (· < ·)) (h : ∀ x, x ∈ a ↔ x ∈ l) : a = sortD l := asc_eq ha (sortD_asc l) fun x => (h x).trans mem_sortD.symm

theorem asc_length {a : List Int} {l : List Int} (ha : a.Pairwise (· < ·)) (h : ∀ x ∈ a, x ∈ l) : a.length ≤ l.length := by
  induction a generalizing l with
  | nil => simp
  | cons x r ih =>
    obtain ⟨h1, h2⟩ := List.pairwise_cons.1 ha
    have hx : x ∈ l := h x (by simp)
    have := ih (l := l.erase x) h2 fun y hy => by
      have hne : y ≠ x := fun e => by subst e; exact Int.lt_irrefl _ (h1 y hy)
      exact (List.mem_erase_of_ne hne).2 (h y (by simp [hy]))
    rw [List.length_erase_of_mem hx] at this
    have hp : 0 < l.length := List.length_pos_of_mem hx
    simp; omega
theorem sortD_length (l : List Int) : (sortD l).length ≤ l.length := asc_length (sortD_asc l) fun _ h => mem_sortD.1 h

end Go.Proofs.YtcnbpfecgokhiaaGreatDoor

namespace Go.Proofs.YtcnbpfecgokhiaaGreatDoor
open Go.Eng Go.RowKit

abbrev idB (n : Int) : Bool := decide (1 ≤ n ∧ n ≤ 1000000)
abbrev dayB (n : Int) : Bool := decide (0 ≤ n ∧ n ≤ 100000)
def chB (c : UInt8) : Bool := decide (97 ≤ c.toNat ∧ c.toNat ≤ 122) || decide (48 ≤ c.toNat ∧ c.toNat ≤ 57) || decide (c.toNat = 32) || decide (c.toNat = 45)
def nameB (s : List UInt8) : Bool := decide (1 ≤ s.length ∧ s.length ≤ 24) && !decide (s.head? = some 32) && !decide (s.getLast? = some 32) && s.all chB

/-- The fields that a kind uses (places of cells), in the order of its line. -/
def offs (k : Int) : List Nat :=
  if k = 1 ∨ k = 6 ∨ k = 9 then [3, 5, 6, 7] else if k = 5 then [3, 4, 6, 7] else if k = 7 then [3, 6, 7] else if k = 10 then [3, 6] else if k = 11 then [4] else [3, 4, 5, 6, 7]

def rightB (x : Fact) : Bool :=
  if x.kind = 1 then idB x.who && decide (1 ≤ x.other ∧ x.other ≤ 3)
  else if x.kind = 2 ∨ x.kind = 3 then idB x.who && idB x.what && decide (1 ≤ x.other ∧ x.other ≤ 4)
  else if x.kind = 4 then idB x.who && idB x.what && idB x.other
  else if x.kind = 5 then idB x.who && idB x.what
  else if x.kind = 6 ∨ x.kind = 9 then idB x.who && idB x.other && !decide (x.who = x.other)
  else if x.kind = 7 then idB x.who
  else if x.kind = 8 then idB x.who && idB x.what && decide (1 ≤ x.other ∧ x.other ≤ 2)
  else if x.kind = 10 then idB x.who
  else if x.kind = 11 then idB x.what && !decide (x.what = x.id)
  else false

/-- What a kind does not use is zero. -/
def restB (x : Fact) : Bool :=
  (decide (3 ∈ offs x.kind) || decide (x.who = 0)) && (decide (4 ∈ offs x.kind) || decide (x.what = 0)) && (decide (5 ∈ offs x.kind) || decide (x.other = 0)) &&
  (decide (6 ∈ offs x.kind) || decide (x.since = 0)) && (decide (7 ∈ offs x.kind) || decide (x.til = 0)) && (decide (x.kind = 1) || decide (x.name = ⟨#[]⟩))

def headB (x : Fact) : Bool := decide (1 ≤ x.kind ∧ x.kind ≤ 11) && idB x.id && dayB x.known && dayB x.since && (decide (x.til = 0) || decide (x.since < x.til ∧ x.til ≤ 100000))

/-- What is wrong with the form of a fact. -/
def formE (x : Fact) : Int := if (headB x && restB x && rightB x) = true then (if x.kind = 1 ∧ nameB x.name.data.toList = false then 4 else 0) else 1

def idIn (l : List Fact) (n : Int) : Bool := l.any fun y => decide (y.id = n)
def namedIn (l : List Fact) (s : Int) : Bool := l.any fun y => decide (y.kind = 1 ∧ y.who = s)
def whos (l : List Fact) : List Int := (l.filter fun y => decide (y.kind = 1)).map Fact.who
def statesN (l : List Fact) : Nat := (sortD (whos l)).length

/-- The states that a fact speaks of. -/
def speaks (x : Fact) : List Int := if x.kind = 2 ∨ x.kind = 3 ∨ x.kind = 5 ∨ x.kind = 8 then [x.what] else if x.kind = 4 then [x.who, x.what] else if x.kind = 7 then [x.who] else []

/-- What is wrong with a fact behind a list. -/
def behindE (l : List Fact) (x : Fact) : Int :=
  if formE x ≠ 0 then formE x
  else if 300 ≤ l.length then 2
  else if l.getLast?.any (fun y => decide (x.known < y.known)) = true then 7
  else if idIn l x.id = true then 6
  else if (speaks x).all (namedIn l) = false then 5
  else if x.kind = 11 ∧ idIn l x.what = false then 5
  else if x.kind = 1 ∧ namedIn l x.who = false ∧ 200 ≤ statesN l then 2
  else 0

/-- The first fact that is refused, and why. -/
def chkG (seen : List Fact) : List Fact → Nat × Int
  | [] => (0, 0)
  | x :: r => if behindE seen x ≠ 0 then (seen.length, behindE seen x) else chkG (seen ++ [x]) r
def chkF (l : List Fact) : Nat × Int := chkG [] l

theorem chkG_at {l : List Fact} {i : Nat} (hi : i < l.length) : chkG (l.take i) (l.drop i) = if behindE (l.take i) l[i] ≠ 0 then (i, behindE (l.take i) l[i]) else chkG (l.take (i + 1)) (l.drop (i + 1)) := by
  rw [List.drop_eq_getElem_cons hi, chkG, List.take_succ_eq_append_getElem hi, List.length_take, Nat.min_eq_left (Nat.le_of_lt hi)]

end Go.Proofs.YtcnbpfecgokhiaaGreatDoor

namespace Go.Proofs.YtcnbpfecgokhiaaGreatDoor
open Go.Eng Go.RowKit

theorem Fact.len (x : Fact) : x.cells.length = 9 := rfl
theorem Reads.fact {w : World} {A : Option Addr} {l : List Fact} (h : Reads w A (fcells l)) {i : Nat} (hi : i < l.length) : ∃ b o, A = some ⟨b, o, none⟩ ∧ Rd w b (o + i * 9) l[i].cells := Reads.elem Fact.len (by omega) h hi
theorem fcells_length (l : List Fact) : (fcells l).length = l.length * 9 := flat_length Fact.len l

structure Fact.Nums (x : Fact) : Prop where
  id : In64 x.id
  known : In64 x.known
  kind : 0 ≤ x.kind ∧ x.kind ≤ 255
  who : In64 x.who
  what : In64 x.what
  other : In64 x.other
  since : In64 x.since
  til : In64 x.til
  name : x.name.size ≤ 9223372036854775807

/-- A list of facts that lies in memory. -/
structure HF (w : World) (A : Option Addr) (l : List Fact) (c : Nat) : Prop where
  nums : ∀ x ∈ l, x.Nums
  reads : Reads w A (fcells l)
  len : l.length ≤ c
  cap : l.length ≤ 9223372036854775807

theorem HF.ext {w w' : World} {A : Option Addr} {l : List Fact} {c : Nat} (h : HF w A l c) (e : Ext w w') : HF w' A l c := ⟨h.nums, h.reads.ext e, h.len, h.cap⟩

/-- A list of facts of one's own. -/
def NewF (B : Nat) (w : World) (v : Value) (l : List Fact) : Prop := w.ownsRow B 81 9 v l.length (fcells l)
theorem NewF.base {B B' : Nat} {w : World} {v : Value} {l : List Fact} (h : NewF B' w v l) (hb : B ≤ B') : NewF B w v l := ownsRow_base h hb
theorem NewF.ext {B : Nat} {w w' : World} {v : Value} {l : List Fact} (h : NewF B w v l) (e : Ext w w') : NewF B w' v l := ownsRow_ext h e
theorem newF_nil (B : Nat) (w : World) : NewF B w (.slice none 0 0) [] := World.ownsRow_nil _ _ _ _
theorem NewF.slice {B : Nat} {w : World} {v : Value} {l : List Fact} (h : NewF B w v l) : ∃ A c, v = .slice A l.length c ∧ Reads w A (fcells l) ∧ l.length ≤ c := reads_of_owns h
theorem NewF.hf {B : Nat} {w : World} {v : Value} {l : List Fact} (h : NewF B w v l) (hn : ∀ x ∈ l, x.Nums) : ∃ A c, v = .slice A l.length c ∧ HF w A l c := by
  obtain ⟨A, c, rfl, hr, hc⟩ := h.slice
  exact ⟨A, c, rfl, hn, hr, hc, ownsRow_len h⟩

theorem fieldsF : Tryz.prog.fieldsOf 81 = #[⟨ "Id", 3, 0, false, "", "", 0⟩, ⟨ "Known", 3, 1, false, "", "", 8⟩, ⟨ "Kind", 5, 2, false, "", "", 16⟩, ⟨ "Who", 3, 3, false, "", "", 24⟩, ⟨ "What", 3, 4, false, "", "", 32⟩, ⟨ "Other", 3, 5, false, "", "", 40⟩, ⟨ "Since", 3, 6, false, "", "", 48⟩, ⟨ "Until", 3, 7, false, "", "", 56⟩, ⟨ "Name", 9, 8, false, "", "", 64⟩] := by kernel_rfl
theorem underF : Tryz.prog.underlying 81 = some (.struct #[⟨ "Id", 3, 0, false, "", "", 0⟩, ⟨ "Known", 3, 1, false, "", "", 8⟩, ⟨ "Kind", 5, 2, false, "", "", 16⟩, ⟨ "Who", 3, 3, false, "", "", 24⟩, ⟨ "What", 3, 4, false, "", "", 32⟩, ⟨ "Other", 3, 5, false, "", "", 40⟩, ⟨ "Since", 3, 6, false, "", "", 48⟩, ⟨ "Until", 3, 7, false, "", "", 56⟩, ⟨ "Name", 9, 8, false, "", "", 64⟩]) := by kernel_rfl

theorem part_plain {t : Nat} {ti : TI} (ht : C.ti t = some ti) (ha : ti.d.agg = false) (i : Nat) (cs : Array Value) (v : Value) (w : World) (hv : cs[i]? = some v) : (part t cs i).run C.P w = .ok v w := by
  have := (C_ok.ti ht).run_agg
  simp [part, this, ha, hv]

def sameField (p q : Fact) (o : Nat) : Bool := match o with
  | 0 => decide (p.id = q.id)
  | 1 => decide (p.known = q.known)
  | 2 => decide (p.kind = q.kind)
  | 3 => decide (p.who = q.who)
  | 4 => decide (p.what = q.what)
  | 5 => decide (p.other = q.other)
  | 6 => decide (p.since = q.since)
  | 7 => decide (p.til = q.til)
  | _ => decide (p.name = q.name)

set_option maxRecDepth 10000 in
theorem eqInF (p q : Fact) (w : World) : (Op.equalIn 10000 81 p.val q.val).run C.P w = .ok (decide (p = q)) w := by
  have hs : C.P.stoodInHeld 81 = false := by kernel_rfl
  have hu : C.P.underlying 81 = some (.struct (C.P.fieldsOf 81)) := by show Tryz.prog.underlying _ = some (.struct (Tryz.prog.fieldsOf _)); rw [fieldsF]; exact underF
  have h3 : C.P.underlying 3 = some (.int .i64) := under3
  have h5 : C.P.underlying 5 = some (.int .u8) := under5
  have h9 : C.P.underlying 9 = some .string := under9
  have p3 := part_plain (t := 3) (ti := ty3) rfl rfl
  have p5 := part_plain (t := 5) (ti := ty5) rfl rfl
  have p9 := part_plain (t := 9) (ti := ty9) rfl rfl
  rw [Fact.val, Fact.val, run_equalIn_struct w 9999 81 _ _ hu hs]
  show ((Op.eqFields 9999 _ _ (Tryz.prog.fieldsOf 81).toList).run C.P w) = _
  rw [fieldsF]
  rw [eqFields_run (f := fun x => sameField p q x.offset)]
  · obtain ⟨a0, a1, a2, a3, a4, a5, a6, a7, a8⟩ := p
    obtain ⟨b0, b1, b2, b3, b4, b5, b6, b7, b8⟩ := q
    congr 1
    rw [Bool.eq_iff_iff]
    simp [sameField]
  · intro f hf
    simp only [List.mem_cons, List.not_mem_nil, or_false] at hf
    rcases hf with rfl | rfl | rfl | rfl | rfl | rfl | rfl | rfl | rfl
    · exact ⟨by decide, _, _, p3 0 _ (.int .i64 p.id) w rfl, p3 0 _ (.int .i64 q.id) w rfl, eqInt_run h3 w 9998 .i64 p.id q.id⟩
    · exact ⟨by decide, _, _, p3 1 _ (.int .i64 p.known) w rfl, p3 1 _ (.int .i64 q.known) w rfl, eqInt_run h3 w 9998 .i64 p.known q.known⟩
    · exact ⟨by decide, _, _, p5 2 _ (.int .u8 p.kind) w rfl, p5 2 _ (.int .u8 q.kind) w rfl, eqInt_run h5 w 9998 .u8 p.kind q.kind⟩
    · exact ⟨by decide, _, _, p3 3 _ (.int .i64 p.who) w rfl, p3 3 _ (.int .i64 q.who) w rfl, eqInt_run h3 w 9998 .i64 p.who q.who⟩
    · exact ⟨by decide, _, _, p3 4 _ (.int .i64 p.what) w rfl, p3 4 _ (.int .i64 q.what) w rfl, eqInt_run h3 w 9998 .i64 p.what q.what⟩
    · exact ⟨by decide, _, _, p3 5 _ (.int .i64 p.other) w rfl, p3 5 _ (.int .i64 q.other) w rfl, eqInt_run h3 w 9998 .i64 p.other q.other⟩
    · exact ⟨by decide, _, _, p3 6 _ (.int .i64 p.since) w rfl, p3 6 _ (.int .i64 q.since) w rfl, eqInt_run h3 w 9998 .i64 p.since q.since⟩
    · exact ⟨by decide, _, _, p3 7 _ (.int .i64 p.til) w rfl, p3 7 _ (.int .i64 q.til) w rfl, eqInt_run h3 w 9998 .i64 p.til q.til⟩
    · exact ⟨by decide, _, _, p9 8 _ (.string p.name) w rfl, p9 8 _ (.string q.name) w rfl, eqStr_run h9 w 9998 p.name q.name⟩

theorem neqF (x y : Operand) (p q : Fact) : EqIs C.P .neq 81 x y p.val q.val (!decide (p = q)) := by
  intro w
  have hm : C.P.eqGuardType C.P.depth 81 = false := by kernel_rfl
  rw [Sem.run_bind, Fact.val, Fact.val, run_eqGuard_agg w .neq 81 x y _ _ hm]
  simp only [Result.andThen_ok]
  rw [run_neq_struct]
  have := eqInF p q w
  rw [Fact.val, Fact.val] at this
  rw [this]
  rfl
theorem eqF (x y : Operand) (p q : Fact) : EqIs C.P .eql 81 x y p.val q.val (decide (p = q)) := by
  intro w
  have hm : C.P.eqGuardType C.P.depth 81 = false := by kernel_rfl
  rw [Sem.run_bind, Fact.val, Fact.val, run_eqGuard_agg w .eql 81 x y _ _ hm]
  simp only [Result.andThen_ok]
  rw [run_eql_struct]
  have := eqInF p q w
  rw [Fact.val, Fact.val] at this
  rw [this]
  rfl

end Go.Proofs.YtcnbpfecgokhiaaGreatDoor

namespace Go.Proofs.YtcnbpfecgokhiaaGreatDoor
open Go.Eng Go.RowKit

theorem id_spec (n : Int) (w : World) : CallsV C.P 184 #[.int .i64 n] w fun v w' => v = .bool (idB n) ∧ w' = w := by
  refine callsV_of C_ok (args := [_]) (plans := []) Tryz.func184 rfl Tryz.ntmps184 (by kernel_rfl) (Nat.le_of_ble_eq_true rfl) ?_
  refine brE_dec (fun h1 => ?_) (fun h1 => ?_)
  · refine ⟨congrArg Value.bool ?_, rfl⟩
    have h1 : 1 ≤ n := h1
    rw [Bool.eq_iff_iff]; simp only [decide_eq_true_eq]; omega
  · refine ⟨congrArg Value.bool ?_, rfl⟩
    have h1 : ¬ 1 ≤ n := h1
    rw [idB, decide_eq_false]; omega
theorem refId_spec (n : Int) (w : World) : CallsV C.P 192 #[.int .i64 n] w fun v w' => v = .bool (idB n) ∧ w' = w := by
  refine callsV_of C_ok (args := [_]) (plans := []) Tryz.func192 rfl Tryz.ntmps192 (by kernel_rfl) (Nat.le_of_ble_eq_true rfl) ?_
  refine brE_dec (fun h1 => ?_) (fun h1 => ?_)
  · refine ⟨congrArg Value.bool ?_, rfl⟩
    have h1 : 1 ≤ n := h1
    rw [Bool.eq_iff_iff]; simp only [decide_eq_true_eq]; omega
  · refine ⟨congrArg Value.bool ?_, rfl⟩
    have h1 : ¬ 1 ≤ n := h1
    rw [idB, decide_eq_false]; omega
theorem within_spec (n a b : Int) (w : World) : CallsV C.P 191 #[.int .i64 n, .int .i64 a, .int .i64 b] w fun v w' => v = .bool (decide (a ≤ n ∧ n ≤ b)) ∧ w' = w := by
  refine callsV_of C_ok (args := [_, _, _]) (plans := []) Tryz.func191 rfl Tryz.ntmps191 (by kernel_rfl) (Nat.le_of_ble_eq_true rfl) ?_
  refine brE_dec (fun h1 => ?_) (fun h1 => ?_)
  · refine ⟨congrArg Value.bool ?_, rfl⟩
    have h1 : a ≤ n := h1
    rw [Bool.eq_iff_iff]; simp only [decide_eq_true_eq]; omega
  · refine ⟨congrArg Value.bool ?_, rfl⟩
    have h1 : ¬ a ≤ n := h1
    rw [decide_eq_false]; omega

theorem on_spec (s u day : Int) (w : World) : CallsV C.P 252 #[.agg #[.int .i64 s, .int .i64 u], .int .i64 day] w fun v w' => v = .bool (decide (s ≤ day ∧ (u = 0 ∨ day < u))) ∧ Ext w w' := by
  refine callsV_of C_ok (args := [_, _]) (plans := []) Tryz.func252 rfl Tryz.ntmps252 (by kernel_rfl) (Nat.le_of_ble_eq_true rfl) ?_
  intro g2 w1 h1
  have M1 := (Mem.start w).alloc h1
  refine ⟨_, M1.cell 0 rfl rfl, ?_⟩
  refine brE_dec (fun h1 => ?_) (fun h1 => ?_)
  · have h1 : s ≤ day := h1
    refine ⟨_, M1.cell 0 rfl rfl, ?_⟩
    refine brE_dec (fun h2 => ?_) (fun h2 => ?_)
    · have h2 : u = 0 := h2
      exact ⟨congrArg Value.bool (decide_eq_true ⟨h1, .inl h2⟩).symm, M1.ext⟩
    · have h2 : ¬ u = 0 := h2
      refine ⟨_, M1.cell 0 rfl rfl, ?_⟩
      refine ⟨congrArg Value.bool ?_, M1.ext⟩
      rw [Bool.eq_iff_iff]; simp only [decide_eq_true_eq]; omega
  · have h1 : ¬ s ≤ day := h1
    exact ⟨congrArg Value.bool (decide_eq_false (fun h => h1 h.1)).symm, M1.ext⟩

theorem Holds_spec (x : Fact) (day : Int) (w : World) : CallsV C.P 231 #[x.val, .int .i64 day] w fun v w' => v = .bool (holdsB day x) ∧ Ext w w' := by
  refine callsV_of C_ok (args := [_, _]) (plans := []) Tryz.func231 rfl Tryz.ntmps231 (by kernel_rfl) (Nat.le_of_ble_eq_true rfl) ?_
  intro g2 w1 h1
  have M1 := (Mem.start w).alloc h1
  refine ⟨_, M1.cell 0 rfl rfl, ?_⟩
  refine ⟨_, M1.cell 0 rfl rfl, ?_⟩
  refine ⟨x.cells, rfl, M1.rd 0 rfl, ?_⟩
  refine (on_spec x.since x.til day w1).mono ?_
  rintro v w2 ⟨rfl, e2⟩
  exact ⟨rfl, M1.ext.trans e2⟩
theorem refHolds_spec (x : Fact) (day : Int) (w : World) : CallsV C.P 237 #[x.val, .int .i64 day] w fun v w' => v = .bool (holdsB day x) ∧ Ext w w' := by
  refine callsV_of C_ok (args := [_, _]) (plans := []) Tryz.func237 rfl Tryz.ntmps237 (by kernel_rfl) (Nat.le_of_ble_eq_true rfl) ?_
  intro g2 w1 h1
  have M1 := (Mem.start w).alloc h1
  refine ⟨_, M1.cell 0 rfl rfl, ?_⟩
  refine brE_dec (fun h1 => ?_) (fun h1 => ?_)
  · have h1 : x.since ≤ day := h1
    refine ⟨_, M1.cell 0 rfl rfl, ?_⟩
    refine brE_dec (fun h2 => ?_) (fun h2 => ?_)
    · have h2 : x.til = 0 := h2
      exact ⟨congrArg Value.bool (decide_eq_true ⟨h1, .inl h2⟩).symm, M1.ext⟩
    · have h2 : ¬ x.til = 0 := h2
      refine ⟨_, M1.cell 0 rfl rfl, ?_⟩
      refine ⟨congrArg Value.bool ?_, M1.ext⟩
      unfold holdsB
      rw [Bool.eq_iff_iff]; simp only [decide_eq_true_eq]; omega
  · have h1 : ¬ x.since ≤ day := h1
    exact ⟨congrArg Value.bool (decide_eq_false (fun h => h1 h.1)).symm, M1.ext⟩

theorem ba_get {s : ByteArray} {j : Nat} (h : j < s.data.toList.length) : s[j]? = some s.data.toList[j] := by
  have h' : j < s.size := by simpa using h
  rw [getElem?_pos s j h']
  simp [ByteArray.getElem_eq_getElem_data]
theorem ba_size (s : ByteArray) : s.size = s.data.toList.length := by simp

theorem chB_iff {c : UInt8} : chB c = true ↔ (97 ≤ (c.toNat : Int) ∧ (c.toNat : Int) ≤ 122) ∨ (48 ≤ (c.toNat : Int) ∧ (c.toNat : Int) ≤ 57) ∨ (c.toNat : Int) = 32 ∨ (c.toNat : Int) = 45 := by
  simp only [chB, Bool.or_eq_true, decide_eq_true_eq]
  omega

theorem nameB_iff {l : List UInt8} : nameB l = true ↔ ((1 ≤ l.length ∧ l.length ≤ 24) ∧ l.head? ≠ some 32 ∧ l.getLast? ≠ some 32) ∧ ∀ c ∈ l, chB c = true := by
  simp only [nameB, Bool.and_eq_true, decide_eq_true_eq, Bool.not_eq_true', decide_eq_false_iff_not, List.all_eq_true, ne_eq]
  constructor
  · rintro ⟨⟨⟨a, b⟩, c⟩, d⟩; exact ⟨⟨a, b, c⟩, d⟩
  · rintro ⟨⟨a, b, c⟩, d⟩; exact ⟨⟨⟨a, b⟩, c⟩, d⟩
theorem eq32 {c : UInt8} : c = 32 ↔ (c.toNat : Int) = 32 := by
  constructor
  · rintro rfl; rfl
  · intro h
    have : c.toNat = 32 := by omega
    exact UInt8.toNat_inj.1 (by simpa using this)

/-- What both sides do with a name. -/
theorem name_head {l : List UInt8} (h : 0 < l.length) : l.head? = some l[0] := by
  cases l with
  | nil => simp at h
  | cons x r => rfl
theorem name_last {l : List UInt8} (h : 0 < l.length) : l.getLast? = some (l[l.length - 1]'(by omega)) := List.getLast?_eq_getElem? ▸ List.getElem?_eq_getElem (by omega)

theorem isName_spec (s : ByteArray) (w : World) (hs : s.size ≤ 9223372036854775807) : CallsV C.P 185 #[.string s] w fun v w' => v = .bool (nameB s.data.toList) ∧ w' = w := by
  have hsz := ba_size s
  generalize hl : s.data.toList = l at *
  have get : ∀ {j : Nat} (h : j < l.length), s[j]? = some l[j] := fun {j} h => by subst hl; exact ba_get h
  have no : ∀ {A : Prop}, (nameB l = true → False) → Value.bool false = .bool (nameB l) := fun h => by
    cases hh : nameB l with
    | false => rfl
    | true => exact (h hh).elim
  refine callsV_of C_ok (args := [_]) (plans := []) Tryz.func185 rfl Tryz.ntmps185 (by kernel_rfl) (Nat.le_of_ble_eq_true rfl) ?_
  refine brE_dec (fun h1 => ?_) (fun h1 => ?_)
  · have h1 : (s.size : Int) < 1 := h1
    exact ⟨no (A := True) fun h => by have := (nameB_iff.1 h).1.1; omega, rfl⟩
  have h1 : ¬ (s.size : Int) < 1 := h1
  refine brE_dec (fun h2 => ?_) (fun h2 => ?_)
  · have h2 : (s.size : Int) > 24 := h2
    exact ⟨no (A := True) fun h => by have := (nameB_iff.1 h).1.1; omega, rfl⟩
  have h2 : ¬ (s.size : Int) > 24 := h2
  have h0 : 0 < l.length := by omega
  have hk : l.length - 1 < l.length := by omega
  refine ⟨0, l[0], rfl, get h0, ?_⟩
  refine brE_dec (fun h3 => ?_) (fun h3 => ?_)
  · exact ⟨no (A := True) fun h => by
      have := (nameB_iff.1 h).1.2.1
      rw [name_head h0] at this
      exact this (congrArg some (eq32.2 h3)), rfl⟩
  refine ⟨((l.length - 1 : Nat) : Int), by rw [fit ⟨by omega, by omega⟩]; omega, ?_⟩
  refine ⟨l.length - 1, l[l.length - 1], rfl, get hk, ?_⟩
  refine brE_dec (fun h4 => ?_) (fun h4 => ?_)
  · exact ⟨no (A := True) fun h => by
      have := (nameB_iff.1 h).1.2.2
      rw [name_last h0] at this
      exact this (congrArg some (eq32.2 h4)), rfl⟩
  have hhead : (1 ≤ l.length ∧ l.length ≤ 24) ∧ l.head? ≠ some 32 ∧ l.getLast? ≠ some 32 := by
    refine ⟨⟨by omega, by omega⟩, ?_, ?_⟩
    · rw [name_head h0]; exact fun e => h3 (eq32.1 (Option.some.inj e))
    · rw [name_last h0]; exact fun e => h4 (eq32.1 (Option.some.inj e))
  refine loopE C_ok (fun (i : Nat) => [(0, .string s), (27, .int .i64 s.size), (28, .int .i64 i)]) (fun i w' => w' = w ∧ i ≤ l.length ∧ ∀ j (h : j < l.length), j < i → chB l[j] = true) (fun i => l.length - i) 0
    ⟨rfl, rfl, rfl, trivial⟩ ⟨rfl, Nat.zero_le _, fun _ _ h => absurd h (Nat.not_lt_zero _)⟩ ?_
  rintro i w1 ⟨rfl, hi, hall⟩
  refine brE_dec (fun hlt => ?_) (fun hge => ?_)
  · have hlt : i < l.length := by have : (i : Int) < (s.size : Nat) := hlt; omega
    refine ⟨i, l[i], rfl, get hlt, ?_⟩
    have hc := chB_iff (c := l[i])
    generalize hcv : l[i] = c at *
    have bad : ¬ ((97 ≤ (c.toNat : Int) ∧ (c.toNat : Int) ≤ 122) ∨ (48 ≤ (c.toNat : Int) ∧ (c.toNat : Int) ≤ 57) ∨ (c.toNat : Int) = 32 ∨ (c.toNat : Int) = 45) → Value.bool false = .bool (nameB l) ∧ w1 = w1 := fun hb =>
      ⟨no (A := True) fun h => hb (hc.1 ((nameB_iff.1 h).2 c (hcv ▸ List.getElem_mem hlt))), rfl⟩
    have next : IntKind.i64.wrap ((i : Int) + 1) = ((i + 1 : Nat) : Int) := fit ⟨by omega, by omega⟩
    have fin : chB c = true → i + 1 ≤ l.length ∧ ∀ j (h : j < l.length), j < i + 1 → chB l[j] = true := fun hg => ⟨hlt, fun j hj hji => by
      rcases Nat.lt_or_ge j i with h | h
      · exact hall j hj h
      · obtain rfl : j = i := by omega
        rw [hcv]; exact hg⟩
    repeat' first
      | refine brE_ndec (fun a => ?_) (fun a => ?_)
      | refine brE_dec (fun a => ?_) (fun a => ?_)
    all_goals first
      | exact bad (by omega)
      | exact ⟨_, next, i + 1, ⟨rfl, rfl, rfl, trivial⟩, ⟨rfl, fin (hc.2 (by omega))⟩, by omega⟩
  · have : i = l.length := by have : ¬ (i : Int) < (s.size : Nat) := hge; omega
    subst this
    refine ⟨congrArg Value.bool (nameB_iff.2 ⟨hhead, fun c hc => ?_⟩).symm, rfl⟩
    obtain ⟨j, hj, rfl⟩ := List.getElem_of_mem hc
    exact hall j hj hj

theorem refIsName_spec (s : ByteArray) (w : World) (hs : s.size ≤ 9223372036854775807) : CallsV C.P 194 #[.string s] w fun v w' => v = .bool (nameB s.data.toList) ∧ w' = w := by
  have hsz := ba_size s
  generalize hl : s.data.toList = l at *
  have get : ∀ {j : Nat} (h : j < l.length), s[j]? = some l[j] := fun {j} h => by subst hl; exact ba_get h
  have no : ∀ {A : Prop}, (nameB l = true → False) → Value.bool false = .bool (nameB l) := fun h => by
    cases hh : nameB l with
    | false => rfl
    | true => exact (h hh).elim
  refine callsV_of C_ok (args := [_]) (plans := []) Tryz.func194 rfl Tryz.ntmps194 (by kernel_rfl) (Nat.le_of_ble_eq_true rfl) ?_
  refine brE_dec (fun h1 => ?_) (fun h1 => ?_)
  · have h1 : (s.size : Int) < 1 := h1
    exact ⟨no (A := True) fun h => by have := (nameB_iff.1 h).1.1; omega, rfl⟩
  have h1 : ¬ (s.size : Int) < 1 := h1
  refine brE_dec (fun h2 => ?_) (fun h2 => ?_)
  · have h2 : (s.size : Int) > 24 := h2
    exact ⟨no (A := True) fun h => by have := (nameB_iff.1 h).1.1; omega, rfl⟩
  have h2 : ¬ (s.size : Int) > 24 := h2
  have h0 : 0 < l.length := by omega
  have hk : l.length - 1 < l.length := by omega
  refine ⟨0, l[0], rfl, get h0, ?_⟩
  refine brE_dec (fun h3 => ?_) (fun h3 => ?_)
  · exact ⟨no (A := True) fun h => by
      have := (nameB_iff.1 h).1.2.1
      rw [name_head h0] at this
      exact this (congrArg some (eq32.2 h3)), rfl⟩
  refine ⟨((l.length - 1 : Nat) : Int), by rw [fit ⟨by omega, by omega⟩]; omega, ?_⟩
  refine ⟨l.length - 1, l[l.length - 1], rfl, get hk, ?_⟩
  refine brE_dec (fun h4 => ?_) (fun h4 => ?_)
  · exact ⟨no (A := True) fun h => by
      have := (nameB_iff.1 h).1.2.2
      rw [name_last h0] at this
      exact this (congrArg some (eq32.2 h4)), rfl⟩
  have hhead : (1 ≤ l.length ∧ l.length ≤ 24) ∧ l.head? ≠ some 32 ∧ l.getLast? ≠ some 32 := by
    refine ⟨⟨by omega, by omega⟩, ?_, ?_⟩
    · rw [name_head h0]; exact fun e => h3 (eq32.1 (Option.some.inj e))
    · rw [name_last h0]; exact fun e => h4 (eq32.1 (Option.some.inj e))
  refine loopE C_ok (fun (i : Nat) => [(0, .string s), (3, .int .i64 i)]) (fun i w' => w' = w ∧ i ≤ l.length ∧ ∀ j (h : j < l.length), j < i → chB l[j] = true) (fun i => l.length - i) 0
    ⟨rfl, rfl, trivial⟩ ⟨rfl, Nat.zero_le _, fun _ _ h => absurd h (Nat.not_lt_zero _)⟩ ?_
  rintro i w1 ⟨rfl, hi, hall⟩
  refine brE_dec (fun hlt => ?_) (fun hge => ?_)
  · have hlt : i < l.length := by have : (i : Int) < (s.size : Nat) := hlt; omega
    refine ⟨i, l[i], rfl, get hlt, ?_⟩
    have hc := chB_iff (c := l[i])
    generalize hcv : l[i] = c at *
    have bad : ¬ ((97 ≤ (c.toNat : Int) ∧ (c.toNat : Int) ≤ 122) ∨ (48 ≤ (c.toNat : Int) ∧ (c.toNat : Int) ≤ 57) ∨ (c.toNat : Int) = 32 ∨ (c.toNat : Int) = 45) → Value.bool false = .bool (nameB l) ∧ w1 = w1 := fun hb =>
      ⟨no (A := True) fun h => hb (hc.1 ((nameB_iff.1 h).2 c (hcv ▸ List.getElem_mem hlt))), rfl⟩
    have next : IntKind.i64.wrap ((i : Int) + 1) = ((i + 1 : Nat) : Int) := fit ⟨by omega, by omega⟩
    have fin : chB c = true → i + 1 ≤ l.length ∧ ∀ j (h : j < l.length), j < i + 1 → chB l[j] = true := fun hg => ⟨hlt, fun j hj hji => by
      rcases Nat.lt_or_ge j i with h | h
      · exact hall j hj h
      · obtain rfl : j = i := by omega
        rw [hcv]; exact hg⟩
    repeat' first
      | refine brE_ndec (fun a => ?_) (fun a => ?_)
      | refine brE_dec (fun a => ?_) (fun a => ?_)
    all_goals first
      | exact bad (by omega)
      | exact ⟨_, next, i + 1, ⟨rfl, rfl, trivial⟩, ⟨rfl, fin (hc.2 (by omega))⟩, by omega⟩
  · have : i = l.length := by have : ¬ (i : Int) < (s.size : Nat) := hge; omega
    subst this
    refine ⟨congrArg Value.bool (nameB_iff.2 ⟨hhead, fun c hc => ?_⟩).symm, rfl⟩
    obtain ⟨j, hj, rfl⟩ := List.getElem_of_mem hc
    exact hall j hj hj

end Go.Proofs.YtcnbpfecgokhiaaGreatDoor
