/- a part of the proof: steps, walks and plain laws that the law below stands on; no condition. -/
import Derived.Test.YtcnbpfecgokhiaaGreatDoorDBa
set_option linter.unusedVariables false
set_option linter.unusedSimpArgs false
set_option linter.unnecessarySimpa false
set_option linter.unusedSectionVars false
namespace Go.Proofs.YtcnbpfecgokhiaaGreatDoor
open Go.Eng Go.RowKit

structure Waiv where
  id : Int
  day : Int
  signer : Int
  giver : Int
  taker : Int
  under : Int
  over : Int
  since : Int
  til : Int
deriving DecidableEq
structure Gift where
  id : Int
  day : Int
  frm : Int
  to : Int
  cur : Int
  n : Int
  worth : Int
  state : Int
  answered : Int
  returns : Int
deriving DecidableEq
structure Entry where
  kind : Int
  day : Int
  w : Waiv
  g : Gift
  a : Int
  b : Int
  n : Int
deriving DecidableEq
def waivZ : Waiv := ⟨0, 0, 0, 0, 0, 0, 0, 0, 0⟩
def giftZ : Gift := ⟨0, 0, 0, 0, 0, 0, 0, 0, 0, 0⟩
def entryZ : Entry := ⟨0, 0, waivZ, giftZ, 0, 0, 0⟩
instance : Inhabited Waiv := ⟨waivZ⟩
instance : Inhabited Gift := ⟨giftZ⟩
instance : Inhabited Entry := ⟨entryZ⟩

def Waiv.cells (x : Waiv) : List Value := [.int .i64 x.id, .int .i64 x.day, .int .i64 x.signer, .int .i64 x.giver, .int .i64 x.taker, .int .i64 x.under, .int .i64 x.over, .int .i64 x.since, .int .i64 x.til]
def Gift.cells (x : Gift) : List Value := [.int .i64 x.id, .int .i64 x.day, .int .i64 x.frm, .int .i64 x.to, .int .u8 x.cur, .int .i64 x.n, .int .i64 x.worth, .int .u8 x.state, .int .i64 x.answered, .int .i64 x.returns]
def Entry.cells (x : Entry) : List Value := [.int .u8 x.kind, .int .i64 x.day,
  .int .i64 x.w.id, .int .i64 x.w.day, .int .i64 x.w.signer, .int .i64 x.w.giver, .int .i64 x.w.taker, .int .i64 x.w.under, .int .i64 x.w.over, .int .i64 x.w.since, .int .i64 x.w.til,
  .int .i64 x.g.id, .int .i64 x.g.day, .int .i64 x.g.frm, .int .i64 x.g.to, .int .u8 x.g.cur, .int .i64 x.g.n, .int .i64 x.g.worth, .int .u8 x.g.state, .int .i64 x.g.answered, .int .i64 x.g.returns,
  .int .i64 x.a, .int .i64 x.b, .int .i64 x.n]
def Waiv.val (x : Waiv) : Value := .agg x.cells.toArray
def Gift.val (x : Gift) : Value := .agg x.cells.toArray
def Entry.val (x : Entry) : Value := .agg x.cells.toArray

abbrev inB (n a b : Int) : Bool := decide (a ≤ n ∧ n ≤ b)

/-! ### well-formed -/
def rightW (w : Waiv) : Bool :=
  inB w.id 1 500 && idB w.signer && idB w.giver && idB w.taker && !decide (w.giver = w.taker) && (decide (w.under = 0) || idB w.under) && (decide (w.over = 0) || idB w.over) &&
  (decide (w.under = 0) || !decide (w.under = w.over)) && inB w.day 0 100000 && decide (w.day ≤ w.since) && decide (w.since < w.til) && decide (w.til ≤ 100000)
def rightG (g : Gift) : Bool :=
  inB g.id 1 500 && idB g.frm && idB g.to && !decide (g.frm = g.to) && inB g.returns 0 500 && !decide (g.returns = g.id) && inB g.cur 1 2 && inB g.n 1 1000000
/-- What a gift may bear when it is offered. -/
def plainG (g : Gift) : Gift := ⟨g.id, g.day, g.frm, g.to, g.cur, g.n, 0, 0, 0, g.returns⟩
/-- What an entry of its kind may bear. -/
def wantE (x : Entry) : Entry :=
  if x.kind = 1 ∨ x.kind = 2 then ⟨x.kind, x.day, waivZ, giftZ, x.a, 0, x.n⟩
  else if x.kind = 3 then ⟨x.kind, x.day, x.w, giftZ, 0, 0, 0⟩
  else if x.kind = 4 then ⟨x.kind, x.day, { waivZ with id := x.w.id }, giftZ, 0, 0, 0⟩
  else if x.kind = 5 then ⟨x.kind, x.day, waivZ, plainG x.g, 0, 0, 0⟩
  else if x.kind = 6 ∨ x.kind = 7 then ⟨x.kind, x.day, waivZ, { giftZ with id := x.g.id }, 0, 0, 0⟩
  else ⟨x.kind, x.day, waivZ, giftZ, 0, 0, 0⟩
def okE (x : Entry) : Bool :=
  if x.kind = 1 then inB x.a 1 2 && inB x.n 1 1000000
  else if x.kind = 2 then idB x.a && inB x.n 1 1000000000000
  else if x.kind = 3 then rightW x.w && decide (x.w.day = x.day)
  else if x.kind = 4 then inB x.w.id 1 500
  else if x.kind = 5 then rightG x.g && decide (x.g.day = x.day)
  else if x.kind = 6 ∨ x.kind = 7 then inB x.g.id 1 500
  else false
def formX (x : Entry) : Bool := okE x && decide (x = wantE x) && dayB x.day

/-! ### what entries say -/
/-- The one with a number (from 1 on). -/
def atN {α : Type} [Inhabited α] (l : List α) (i : Int) : α := l.getD (i - 1).toNat default
def updAt {α : Type} [Inhabited α] (l : List α) (i : Int) (f : α → α) : List α := l.set (i - 1).toNat (f (atN l i))
def endW (d : Int) (w : Waiv) : Waiv := { w with til := min w.til (max d w.since) }
def waivS (l : List Waiv) (x : Entry) : List Waiv := if x.kind = 3 then l ++ [x.w] else if x.kind = 4 then updAt l x.w.id (endW x.day) else l
def waivL (es : List Entry) : List Waiv := es.foldl waivS []

structure Due where
  cred : Int
  debt : Int
  waiver : Int
deriving DecidableEq
def Due.cells (x : Due) : List Value := [.int .i64 x.cred, .int .i64 x.debt, .int .i64 x.waiver]
def Due.val (x : Due) : Value := .agg x.cells.toArray
def dueZ : Due := ⟨0, 0, 0⟩
instance : Inhabited Due := ⟨dueZ⟩
/-- The dues that are left, in the order in which they were made. -/
def dueS (l : List Due) (w : Waiv) : List Due :=
  if l.any (fun d => decide (d.cred = w.taker ∧ d.debt = w.giver)) = true then l.filter (fun d => !decide (d.cred = w.taker ∧ d.debt = w.giver)) else l ++ [⟨w.giver, w.taker, w.id⟩]
def grantsL (es : List Entry) : List Waiv := (es.filter fun x => decide (x.kind = 3)).map Entry.w
def dueL (es : List Entry) : List Due := (grantsL es).foldl dueS []
def owesB (l : List Due) (c d : Int) : Bool := l.any fun x => decide (x.cred = c ∧ x.debt = d)

def rateS (n : Int) (c : Int) (x : Entry) : Int := if x.kind = 1 ∧ x.a = c then x.n else n
def rateL (es : List Entry) (c : Int) : Int := es.foldl (fun n x => rateS n c x) 0
def ceilS (n : Int) (s : Int) (x : Entry) : Int := if x.kind = 2 ∧ x.a = s then x.n else n
def ceilL (es : List Entry) (s : Int) : Int := es.foldl (fun n x => ceilS n s x) 0

/-- What met the debt for a gift. -/
def metB (id : Int) (g : Gift) : Bool := decide (g.returns = id ∧ (g.state = 2 ∨ g.state = 4))
def metW (id : Int) (g : Gift) : Int := if metB id g = true then g.worth else 0
def metL (gs : List Gift) (id : Int) : Int := (gs.map (metW id)).sum
def takeG (d : Int) (g : Gift) : Gift := { g with state := 2, answered := d }
def refuseG (d : Int) (g : Gift) : Gift := { g with state := 3, answered := d }
def backG (g : Gift) : Gift := { g with state := 4 }
/-- The gifts, as they are before it is said which ones are returned. -/
def baseS (es : List Entry) (gs : List Gift) (x : Entry) : List Gift :=
  if x.kind = 5 then gs ++ [{ x.g with worth := x.g.n * rateL es x.g.cur, state := 1 }]
  else if x.kind = 6 then updAt gs x.g.id (takeG x.day)
  else if x.kind = 7 then updAt gs x.g.id (refuseG x.day) else gs
/-- One of them is taken: its debt is met, perhaps. -/
def meetS (gs : List Gift) (x : Entry) : List Gift :=
  if x.kind = 6 then
    let r := (atN gs x.g.id).returns
    if r = 0 then gs else if (atN gs r).worth ≤ metL gs r then updAt gs r backG else gs
  else gs
def giftS (es : List Entry) (gs : List Gift) (x : Entry) : List Gift := meetS (baseS es gs x) x
def foldG (step : List Entry → List Gift → Entry → List Gift) : List Entry → List Gift → List Entry → List Gift
  | _, gs, [] => gs
  | seen, gs, x :: r => foldG step (seen ++ [x]) (step seen gs x) r
def giftL (es : List Entry) : List Gift := foldG giftS [] [] es
def baseL (es : List Entry) : List Gift := foldG baseS [] [] es
/-- The reference says at the end which ones are returned. -/
def givenL (es : List Entry) : List Gift := (baseL es).map fun g => if g.state = 2 ∧ g.returns = 0 ∧ g.worth ≤ metL (baseL es) g.id then backG g else g

theorem waivL_snoc (es : List Entry) (x : Entry) : waivL (es ++ [x]) = waivS (waivL es) x := by simp [waivL]
theorem rateL_snoc (es : List Entry) (x : Entry) (c : Int) : rateL (es ++ [x]) c = rateS (rateL es c) c x := by simp [rateL]
theorem ceilL_snoc (es : List Entry) (x : Entry) (c : Int) : ceilL (es ++ [x]) c = ceilS (ceilL es c) c x := by simp [ceilL]
theorem foldG_snoc (step : List Entry → List Gift → Entry → List Gift) : ∀ (es seen : List Entry) (gs : List Gift) (x : Entry), foldG step seen gs (es ++ [x]) = step (seen ++ es) (foldG step seen gs es) x
  | [], seen, gs, x => by simp [foldG]
  | y :: r, seen, gs, x => by
    show foldG step (seen ++ [y]) (step seen gs y) (r ++ [x]) = _
    rw [foldG_snoc step r, List.append_assoc]; rfl
theorem giftL_snoc (es : List Entry) (x : Entry) : giftL (es ++ [x]) = giftS es (giftL es) x := foldG_snoc giftS es [] [] x
theorem baseL_snoc (es : List Entry) (x : Entry) : baseL (es ++ [x]) = baseS es (baseL es) x := foldG_snoc baseS es [] [] x
theorem grantsL_snoc (es : List Entry) (x : Entry) : grantsL (es ++ [x]) = grantsL es ++ if x.kind = 3 then [x.w] else [] := by
  unfold grantsL
  rw [List.filter_append, List.map_append, List.filter_cons, List.filter_nil]
  by_cases h : x.kind = 3
  · rw [if_pos (by simpa using h), if_pos h]; rfl
  · rw [if_neg (by simpa using h), if_neg h]; rfl
theorem dueL_snoc (es : List Entry) (x : Entry) : dueL (es ++ [x]) = if x.kind = 3 then dueS (dueL es) x.w else dueL es := by
  unfold dueL
  rw [grantsL_snoc]
  split <;> simp

/-! ### what is wrong with an entry behind others -/
def lastDay (es : List Entry) : Int := (es.getLast?.map Entry.day).getD 0
/-- 'sg': what checking the facts and asking for the signer's class say: 0, or an error. -/
def grantedE (sg : Int) (es : List Entry) (w : Waiv) : Int :=
  if 500 ≤ (waivL es).length then 2 else if ¬ w.id = (waivL es).length + 1 then 1 else if sg ≠ 0 then sg else if owesB (dueL es) w.giver w.taker = true then 61 else 0
def offeredE (es : List Entry) (g : Gift) : Int :=
  if 500 ≤ (giftL es).length then 2 else if ¬ g.id = (giftL es).length + 1 then 1 else if rateL es g.cur = 0 then 8 else if g.returns > (giftL es).length then 5
  else if g.returns > 0 ∧ (let r := atN (giftL es) g.returns; ¬ (r.frm = g.to ∧ r.to = g.frm ∧ r.returns = 0 ∧ r.state = 2)) then 8
  else if ceilL es g.to > 0 ∧ g.n * rateL es g.cur > ceilL es g.to then 2 else 0
def refusedE (sg : Int) (es : List Entry) (x : Entry) : Int :=
  if x.kind = 3 then grantedE sg es x.w
  else if x.kind = 4 then (if x.w.id > (waivL es).length then 5 else if (atN (waivL es) x.w.id).til ≤ x.day then 8 else 0)
  else if x.kind = 5 then offeredE es x.g
  else if x.kind = 6 ∨ x.kind = 7 then (if x.g.id > (giftL es).length then 5 else if ¬ (atN (giftL es) x.g.id).state = 1 then 8 else 0)
  else 0
def doE (sg : Int) (es : List Entry) (x : Entry) : Int := if formX x = false then 1 else if x.day < lastDay es then 7 else refusedE sg es x

/-- What the entries of a ledger are like: each was accepted behind those before it. -/
inductive Acc : List Entry → Prop
  | nil : Acc []
  | snoc {es : List Entry} {x : Entry} (sg : Int) : Acc es → doE sg es x = 0 → Acc (es ++ [x])

end Go.Proofs.YtcnbpfecgokhiaaGreatDoor

namespace Go.Proofs.YtcnbpfecgokhiaaGreatDoor
open Go.Eng Go.RowKit

theorem atN_get {α : Type} [Inhabited α] {l : List α} {k : Nat} (h : k < l.length) : atN l ((k + 1 : Nat) : Int) = l[k] := by
  unfold atN
  have : (((k + 1 : Nat) : Int) - 1).toNat = k := by omega
  rw [this, List.getD_eq_getElem?_getD, List.getElem?_eq_getElem h]; rfl
theorem num_of {n : Nat} {i : Int} (h1 : 1 ≤ i) (h2 : i ≤ n) : ∃ k : Nat, k < n ∧ i = ((k + 1 : Nat) : Int) := ⟨(i - 1).toNat, by omega, by omega⟩
theorem updAt_eq {α : Type} [Inhabited α] {l : List α} {k : Nat} (h : k < l.length) (f : α → α) : updAt l ((k + 1 : Nat) : Int) f = l.set k (f l[k]) := by
  unfold updAt
  rw [atN_get h]
  have : (((k + 1 : Nat) : Int) - 1).toNat = k := by omega
  rw [this]
theorem updAt_length {α : Type} [Inhabited α] (l : List α) (i : Int) (f : α → α) : (updAt l i f).length = l.length := by simp [updAt]
theorem sum_set {α : Type} (h : α → Int) : ∀ {l : List α} {k : Nat} (hk : k < l.length) (y : α), ((l.set k y).map h).sum = (l.map h).sum - h l[k] + h y
  | x :: l, 0, _, y => by simp; omega
  | x :: l, k + 1, hk, y => by
    have ih := sum_set h (l := l) (k := k) (by simpa using hk) y
    simp only [List.set_cons_succ, List.map_cons, List.sum_cons, List.getElem_cons_succ]
    omega
theorem mem_set_iff {α : Type} {l : List α} {k : Nat} {y z : α} (h : z ∈ l.set k y) : z = y ∨ ∃ j, ∃ hj : j < l.length, j ≠ k ∧ z = l[j] := by
  obtain ⟨j, hj, e⟩ := List.getElem_of_mem h
  rw [List.getElem_set] at e
  split at e
  · exact .inl e.symm
  · rename_i hne
    exact .inr ⟨j, by simpa using hj, fun e' => hne e'.symm, e.symm⟩

def unmark (g : Gift) : Gift := if g.state = 4 then { g with state := 2 } else g
theorem unmark_met (id : Int) (g : Gift) : metW id (unmark g) = metW id g := by
  unfold metW unmark
  by_cases h : g.state = 4
  · rw [if_pos h]
    have e : metB id { g with state := 2 } = metB id g := by
      unfold metB
      simp [h]
    rw [e]
  · rw [if_neg h]
theorem metL_unmark (gs : List Gift) (id : Int) : metL (gs.map unmark) id = metL gs id := by
  unfold metL
  rw [List.map_map]
  congr 1
  refine List.map_congr_left fun g _ => unmark_met id g

structure GiftsOk (gs : List Gift) : Prop where
  ids : ∀ i (h : i < gs.length), gs[i].id = ((i + 1 : Nat) : Int)
  len : gs.length ≤ 500
  worth : ∀ i (h : i < gs.length), 1 ≤ gs[i].worth ∧ gs[i].worth ≤ 1000000000000
  states : ∀ i (h : i < gs.length), 1 ≤ gs[i].state ∧ gs[i].state ≤ 4
  refs : ∀ i (h : i < gs.length), gs[i].returns = 0 ∨ ∃ k, ∃ hk : k < gs.length, gs[i].returns = ((k + 1 : Nat) : Int) ∧ k ≠ i ∧ gs[k].returns = 0 ∧ (gs[k].state = 2 ∨ gs[k].state = 4) ∧ gs[k].frm = gs[i].to ∧ gs[k].to = gs[i].frm
  back : ∀ i (h : i < gs.length), gs[i].returns ≠ 0 → gs[i].state ≠ 4
  marks : ∀ i (h : i < gs.length), gs[i].returns = 0 → (gs[i].state = 4 ↔ (gs[i].state = 2 ∨ gs[i].state = 4) ∧ gs[i].worth ≤ metL gs gs[i].id)
  sides : ∀ i (h : i < gs.length), gs[i].frm ≠ gs[i].to

theorem metW_nonneg {gs : List Gift} (h : GiftsOk gs) {id : Int} {i : Nat} (hi : i < gs.length) : 0 ≤ metW id gs[i] ∧ metW id gs[i] ≤ 1000000000000 := by
  have := h.worth i hi
  unfold metW
  split <;> omega
theorem sum_bounds {α : Type} (f : α → Int) (m : Int) : ∀ (l : List α), (∀ x ∈ l, 0 ≤ f x ∧ f x ≤ m) → 0 ≤ (l.map f).sum ∧ (l.map f).sum ≤ l.length * m
  | [], _ => by simp
  | x :: r, h => by
    have ih := sum_bounds f m r fun y hy => h y (by simp [hy])
    have hx := h x (by simp)
    simp only [List.map_cons, List.sum_cons, List.length_cons]
    refine ⟨by omega, ?_⟩
    rw [Int.natCast_add, Int.add_mul]
    omega
theorem metL_bounds {gs : List Gift} (h : GiftsOk gs) (id : Int) : 0 ≤ metL gs id ∧ metL gs id ≤ 500000000000000 := by
  have := sum_bounds (metW id) 1000000000000 gs fun x hx => by
    obtain ⟨i, hi, rfl⟩ := List.getElem_of_mem hx
    exact metW_nonneg h hi
  have hl := h.len
  unfold metL
  refine ⟨this.1, Int.le_trans this.2 ?_⟩
  omega
theorem metL_none {gs : List Gift} {id : Int} (h : ∀ g ∈ gs, metB id g = false) : metL gs id = 0 := by
  unfold metL
  induction gs with
  | nil => rfl
  | cons g r ih =>
    rw [List.map_cons, List.sum_cons, ih fun x hx => h x (by simp [hx])]
    unfold metW
    rw [if_neg (by rw [h g (by simp)]; decide)]; rfl
theorem metL_snoc (gs : List Gift) (g : Gift) (id : Int) : metL (gs ++ [g]) id = metL gs id + metW id g := by
  unfold metL
  simp [List.sum_append]
theorem metL_set {gs : List Gift} {k : Nat} (hk : k < gs.length) (y : Gift) (id : Int) : metL (gs.set k y) id = metL gs id - metW id gs[k] + metW id y := sum_set (metW id) hk y

theorem GiftsOk.nil : GiftsOk [] :=
  ⟨fun _ h => absurd h (Nat.not_lt_zero _), Nat.zero_le _, fun _ h => absurd h (Nat.not_lt_zero _), fun _ h => absurd h (Nat.not_lt_zero _), fun _ h => absurd h (Nat.not_lt_zero _), fun _ h => absurd h (Nat.not_lt_zero _), fun _ h => absurd h (Nat.not_lt_zero _), fun _ h => absurd h (Nat.not_lt_zero _)⟩

/-- An offer. -/
theorem GiftsOk.offer {gs : List Gift} (h : GiftsOk gs) {g : Gift} (hl : gs.length < 500) (hid : g.id = ((gs.length + 1 : Nat) : Int)) (hw : 1 ≤ g.worth ∧ g.worth ≤ 1000000000000) (hs : g.state = 1) (hft : g.frm ≠ g.to)
    (hr : g.returns = 0 ∨ ∃ k, ∃ hk : k < gs.length, g.returns = ((k + 1 : Nat) : Int) ∧ gs[k].returns = 0 ∧ gs[k].state = 2 ∧ gs[k].frm = g.to ∧ gs[k].to = g.frm) : GiftsOk (gs ++ [g]) := by
  have hm : ∀ id, metW id g = 0 := fun id => by
    unfold metW metB
    rw [if_neg]
    simp [hs]
  have hL : (gs ++ [g]).length = gs.length + 1 := by simp
  have get : ∀ i (hi : i < (gs ++ [g]).length), (∃ hi' : i < gs.length, (gs ++ [g])[i] = gs[i]) ∨ (i = gs.length ∧ (gs ++ [g])[i] = g) := fun i hi => by
    rcases Nat.lt_or_ge i gs.length with h1 | h1
    · exact .inl ⟨h1, List.getElem_append_left h1⟩
    · have : i = gs.length := by omega
      subst this
      exact .inr ⟨rfl, by simp⟩
  refine ⟨fun i hi => ?_, by omega, fun i hi => ?_, fun i hi => ?_, fun i hi => ?_, fun i hi => ?_, fun i hi => ?_, fun i hi => ?_⟩
  · rcases get i hi with ⟨hi', e⟩ | ⟨rfl, e⟩
    · rw [e]; exact h.ids i hi'
    · rw [e]; exact hid
  · rcases get i hi with ⟨hi', e⟩ | ⟨rfl, e⟩
    · rw [e]; exact h.worth i hi'
    · rw [e]; exact hw
  · rcases get i hi with ⟨hi', e⟩ | ⟨rfl, e⟩
    · rw [e]; exact h.states i hi'
    · rw [e, hs]; decide
  · rcases get i hi with ⟨hi', e⟩ | ⟨rfl, e⟩
    · rw [e]
      rcases h.refs i hi' with h1 | ⟨k, hk, h1, h2, h3⟩
      · exact .inl h1
      · exact .inr ⟨k, by omega, h1, h2, by rw [List.getElem_append_left hk]; exact h3⟩
    · rw [e]
      rcases hr with h1 | ⟨k, hk, h1, h2, h3, h4⟩
      · exact .inl h1
      · exact .inr ⟨k, by omega, h1, by omega, by rw [List.getElem_append_left hk]; exact ⟨h2, .inl h3, h4⟩⟩
  · rcases get i hi with ⟨hi', e⟩ | ⟨rfl, e⟩
    · rw [e]; exact h.back i hi'
    · rw [e, hs]; intro _; decide
  · rcases get i hi with ⟨hi', e⟩ | ⟨rfl, e⟩
    · rw [e, metL_snoc, hm, Int.add_zero]; exact h.marks i hi'
    · rw [e, hs]; intro _; simp
  · rcases get i hi with ⟨hi', e⟩ | ⟨rfl, e⟩
    · rw [e]; exact h.sides i hi'
    · rw [e]; exact hft

/-- One that is offered is answered: neither returns it. -/
theorem GiftsOk.unmet {gs : List Gift} (h : GiftsOk gs) {k : Nat} (hk : k < gs.length) (hs : gs[k].state = 1 ∨ gs[k].state = 3) : metL gs gs[k].id = 0 := by
  refine metL_none fun g hg => ?_
  obtain ⟨i, hi, rfl⟩ := List.getElem_of_mem hg
  unfold metB
  refine decide_eq_false ?_
  rintro ⟨h1, _⟩
  rcases h.refs i hi with h2 | ⟨k', hk', h2, _, _, h3, _⟩
  · have := h.ids k hk; omega
  · have := h.ids k hk
    have : k' = k := by omega
    subst this
    omega

theorem GiftsOk.answer {gs : List Gift} (h : GiftsOk gs) {k : Nat} (hk : k < gs.length) (hs : gs[k].state = 1) {y : Gift} (hy : y.id = gs[k].id ∧ y.worth = gs[k].worth ∧ y.returns = gs[k].returns ∧ y.frm = gs[k].frm ∧ y.to = gs[k].to)
    (hst : y.state = 3 ∨ y.state = 2 ∧ gs[k].returns = 0) : GiftsOk (gs.set k y) := by
  obtain ⟨y1, y2, y3, y4, y5⟩ := hy
  have hm : ∀ id, 1 ≤ id → metW id y = metW id gs[k] := fun id hid => by
    unfold metW metB
    rw [y2, y3]
    rcases hst with h3 | ⟨h3, h4⟩
    · rw [if_neg (by simp [h3]), if_neg (by simp [hs])]
    · rw [if_neg (by simp [h3, h4]; omega), if_neg (by simp [hs])]
  have hm' : ∀ id, 1 ≤ id → metL (gs.set k y) id = metL gs id := fun id hid => by rw [metL_set hk, hm id hid]; omega
  have get : ∀ i (hi : i < (gs.set k y).length), i < gs.length ∧ ((i = k ∧ (gs.set k y)[i] = y) ∨ (i ≠ k ∧ ∃ hi' : i < gs.length, (gs.set k y)[i] = gs[i])) := fun i hi => by
    have hi' : i < gs.length := by simpa using hi
    refine ⟨hi', ?_⟩
    rw [List.getElem_set]
    split
    · rename_i e; exact .inl ⟨e.symm, rfl⟩
    · rename_i e; exact .inr ⟨fun e' => e e'.symm, hi', rfl⟩
  refine ⟨fun i hi => ?_, by simpa using h.len, fun i hi => ?_, fun i hi => ?_, fun i hi => ?_, fun i hi => ?_, fun i hi => ?_, fun i hi => ?_⟩
  · obtain ⟨hi0, ⟨rfl, e⟩ | ⟨hne, hi', e⟩⟩ := get i hi
    · rw [e, y1]; exact h.ids i hi0
    · rw [e]; exact h.ids i hi'
  · obtain ⟨hi0, ⟨rfl, e⟩ | ⟨hne, hi', e⟩⟩ := get i hi
    · rw [e, y2]; exact h.worth i hi0
    · rw [e]; exact h.worth i hi'
  · obtain ⟨hi0, ⟨rfl, e⟩ | ⟨hne, hi', e⟩⟩ := get i hi
    · rw [e]; rcases hst with h3 | ⟨h3, _⟩ <;> rw [h3] <;> decide
    · rw [e]; exact h.states i hi'
  · have other : ∀ j (hj : j < gs.length), (gs[j].state = 2 ∨ gs[j].state = 4) → ∃ hj' : j < (gs.set k y).length, (gs.set k y)[j] = gs[j] := fun j hj hjs => by
      refine ⟨by simpa using hj, ?_⟩
      rw [List.getElem_set, if_neg]
      rintro rfl
      omega
    obtain ⟨hi0, ⟨rfl, e⟩ | ⟨hne, hi', e⟩⟩ := get i hi
    · rw [e, y3, y4, y5]
      rcases h.refs i hi0 with h1 | ⟨j, hj, h1, h2, h3, h4, h5⟩
      · exact .inl h1
      · obtain ⟨hj', ej⟩ := other j hj h4
        exact .inr ⟨j, hj', h1, h2, by rw [ej]; exact ⟨h3, h4, h5⟩⟩
    · rw [e]
      rcases h.refs i hi' with h1 | ⟨j, hj, h1, h2, h3, h4, h5⟩
      · exact .inl h1
      · obtain ⟨hj', ej⟩ := other j hj h4
        exact .inr ⟨j, hj', h1, h2, by rw [ej]; exact ⟨h3, h4, h5⟩⟩
  · obtain ⟨hi0, ⟨rfl, e⟩ | ⟨hne, hi', e⟩⟩ := get i hi
    · rw [e]; intro _; rcases hst with h3 | ⟨h3, _⟩ <;> rw [h3] <;> decide
    · rw [e]; exact h.back i hi'
  · obtain ⟨hi0, ⟨rfl, e⟩ | ⟨hne, hi', e⟩⟩ := get i hi
    · rw [e, y1, y2, y3]
      intro hr
      rw [hm' _ (by have := h.ids i hi0; omega), h.unmet hi0 (.inl hs)]
      have := h.worth i hi0
      rcases hst with h3 | ⟨h3, _⟩ <;> rw [h3] <;> constructor <;> intro h6 <;> omega
    · rw [e]
      intro hr
      rw [hm' _ (by have := h.ids i hi'; omega)]
      exact h.marks i hi' hr
  · obtain ⟨hi0, ⟨rfl, e⟩ | ⟨hne, hi', e⟩⟩ := get i hi
    · rw [e, y4, y5]; exact h.sides i hi0
    · rw [e]; exact h.sides i hi'

set_option maxHeartbeats 4000000 in
/-- A gift that returns another one is taken. -/
theorem GiftsOk.pay {gs : List Gift} (h : GiftsOk gs) {k j : Nat} (hk : k < gs.length) (hj : j < gs.length) (hkj : j ≠ k) (hs : gs[k].state = 1) (hr : gs[k].returns = ((j + 1 : Nat) : Int)) {y z : Gift} (hy : y.id = gs[k].id ∧ y.worth = gs[k].worth ∧ y.returns = gs[k].returns ∧ y.frm = gs[k].frm ∧ y.to = gs[k].to) (hy2 : y.state = 2)
    (hz : z.id = gs[j].id ∧ z.worth = gs[j].worth ∧ z.returns = gs[j].returns ∧ z.frm = gs[j].frm ∧ z.to = gs[j].to) (hzs : z.state = if gs[j].worth ≤ metL gs gs[k].returns + gs[k].worth then 4 else gs[j].state) :
    GiftsOk ((gs.set k y).set j z) ∧ ∀ id, metL ((gs.set k y).set j z) id = metL gs id + if id = gs[k].returns then gs[k].worth else 0 := by
  obtain ⟨y1, y2, y3, y4, y5⟩ := hy
  obtain ⟨z1, z2, z3, z4, z5⟩ := hz
  have hdebt : gs[j].returns = 0 ∧ (gs[j].state = 2 ∨ gs[j].state = 4) := by
    rcases h.refs k hk with h1 | ⟨j', hj', h1, _, h3, h4, _⟩
    · omega
    · have : j' = j := by omega
      subst this
      exact ⟨h3, h4⟩
  obtain ⟨hd0, hd1⟩ := hdebt
  have hzst : z.state = 2 ∨ z.state = 4 := by
    rw [hzs]; split
    · exact .inr rfl
    · exact hd1
  have hmy : ∀ id, metW id y = if id = gs[k].returns then gs[k].worth else 0 := fun id => by
    unfold metW metB
    rw [y2, y3, hy2]
    by_cases e : id = gs[k].returns
    · rw [if_pos e, if_pos (by simp [e])]
    · rw [if_neg e, if_neg (by simp; exact fun e' => e e'.symm)]
  have hmk : ∀ id, metW id gs[k] = 0 := fun id => by
    unfold metW metB
    rw [if_neg (by simp [hs])]
  have hmz : ∀ id, metW id z = metW id gs[j] := fun id => by
    unfold metW metB
    rw [z2, z3]
    by_cases e : gs[j].returns = id
    · rw [if_pos (by simp [e]; exact hzst), if_pos (by simp [e]; exact hd1)]
    · rw [if_neg (by simp [e]), if_neg (by simp [e])]
  have hjs : j < (gs.set k y).length := by simpa using hj
  have gj : (gs.set k y)[j] = gs[j] := by rw [List.getElem_set, if_neg (fun e => hkj e.symm)]
  have hm : ∀ id, metL ((gs.set k y).set j z) id = metL gs id + if id = gs[k].returns then gs[k].worth else 0 := fun id => by
    rw [metL_set hjs, metL_set hk, gj, hmz, hmk, hmy]; omega
  refine ⟨?_, hm⟩
  have get : ∀ i (hi : i < ((gs.set k y).set j z).length), i < gs.length ∧ ((i = k ∧ ((gs.set k y).set j z)[i] = y) ∨ (i = j ∧ ((gs.set k y).set j z)[i] = z) ∨ (i ≠ k ∧ i ≠ j ∧ ∃ hi' : i < gs.length, ((gs.set k y).set j z)[i] = gs[i])) := fun i hi => by
    have hi' : i < gs.length := by simpa using hi
    refine ⟨hi', ?_⟩
    rw [List.getElem_set]
    split
    · rename_i e; exact .inr (.inl ⟨e.symm, rfl⟩)
    · rename_i e
      rw [List.getElem_set]
      split
      · rename_i e2; exact .inl ⟨e2.symm, rfl⟩
      · rename_i e2; exact .inr (.inr ⟨fun e' => e2 e'.symm, fun e' => e e'.symm, hi', rfl⟩)
  have hjd : ∃ hj' : j < ((gs.set k y).set j z).length, ((gs.set k y).set j z)[j] = z := ⟨by simpa using hj, by simp⟩
  have other : ∀ m (hm : m < gs.length), (gs[m].state = 2 ∨ gs[m].state = 4) → m ≠ j → ∃ hm' : m < ((gs.set k y).set j z).length, ((gs.set k y).set j z)[m] = gs[m] := fun m hm hms hne => by
    refine ⟨by simpa using hm, ?_⟩
    rw [List.getElem_set, if_neg (fun e => hne e.symm), List.getElem_set, if_neg]
    rintro rfl
    omega
  have refs' : ∀ i (hi' : i < gs.length) (x : Gift), x.returns = gs[i].returns → x.to = gs[i].to → x.frm = gs[i].frm → x.returns = 0 ∨ ∃ m, ∃ hm : m < ((gs.set k y).set j z).length, x.returns = ((m + 1 : Nat) : Int) ∧ m ≠ i ∧ ((gs.set k y).set j z)[m].returns = 0 ∧ (((gs.set k y).set j z)[m].state = 2 ∨ ((gs.set k y).set j z)[m].state = 4) ∧ ((gs.set k y).set j z)[m].frm = x.to ∧ ((gs.set k y).set j z)[m].to = x.frm := by
    intro i hi' x x1 x2 x3
    rw [x1, x2, x3]
    rcases h.refs i hi' with h1 | ⟨m, hm, h1, h2, h3, h4, h5⟩
    · exact .inl h1
    · by_cases hmj : m = j
      · subst hmj
        obtain ⟨hj', ej⟩ := hjd
        exact .inr ⟨m, hj', h1, h2, by rw [ej, z3, z4, z5]; exact ⟨h3, hzst, h5⟩⟩
      · obtain ⟨hm', em⟩ := other m hm h4 hmj
        exact .inr ⟨m, hm', h1, h2, by rw [em]; exact ⟨h3, h4, h5⟩⟩
  refine ⟨fun i hi => ?_, by simpa using h.len, fun i hi => ?_, fun i hi => ?_, fun i hi => ?_, fun i hi => ?_, fun i hi => ?_, fun i hi => ?_⟩
  · obtain ⟨hi0, ⟨rfl, e⟩ | ⟨rfl, e⟩ | ⟨hne, hne2, hi', e⟩⟩ := get i hi
    · rw [e, y1]; exact h.ids i hi0
    · rw [e, z1]; exact h.ids i hi0
    · rw [e]; exact h.ids i hi'
  · obtain ⟨hi0, ⟨rfl, e⟩ | ⟨rfl, e⟩ | ⟨hne, hne2, hi', e⟩⟩ := get i hi
    · rw [e, y2]; exact h.worth i hi0
    · rw [e, z2]; exact h.worth i hi0
    · rw [e]; exact h.worth i hi'
  · obtain ⟨hi0, ⟨rfl, e⟩ | ⟨rfl, e⟩ | ⟨hne, hne2, hi', e⟩⟩ := get i hi
    · rw [e, hy2]; decide
    · rw [e]; rcases hzst with h3 | h3 <;> rw [h3] <;> decide
    · rw [e]; exact h.states i hi'
  · obtain ⟨hi0, ⟨rfl, e⟩ | ⟨rfl, e⟩ | ⟨hne, hne2, hi', e⟩⟩ := get i hi
    · rw [e]; exact refs' i hi0 y y3 y5 y4
    · rw [e]; exact refs' i hi0 z z3 z5 z4
    · rw [e]; exact refs' i hi' gs[i] rfl rfl rfl
  · obtain ⟨hi0, ⟨rfl, e⟩ | ⟨rfl, e⟩ | ⟨hne, hne2, hi', e⟩⟩ := get i hi
    · rw [e, hy2]; intro _; decide
    · rw [e, z3]; intro h3; exact absurd hd0 h3
    · rw [e]; exact h.back i hi'
  · obtain ⟨hi0, ⟨rfl, e⟩ | ⟨rfl, e⟩ | ⟨hne, hne2, hi', e⟩⟩ := get i hi
    · rw [e, y3]; intro h3; omega
    · rw [e, z1, z2, z3, hm]
      intro _
      have hidj := h.ids i hi0
      have hmark := h.marks i hi0 hd0
      have e1 : gs[i].id = gs[k].returns := by omega
      rw [if_pos e1, hzs, ← e1]
      have hwk := h.worth k hk
      by_cases hc : gs[i].worth ≤ metL gs gs[i].id + gs[k].worth
      · rw [if_pos hc]; exact ⟨fun _ => ⟨.inr rfl, hc⟩, fun _ => rfl⟩
      · rw [if_neg hc]
        constructor
        · intro h4
          have := (hmark.1 h4).2
          omega
        · intro h4; exact absurd h4.2 hc
    · rw [e, hm]
      intro h3
      have hidi := h.ids i hi'
      rw [if_neg (by omega), Int.add_zero]
      exact h.marks i hi' h3
  · obtain ⟨hi0, ⟨rfl, e⟩ | ⟨rfl, e⟩ | ⟨hne, hne2, hi', e⟩⟩ := get i hi
    · rw [e, y4, y5]; exact h.sides i hi0
    · rw [e, z4, z5]; exact h.sides i hi0
    · rw [e]; exact h.sides i hi'

end Go.Proofs.YtcnbpfecgokhiaaGreatDoor

namespace Go.Proofs.YtcnbpfecgokhiaaGreatDoor
open Go.Eng Go.RowKit

theorem acc_inv {es : List Entry} {x : Entry} (h : Acc (es ++ [x])) : Acc es ∧ ∃ sg, doE sg es x = 0 := by
  generalize hl : es ++ [x] = l at h
  cases h with
  | nil => simp at hl
  | snoc sg h1 h2 =>
    obtain ⟨h3, h4⟩ := List.append_inj' hl rfl
    injection h4 with h4 _
    subst h3; subst h4
    exact ⟨h1, sg, h2⟩
theorem acc_take : ∀ {es : List Entry} (r : List Entry), Acc (es ++ r) → Acc es
  | es, [], h => by rw [List.append_nil] at h; exact h
  | es, x :: r, h => by
    have : es ++ x :: r = (es ++ [x]) ++ r := by simp
    rw [this] at h
    exact (acc_inv (acc_take r h)).1
theorem acc_front {es : List Entry} (h : Acc es) (n : Nat) : Acc (es.take n) := acc_take (es.drop n) (by rw [List.take_append_drop]; exact h)

theorem do_zero {sg : Int} {es : List Entry} {x : Entry} (h : doE sg es x = 0) : formX x = true ∧ lastDay es ≤ x.day ∧ refusedE sg es x = 0 := by
  unfold doE at h
  split at h
  · cases h
  · rename_i h1
    split at h
    · cases h
    · rename_i h2
      exact ⟨by simpa using h1, by omega, h⟩
theorem form_okE {x : Entry} (h : formX x = true) : okE x = true ∧ x = wantE x ∧ (0 ≤ x.day ∧ x.day ≤ 100000) := by
  unfold formX at h
  simp only [Bool.and_eq_true, decide_eq_true_eq] at h
  exact ⟨h.1.1, h.1.2, h.2⟩
theorem ok_kind {x : Entry} (h : okE x = true) : x.kind = 1 ∨ x.kind = 2 ∨ x.kind = 3 ∨ x.kind = 4 ∨ x.kind = 5 ∨ x.kind = 6 ∨ x.kind = 7 := by
  refine Decidable.byContradiction fun hn => ?_
  unfold okE at h
  rw [if_neg (by omega), if_neg (by omega), if_neg (by omega), if_neg (by omega), if_neg (by omega), if_neg (by omega)] at h
  cases h

structure AccOk (es : List Entry) : Prop where
  forms : ∀ x ∈ es, formX x = true
  days : es.Pairwise fun a b => a.day ≤ b.day
  last : ∀ x ∈ es, x.day ≤ lastDay es
  gifts : GiftsOk (giftL es)
  base : baseL es = (giftL es).map unmark
  wids : ∀ i (h : i < (waivL es).length), (waivL es)[i].id = ((i + 1 : Nat) : Int)
  wlen : (waivL es).length ≤ 500
  gids : (grantsL es).length = (waivL es).length ∧ ∀ i (h : i < (grantsL es).length), (grantsL es)[i].id = ((i + 1 : Nat) : Int)
  dues : (dueL es).Pairwise fun a b => ¬ (a.cred = b.cred ∧ a.debt = b.debt)
  once : ∀ d ∈ dueL es, owesB (dueL es) d.debt d.cred = false
  rate : ∀ c, 0 ≤ rateL es c ∧ rateL es c ≤ 1000000
  ceil : ∀ s, 0 ≤ ceilL es s ∧ ceilL es s ≤ 1000000000000

theorem lastDay_snoc (es : List Entry) (x : Entry) : lastDay (es ++ [x]) = x.day := by simp [lastDay]

theorem owes_iff {l : List Due} {c d : Int} : owesB l c d = true ↔ ∃ x ∈ l, x.cred = c ∧ x.debt = d := by
  unfold owesB
  rw [List.any_eq_true]
  simp

theorem unmark_set {gs : List Gift} {k : Nat} {y : Gift} (f : Gift) (h : unmark y = f) : (gs.set k y).map unmark = (gs.map unmark).set k f := by
  rw [List.map_set, h]

theorem gift_offer {es : List Entry} {x : Entry} (h : AccOk es) (hf : rightG x.g = true) (hr : offeredE es x.g = 0) :
    GiftsOk (giftL es ++ [{ x.g with worth := x.g.n * rateL es x.g.cur, state := 1 }]) := by
  have hrate := h.rate x.g.cur
  have hG := h.gifts
  unfold offeredE at hr
  generalize giftL es = gs at *
  generalize rateL es x.g.cur = rt at *
  simp only [rightG, Bool.and_eq_true, decide_eq_true_eq, Bool.not_eq_true', decide_eq_false_iff_not] at hf
  obtain ⟨⟨⟨⟨⟨⟨⟨f1, f2⟩, f3⟩, f4⟩, f5⟩, f6⟩, f7⟩, f8⟩ := hf
  split at hr
  · cases hr
  rename_i r1
  split at hr
  · cases hr
  rename_i r2
  split at hr
  · cases hr
  rename_i r3
  split at hr
  · cases hr
  rename_i r4
  split at hr
  · cases hr
  rename_i r5
  have hid : x.g.id = ((gs.length + 1 : Nat) : Int) := by omega
  have hmul : 1 ≤ x.g.n * rt ∧ x.g.n * rt ≤ 1000000000000 := by
    constructor
    · have : 1 * 1 ≤ x.g.n * rt := Int.mul_le_mul (by omega) (by omega) (by omega) (by omega)
      omega
    · have : x.g.n * rt ≤ 1000000 * 1000000 := Int.mul_le_mul (by omega) (by omega) (by omega) (by omega)
      omega
  refine hG.offer (by omega) hid hmul rfl f4 ?_
  by_cases hz : x.g.returns = 0
  · exact .inl hz
  · obtain ⟨k, hk, he⟩ := num_of (n := gs.length) (i := x.g.returns) (by omega) (by omega)
    refine .inr ⟨k, hk, he, ?_⟩
    have r5' := fun hh => r5 ⟨by omega, hh⟩
    simp only [he, atN_get hk] at r5'
    have := Decidable.not_not.1 r5'
    exact ⟨this.2.2.1, this.2.2.2, this.1, this.2.1⟩

theorem gift_answered {es : List Entry} {x : Entry} {id : Int} (h1 : 1 ≤ id) (hr : (if id > (giftL es).length then (5 : Int) else if ¬ (atN (giftL es) id).state = 1 then 8 else 0) = 0) : ∃ k, ∃ hk : k < (giftL es).length, id = ((k + 1 : Nat) : Int) ∧ (giftL es)[k].state = 1 := by
  split at hr
  · cases hr
  rename_i r1
  split at hr
  · cases hr
  rename_i r2
  obtain ⟨k, hk, he⟩ := num_of (n := (giftL es).length) (i := id) h1 (by omega)
  refine ⟨k, hk, he, ?_⟩
  rw [he, atN_get hk] at r2
  exact Decidable.not_not.1 r2

theorem gift_step {sg : Int} {es : List Entry} {x : Entry} (h : AccOk es) (hf : formX x = true) (hr : refusedE sg es x = 0) : GiftsOk (giftL (es ++ [x])) ∧ baseL (es ++ [x]) = (giftL (es ++ [x])).map unmark := by
  obtain ⟨hok, hw, hd⟩ := form_okE hf
  have hG := h.gifts
  have hB := h.base
  rw [giftL_snoc, baseL_snoc, hB]
  unfold giftS meetS baseS
  rcases ok_kind hok with hk | hk | hk | hk | hk | hk | hk
  · rw [if_neg (by omega), if_neg (by omega), if_neg (by omega), if_neg (by omega), if_neg (by omega), if_neg (by omega), if_neg (by omega)]; exact ⟨hG, rfl⟩
  · rw [if_neg (by omega), if_neg (by omega), if_neg (by omega), if_neg (by omega), if_neg (by omega), if_neg (by omega), if_neg (by omega)]; exact ⟨hG, rfl⟩
  · rw [if_neg (by omega), if_neg (by omega), if_neg (by omega), if_neg (by omega), if_neg (by omega), if_neg (by omega), if_neg (by omega)]; exact ⟨hG, rfl⟩
  · rw [if_neg (by omega), if_neg (by omega), if_neg (by omega), if_neg (by omega), if_neg (by omega), if_neg (by omega), if_neg (by omega)]; exact ⟨hG, rfl⟩
  · have hro : offeredE es x.g = 0 := by
      unfold refusedE at hr
      rw [if_neg (by omega), if_neg (by omega), if_pos hk] at hr
      exact hr
    have hrg : rightG x.g = true := by
      unfold okE at hok
      rw [if_neg (by omega), if_neg (by omega), if_neg (by omega), if_neg (by omega), if_pos hk, Bool.and_eq_true] at hok
      exact hok.1
    rw [if_pos hk, if_neg (by omega), if_pos hk]
    refine ⟨gift_offer h hrg hro, ?_⟩
    rw [List.map_append]
    rfl
  · have hri : (if x.g.id > (giftL es).length then (5 : Int) else if ¬ (atN (giftL es) x.g.id).state = 1 then 8 else 0) = 0 := by
      unfold refusedE at hr
      rw [if_neg (by omega), if_neg (by omega), if_neg (by omega), if_pos (.inl hk)] at hr
      exact hr
    have hid : 1 ≤ x.g.id := by
      unfold okE at hok
      rw [if_neg (by omega), if_neg (by omega), if_neg (by omega), if_neg (by omega), if_neg (by omega), if_pos (.inl hk), decide_eq_true_eq] at hok
      omega
    obtain ⟨k, hkl, he, hs⟩ := gift_answered (x := x) hid hri
    simp only [hk, Int.reduceEq, if_true, if_false, he]
    rw [updAt_eq hkl]
    have hkl' : k < ((giftL es).map unmark).length := by simpa using hkl
    rw [updAt_eq hkl']
    have hum : takeG x.day (((giftL es).map unmark)[k]) = takeG x.day (giftL es)[k] := by
      rw [List.getElem_map]
      unfold unmark
      split <;> rfl
    rw [hum]
    generalize giftL es = gs at *
    have hks : k < (gs.set k (takeG x.day gs[k])).length := by simpa using hkl
    have hat : atN (gs.set k (takeG x.day gs[k])) ((k + 1 : Nat) : Int) = takeG x.day gs[k] := by rw [atN_get hks]; simp
    rw [hat]
    have hret : (takeG x.day gs[k]).returns = gs[k].returns := rfl
    rw [hret]
    rcases hG.refs k hkl with h0 | ⟨j, hj, h1, h2, h3, h4, h5⟩
    · rw [if_pos h0]
      refine ⟨hG.answer hkl hs ⟨rfl, rfl, rfl, rfl, rfl⟩ (.inr ⟨rfl, h0⟩), ?_⟩
      rw [unmark_set (takeG x.day gs[k]) rfl]
    · rw [if_neg (by omega)]
      have hjs : j < (gs.set k (takeG x.day gs[k])).length := by simpa using hj
      have gj : (gs.set k (takeG x.day gs[k]))[j] = gs[j] := by rw [List.getElem_set, if_neg (fun e => h2 e.symm)]
      have hmet : metL (gs.set k (takeG x.day gs[k])) gs[k].returns = metL gs gs[k].returns + gs[k].worth := by
        rw [metL_set hkl]
        have e1 : metW gs[k].returns gs[k] = 0 := by unfold metW metB; rw [if_neg (by simp [hs])]
        have e2 : metW gs[k].returns (takeG x.day gs[k]) = gs[k].worth := by unfold metW metB takeG; rw [if_pos (by simp)]
        omega
      rw [hmet]
      have hatj : atN (gs.set k (takeG x.day gs[k])) gs[k].returns = gs[j] := by rw [h1, atN_get hjs, gj]
      rw [hatj]
      have hupd : updAt (gs.set k (takeG x.day gs[k])) gs[k].returns backG = (gs.set k (takeG x.day gs[k])).set j (backG gs[j]) := by rw [h1, updAt_eq hjs, gj]
      rw [hupd]
      have hsame : gs.set k (takeG x.day gs[k]) = (gs.set k (takeG x.day gs[k])).set j gs[j] := by
        rw [← gj, List.set_getElem_self]
      have hback : unmark (backG gs[j]) = unmark gs[j] := by
        unfold unmark backG
        rcases h4 with h4 | h4
        · rw [if_pos rfl, if_neg (by omega)]
          cases hg : gs[j]
          rw [hg] at h4
          simp at h4 ⊢
          exact h4.symm
        · rw [if_pos rfl, if_pos h4]
      have hbase : (gs.map unmark).set k (takeG x.day gs[k]) = ((gs.set k (takeG x.day gs[k])).map unmark).set j (unmark gs[j]) := by
        rw [unmark_set (takeG x.day gs[k]) rfl]
        have hj3 : j < ((gs.map unmark).set k (takeG x.day gs[k])).length := by simpa using hj
        have : ((gs.map unmark).set k (takeG x.day gs[k]))[j] = unmark gs[j] := by rw [List.getElem_set, if_neg (fun e => h2 e.symm), List.getElem_map]
        rw [← this, List.set_getElem_self]
      by_cases hc : gs[j].worth ≤ metL gs gs[k].returns + gs[k].worth
      · rw [if_pos hc]
        refine ⟨(hG.pay (y := takeG x.day gs[k]) (z := backG gs[j]) hkl hj h2 hs h1 ⟨rfl, rfl, rfl, rfl, rfl⟩ rfl ⟨rfl, rfl, rfl, rfl, rfl⟩ (by rw [if_pos hc]; rfl)).1, ?_⟩
        rw [List.map_set, hback, hbase]
      · rw [if_neg hc]
        refine ⟨?_, ?_⟩
        · rw [hsame]
          exact (hG.pay (y := takeG x.day gs[k]) (z := gs[j]) hkl hj h2 hs h1 ⟨rfl, rfl, rfl, rfl, rfl⟩ rfl ⟨rfl, rfl, rfl, rfl, rfl⟩ (by rw [if_neg hc])).1
        · rw [unmark_set (takeG x.day gs[k]) rfl]
  · have hri : (if x.g.id > (giftL es).length then (5 : Int) else if ¬ (atN (giftL es) x.g.id).state = 1 then 8 else 0) = 0 := by
      unfold refusedE at hr
      rw [if_neg (by omega), if_neg (by omega), if_neg (by omega), if_pos (.inr hk)] at hr
      exact hr
    have hid : 1 ≤ x.g.id := by
      unfold okE at hok
      rw [if_neg (by omega), if_neg (by omega), if_neg (by omega), if_neg (by omega), if_neg (by omega), if_pos (.inr hk), decide_eq_true_eq] at hok
      omega
    obtain ⟨k, hkl, he, hs⟩ := gift_answered (x := x) hid hri
    simp only [hk, Int.reduceEq, if_true, if_false, he]
    rw [updAt_eq hkl]
    have hkl' : k < ((giftL es).map unmark).length := by simpa using hkl
    rw [updAt_eq hkl']
    have hum : refuseG x.day (((giftL es).map unmark)[k]) = refuseG x.day (giftL es)[k] := by
      rw [List.getElem_map]
      unfold unmark
      split <;> rfl
    rw [hum]
    refine ⟨hG.answer hkl hs ⟨rfl, rfl, rfl, rfl, rfl⟩ (.inl rfl), ?_⟩
    rw [unmark_set (refuseG x.day (giftL es)[k]) rfl]

theorem waiv_step {sg : Int} {es : List Entry} {x : Entry} (h : AccOk es) (hf : formX x = true) (hr : refusedE sg es x = 0) :
    (∀ i (hi : i < (waivL (es ++ [x])).length), (waivL (es ++ [x]))[i].id = ((i + 1 : Nat) : Int)) ∧ (waivL (es ++ [x])).length ≤ 500 ∧
    ((grantsL (es ++ [x])).length = (waivL (es ++ [x])).length ∧ ∀ i (hi : i < (grantsL (es ++ [x])).length), (grantsL (es ++ [x]))[i].id = ((i + 1 : Nat) : Int)) := by
  obtain ⟨hok, hw, hd⟩ := form_okE hf
  have h1 := h.wids
  have h2 := h.wlen
  have h3 := h.gids
  simp only [waivL_snoc, grantsL_snoc]
  by_cases k3 : x.kind = 3
  · have hro : grantedE sg es x.w = 0 := by
      unfold refusedE at hr
      rw [if_pos k3] at hr
      exact hr
    unfold grantedE at hro
    split at hro
    · cases hro
    rename_i r1
    split at hro
    · cases hro
    rename_i r2
    have r2 : x.w.id = (waivL es).length + 1 := Decidable.not_not.1 r2
    have e1 : waivS (waivL es) x = waivL es ++ [x.w] := if_pos k3
    simp only [e1, if_pos k3, List.length_append, List.length_singleton]
    refine ⟨fun i hi => ?_, by omega, by omega, fun i hi => ?_⟩
    · rw [List.getElem_append]
      split
      · rename_i hl; exact h1 i hl
      · rename_i hl; simp only [List.getElem_singleton]; rw [r2]; omega
    · rw [List.getElem_append]
      split
      · rename_i hl; exact h3.2 i hl
      · rename_i hl; simp only [List.getElem_singleton]; rw [r2]; omega
  · simp only [if_neg k3, List.append_nil]
    by_cases k4 : x.kind = 4
    · have e1 : waivS (waivL es) x = updAt (waivL es) x.w.id (endW x.day) := by unfold waivS; rw [if_neg k3, if_pos k4]
      have hri : (if x.w.id > (waivL es).length then (5 : Int) else if (atN (waivL es) x.w.id).til ≤ x.day then 8 else 0) = 0 := by
        unfold refusedE at hr
        rw [if_neg (by omega), if_pos k4] at hr
        exact hr
      have hid : 1 ≤ x.w.id := by
        unfold okE at hok
        rw [if_neg (by omega), if_neg (by omega), if_neg (by omega), if_pos k4, decide_eq_true_eq] at hok
        omega
      split at hri
      · cases hri
      rename_i r1
      obtain ⟨k, hk, he⟩ := num_of (n := (waivL es).length) (i := x.w.id) hid (by omega)
      rw [he, updAt_eq hk] at e1
      simp only [e1, List.length_set]
      refine ⟨fun i hi => ?_, h2, h3⟩
      rw [List.getElem_set]
      split
      · rename_i hki; subst hki; exact h1 k hk
      · exact h1 i (by simpa using hi)
    · have e1 : waivS (waivL es) x = waivL es := by unfold waivS; rw [if_neg k3, if_neg k4]
      simp only [e1]
      exact ⟨h1, h2, h3⟩

theorem due_step {sg : Int} {es : List Entry} {x : Entry} (h : AccOk es) (hf : formX x = true) (hr : refusedE sg es x = 0) :
    (dueL (es ++ [x])).Pairwise (fun a b => ¬ (a.cred = b.cred ∧ a.debt = b.debt)) ∧ ∀ d ∈ dueL (es ++ [x]), owesB (dueL (es ++ [x])) d.debt d.cred = false := by
  obtain ⟨hok, hw, hd⟩ := form_okE hf
  rw [dueL_snoc]
  by_cases k3 : x.kind = 3
  · rw [if_pos k3]
    have hro : grantedE sg es x.w = 0 := by
      unfold refusedE at hr
      rw [if_pos k3] at hr
      exact hr
    unfold grantedE at hro
    split at hro
    · cases hro
    split at hro
    · cases hro
    split at hro
    · rename_i r3; exact absurd hro r3
    split at hro
    · cases hro
    rename_i r4
    have hne : x.w.giver ≠ x.w.taker := by
      unfold okE at hok
      rw [if_neg (by omega), if_neg (by omega), if_pos k3, Bool.and_eq_true] at hok
      have := hok.1
      unfold rightW at this
      simp only [Bool.and_eq_true] at this
      simpa using this.1.1.1.1.1.1.1.2
    unfold dueS
    split
    · rename_i hb
      refine ⟨h.dues.filter _, fun d hd => ?_⟩
      have h1 := h.once d (List.mem_filter.1 hd).1
      refine Bool.eq_false_iff.2 fun hc => ?_
      obtain ⟨y, hy, e⟩ := owes_iff.1 hc
      rw [Bool.eq_false_iff] at h1
      exact h1 (owes_iff.2 ⟨y, (List.mem_filter.1 hy).1, e⟩)
    · rename_i hb
      have r4' : ∀ y ∈ dueL es, ¬ (y.cred = x.w.giver ∧ y.debt = x.w.taker) := fun y hy e => r4 (owes_iff.2 ⟨y, hy, e⟩)
      have hb' : ∀ y ∈ dueL es, ¬ (y.cred = x.w.taker ∧ y.debt = x.w.giver) := fun y hy e => hb (List.any_eq_true.2 ⟨y, hy, decide_eq_true e⟩)
      refine ⟨List.pairwise_append.2 ⟨h.dues, List.pairwise_singleton _ _, fun a ha b hb2 => ?_⟩, fun d hd => ?_⟩
      · rw [List.mem_singleton.1 hb2]; exact r4' a ha
      · refine Bool.eq_false_iff.2 fun hc => ?_
        obtain ⟨y, hy, e1, e2⟩ := owes_iff.1 hc
        rcases List.mem_append.1 hd with hd | hd
        · rcases List.mem_append.1 hy with hy | hy
          · have h1 := h.once d hd
            rw [Bool.eq_false_iff] at h1
            exact h1 (owes_iff.2 ⟨y, hy, e1, e2⟩)
          · rw [List.mem_singleton.1 hy] at e1 e2
            exact hb' d hd ⟨e2.symm, e1.symm⟩
        · rw [List.mem_singleton.1 hd] at e1 e2
          rcases List.mem_append.1 hy with hy | hy
          · exact hb' y hy ⟨e1, e2⟩
          · rw [List.mem_singleton.1 hy] at e1 e2
            exact hne e1
  · rw [if_neg k3]; exact ⟨h.dues, h.once⟩

theorem acc_step {sg : Int} {es : List Entry} {x : Entry} (h : AccOk es) (hx : doE sg es x = 0) : AccOk (es ++ [x]) := by
  obtain ⟨hf, hl, hr⟩ := do_zero hx
  obtain ⟨hok, hw, hd⟩ := form_okE hf
  obtain ⟨g1, g2⟩ := gift_step h hf hr
  obtain ⟨w1, w2, w3⟩ := waiv_step h hf hr
  obtain ⟨d1, d2⟩ := due_step h hf hr
  refine ⟨fun y hy => ?_, ?_, fun y hy => ?_, g1, g2, w1, w2, w3, d1, d2, fun c => ?_, fun s => ?_⟩
  · rcases List.mem_append.1 hy with hy | hy
    · exact h.forms y hy
    · rw [List.mem_singleton.1 hy]; exact hf
  · refine List.pairwise_append.2 ⟨h.days, List.pairwise_singleton _ _, fun a ha b hb => ?_⟩
    rw [List.mem_singleton.1 hb]
    exact Int.le_trans (h.last a ha) hl
  · rw [lastDay_snoc]
    rcases List.mem_append.1 hy with hy | hy
    · exact Int.le_trans (h.last y hy) hl
    · rw [List.mem_singleton.1 hy]; exact Int.le_refl _
  · rw [rateL_snoc]
    unfold rateS
    split
    · rename_i hk
      unfold okE at hok
      rw [if_pos hk.1, Bool.and_eq_true] at hok
      have := of_decide_eq_true hok.2
      omega
    · exact h.rate c
  · rw [ceilL_snoc]
    unfold ceilS
    split
    · rename_i hk
      unfold okE at hok
      rw [if_neg (by omega), if_pos hk.1, Bool.and_eq_true] at hok
      have := of_decide_eq_true hok.2
      omega
    · exact h.ceil s

theorem acc_ok {es : List Entry} (h : Acc es) : AccOk es := by
  induction h with
  | nil => exact ⟨fun _ h => (by cases h), List.Pairwise.nil, fun _ h => (by cases h), GiftsOk.nil, rfl, fun _ h => absurd h (Nat.not_lt_zero _), Nat.zero_le _, ⟨rfl, fun _ h => absurd h (Nat.not_lt_zero _)⟩, List.Pairwise.nil, fun _ h => (by cases h), fun c => ⟨Int.le_refl 0, by show (0 : Int) ≤ 1000000; decide⟩, fun s => ⟨Int.le_refl 0, by show (0 : Int) ≤ 1000000000000; decide⟩⟩
  | snoc sg _ hx ih => exact acc_step ih hx

/-- What the reference says of gifts is so. -/
theorem given_eq {es : List Entry} (h : Acc es) : givenL es = giftL es := by
  have hA := acc_ok h
  have hG := hA.gifts
  unfold givenL
  rw [hA.base]
  generalize giftL es = gs at *
  rw [List.map_map]
  conv => rhs; rw [← List.map_id gs]
  refine List.map_congr_left fun g hg => ?_
  obtain ⟨i, hi, rfl⟩ := List.getElem_of_mem hg
  have hm := hG.marks i hi
  have hb := hG.back i hi
  show (if (unmark gs[i]).state = 2 ∧ (unmark gs[i]).returns = 0 ∧ (unmark gs[i]).worth ≤ metL (gs.map unmark) (unmark gs[i]).id then backG (unmark gs[i]) else unmark gs[i]) = gs[i]
  rw [metL_unmark]
  generalize gs[i] = g at *
  unfold unmark
  by_cases h4 : g.state = 4
  · rw [if_pos h4]
    have hr : g.returns = 0 := Decidable.byContradiction fun hr => hb hr h4
    rw [if_pos ⟨rfl, hr, ((hm hr).1 h4).2⟩]
    obtain ⟨g0, g1, g2, g3, g4, g5, g6, g7, g8, g9⟩ := g
    simp only at h4
    subst h4
    rfl
  · rw [if_neg h4, if_neg]
    rintro ⟨h2, hr, hw⟩
    exact h4 ((hm hr).2 ⟨.inl h2, hw⟩)

end Go.Proofs.YtcnbpfecgokhiaaGreatDoor
