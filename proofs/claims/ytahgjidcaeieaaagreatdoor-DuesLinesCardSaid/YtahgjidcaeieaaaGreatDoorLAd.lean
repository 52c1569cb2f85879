/- a part of the proof: steps, walks and plain laws that the law below stands on; no condition. -/
import Derived.Test.YtahgjidcaeieaaaGreatDoorLAa
import Derived.Test.YtahgjidcaeieaaaGreatDoorLAb
import Derived.Test.YtahgjidcaeieaaaGreatDoorLAc
import Derived.Scope
import Derived.Laws.StructEq
import Derived.WalkSpells
import Derived.Maps.RangeRun
set_option linter.unusedVariables false
set_option linter.unusedSimpArgs false
set_option linter.unnecessarySimpa false
set_option linter.unusedSectionVars false
namespace Go.Proofs.YtahgjidcaeieaaaGreatDoor
open Go.Eng Go.RowKit
structure Waiv where
  id : Int
  day : Int
  signer : Int
  giver : Int
  taker : Int
  under : Int
  over : Int
  since : Int
  til : Int
deriving DecidableEq
structure Gift where
  id : Int
  day : Int
  frm : Int
  to : Int
  cur : Int
  n : Int
  worth : Int
  state : Int
  answered : Int
  returns : Int
deriving DecidableEq
structure Entry where
  kind : Int
  day : Int
  w : Waiv
  g : Gift
  a : Int
  b : Int
  n : Int
deriving DecidableEq
def waivZ : Waiv := ⟨0, 0, 0, 0, 0, 0, 0, 0, 0⟩
def giftZ : Gift := ⟨0, 0, 0, 0, 0, 0, 0, 0, 0, 0⟩
def entryZ : Entry := ⟨0, 0, waivZ, giftZ, 0, 0, 0⟩
instance : Inhabited Waiv := ⟨waivZ⟩
instance : Inhabited Gift := ⟨giftZ⟩
instance : Inhabited Entry := ⟨entryZ⟩
def Waiv.cells (x : Waiv) : List Value := [.int .i64 x.id, .int .i64 x.day, .int .i64 x.signer, .int .i64 x.giver, .int .i64 x.taker, .int .i64 x.under, .int .i64 x.over, .int .i64 x.since, .int .i64 x.til]
def Gift.cells (x : Gift) : List Value := [.int .i64 x.id, .int .i64 x.day, .int .i64 x.frm, .int .i64 x.to, .int .u8 x.cur, .int .i64 x.n, .int .i64 x.worth, .int .u8 x.state, .int .i64 x.answered, .int .i64 x.returns]
def Entry.cells (x : Entry) : List Value := [.int .u8 x.kind, .int .i64 x.day,
  .int .i64 x.w.id, .int .i64 x.w.day, .int .i64 x.w.signer, .int .i64 x.w.giver, .int .i64 x.w.taker, .int .i64 x.w.under, .int .i64 x.w.over, .int .i64 x.w.since, .int .i64 x.w.til,
  .int .i64 x.g.id, .int .i64 x.g.day, .int .i64 x.g.frm, .int .i64 x.g.to, .int .u8 x.g.cur, .int .i64 x.g.n, .int .i64 x.g.worth, .int .u8 x.g.state, .int .i64 x.g.answered, .int .i64 x.g.returns,
  .int .i64 x.a, .int .i64 x.b, .int .i64 x.n]
def Waiv.val (x : Waiv) : Value := .agg x.cells.toArray
def Gift.val (x : Gift) : Value := .agg x.cells.toArray
def Entry.val (x : Entry) : Value := .agg x.cells.toArray
abbrev inB (n a b : Int) : Bool := decide (a ≤ n ∧ n ≤ b)
def rightW (w : Waiv) : Bool :=
  inB w.id 1 500 && idB w.signer && idB w.giver && idB w.taker && !decide (w.giver = w.taker) && (decide (w.under = 0) || idB w.under) && (decide (w.over = 0) || idB w.over) &&
  (decide (w.under = 0) || !decide (w.under = w.over)) && inB w.day 0 100000 && decide (w.day ≤ w.since) && decide (w.since < w.til) && decide (w.til ≤ 100000)
def rightG (g : Gift) : Bool :=
  inB g.id 1 500 && idB g.frm && idB g.to && !decide (g.frm = g.to) && inB g.returns 0 500 && !decide (g.returns = g.id) && inB g.cur 1 2 && inB g.n 1 1000000
def plainG (g : Gift) : Gift := ⟨g.id, g.day, g.frm, g.to, g.cur, g.n, 0, 0, 0, g.returns⟩
def wantE (x : Entry) : Entry :=
  if x.kind = 1 ∨ x.kind = 2 then ⟨x.kind, x.day, waivZ, giftZ, x.a, 0, x.n⟩
  else if x.kind = 3 then ⟨x.kind, x.day, x.w, giftZ, 0, 0, 0⟩
  else if x.kind = 4 then ⟨x.kind, x.day, { waivZ with id := x.w.id }, giftZ, 0, 0, 0⟩
  else if x.kind = 5 then ⟨x.kind, x.day, waivZ, plainG x.g, 0, 0, 0⟩
  else if x.kind = 6 ∨ x.kind = 7 then ⟨x.kind, x.day, waivZ, { giftZ with id := x.g.id }, 0, 0, 0⟩
  else ⟨x.kind, x.day, waivZ, giftZ, 0, 0, 0⟩
def okE (x : Entry) : Bool :=
  if x.kind = 1 then inB x.a 1 2 && inB x.n 1 1000000
  else if x.kind = 2 then idB x.a && inB x.n 1 1000000000000
  else if x.kind = 3 then rightW x.w && decide (x.w.day = x.day)
  else if x.kind = 4 then inB x.w.id 1 500
  else if x.kind = 5 then rightG x.g && decide (x.g.day = x.day)
  else if x.kind = 6 ∨ x.kind = 7 then inB x.g.id 1 500
  else false
def formX (x : Entry) : Bool := okE x && decide (x = wantE x) && dayB x.day
def atN {α : Type} [Inhabited α] (l : List α) (i : Int) : α := l.getD (i - 1).toNat default
def updAt {α : Type} [Inhabited α] (l : List α) (i : Int) (f : α → α) : List α := l.set (i - 1).toNat (f (atN l i))
def endW (d : Int) (w : Waiv) : Waiv := { w with til := min w.til (max d w.since) }
def waivS (l : List Waiv) (x : Entry) : List Waiv := if x.kind = 3 then l ++ [x.w] else if x.kind = 4 then updAt l x.w.id (endW x.day) else l
def waivL (es : List Entry) : List Waiv := es.foldl waivS []
structure Due where
  cred : Int
  debt : Int
  waiver : Int
deriving DecidableEq
def Due.cells (x : Due) : List Value := [.int .i64 x.cred, .int .i64 x.debt, .int .i64 x.waiver]
def Due.val (x : Due) : Value := .agg x.cells.toArray
def dueZ : Due := ⟨0, 0, 0⟩
instance : Inhabited Due := ⟨dueZ⟩
def dueS (l : List Due) (w : Waiv) : List Due :=
  if l.any (fun d => decide (d.cred = w.taker ∧ d.debt = w.giver)) = true then l.filter (fun d => !decide (d.cred = w.taker ∧ d.debt = w.giver)) else l ++ [⟨w.giver, w.taker, w.id⟩]
def grantsL (es : List Entry) : List Waiv := (es.filter fun x => decide (x.kind = 3)).map Entry.w
def dueL (es : List Entry) : List Due := (grantsL es).foldl dueS []
def owesB (l : List Due) (c d : Int) : Bool := l.any fun x => decide (x.cred = c ∧ x.debt = d)
def rateS (n : Int) (c : Int) (x : Entry) : Int := if x.kind = 1 ∧ x.a = c then x.n else n
def rateL (es : List Entry) (c : Int) : Int := es.foldl (fun n x => rateS n c x) 0
def ceilS (n : Int) (s : Int) (x : Entry) : Int := if x.kind = 2 ∧ x.a = s then x.n else n
def ceilL (es : List Entry) (s : Int) : Int := es.foldl (fun n x => ceilS n s x) 0
def metB (id : Int) (g : Gift) : Bool := decide (g.returns = id ∧ (g.state = 2 ∨ g.state = 4))
def metW (id : Int) (g : Gift) : Int := if metB id g = true then g.worth else 0
def metL (gs : List Gift) (id : Int) : Int := (gs.map (metW id)).sum
def takeG (d : Int) (g : Gift) : Gift := { g with state := 2, answered := d }
def refuseG (d : Int) (g : Gift) : Gift := { g with state := 3, answered := d }
def backG (g : Gift) : Gift := { g with state := 4 }
def baseS (es : List Entry) (gs : List Gift) (x : Entry) : List Gift :=
  if x.kind = 5 then gs ++ [{ x.g with worth := x.g.n * rateL es x.g.cur, state := 1 }]
  else if x.kind = 6 then updAt gs x.g.id (takeG x.day)
  else if x.kind = 7 then updAt gs x.g.id (refuseG x.day) else gs
def meetS (gs : List Gift) (x : Entry) : List Gift :=
  if x.kind = 6 then
    let r := (atN gs x.g.id).returns
    if r = 0 then gs else if (atN gs r).worth ≤ metL gs r then updAt gs r backG else gs
  else gs
def giftS (es : List Entry) (gs : List Gift) (x : Entry) : List Gift := meetS (baseS es gs x) x
def foldG (step : List Entry → List Gift → Entry → List Gift) : List Entry → List Gift → List Entry → List Gift
  | _, gs, [] => gs
  | seen, gs, x :: r => foldG step (seen ++ [x]) (step seen gs x) r
def giftL (es : List Entry) : List Gift := foldG giftS [] [] es
def baseL (es : List Entry) : List Gift := foldG baseS [] [] es
theorem waivL_snoc (es : List Entry) (x : Entry) : waivL (es ++ [x]) = waivS (waivL es) x := by simp [waivL]
theorem rateL_snoc (es : List Entry) (x : Entry) (c : Int) : rateL (es ++ [x]) c = rateS (rateL es c) c x := by simp [rateL]
theorem ceilL_snoc (es : List Entry) (x : Entry) (c : Int) : ceilL (es ++ [x]) c = ceilS (ceilL es c) c x := by simp [ceilL]
theorem foldG_snoc (step : List Entry → List Gift → Entry → List Gift) : ∀ (es seen : List Entry) (gs : List Gift) (x : Entry), foldG step seen gs (es ++ [x]) = step (seen ++ es) (foldG step seen gs es) x
  | [], seen, gs, x => by simp [foldG]
  | y :: r, seen, gs, x => by
    show foldG step (seen ++ [y]) (step seen gs y) (r ++ [x]) = _
    rw [foldG_snoc step r, List.append_assoc]; rfl
theorem giftL_snoc (es : List Entry) (x : Entry) : giftL (es ++ [x]) = giftS es (giftL es) x := foldG_snoc giftS es [] [] x
theorem baseL_snoc (es : List Entry) (x : Entry) : baseL (es ++ [x]) = baseS es (baseL es) x := foldG_snoc baseS es [] [] x
theorem grantsL_snoc (es : List Entry) (x : Entry) : grantsL (es ++ [x]) = grantsL es ++ if x.kind = 3 then [x.w] else [] := by
  unfold grantsL
  rw [List.filter_append, List.map_append, List.filter_cons, List.filter_nil]
  by_cases h : x.kind = 3
  · rw [if_pos (by simpa using h), if_pos h]; rfl
  · rw [if_neg (by simpa using h), if_neg h]; rfl
theorem dueL_snoc (es : List Entry) (x : Entry) : dueL (es ++ [x]) = if x.kind = 3 then dueS (dueL es) x.w else dueL es := by
  unfold dueL
  rw [grantsL_snoc]
  split <;> simp
def lastDay (es : List Entry) : Int := (es.getLast?.map Entry.day).getD 0
def grantedE (sg : Int) (es : List Entry) (w : Waiv) : Int :=
  if 500 ≤ (waivL es).length then 2 else if ¬ w.id = (waivL es).length + 1 then 1 else if sg ≠ 0 then sg else if owesB (dueL es) w.giver w.taker = true then 61 else 0
def offeredE (es : List Entry) (g : Gift) : Int :=
  if 500 ≤ (giftL es).length then 2 else if ¬ g.id = (giftL es).length + 1 then 1 else if rateL es g.cur = 0 then 8 else if g.returns > (giftL es).length then 5
  else if g.returns > 0 ∧ (let r := atN (giftL es) g.returns; ¬ (r.frm = g.to ∧ r.to = g.frm ∧ r.returns = 0 ∧ r.state = 2)) then 8
  else if ceilL es g.to > 0 ∧ g.n * rateL es g.cur > ceilL es g.to then 2 else 0
def refusedE (sg : Int) (es : List Entry) (x : Entry) : Int :=
  if x.kind = 3 then grantedE sg es x.w
  else if x.kind = 4 then (if x.w.id > (waivL es).length then 5 else if (atN (waivL es) x.w.id).til ≤ x.day then 8 else 0)
  else if x.kind = 5 then offeredE es x.g
  else if x.kind = 6 ∨ x.kind = 7 then (if x.g.id > (giftL es).length then 5 else if ¬ (atN (giftL es) x.g.id).state = 1 then 8 else 0)
  else 0
def doE (sg : Int) (es : List Entry) (x : Entry) : Int := if formX x = false then 1 else if x.day < lastDay es then 7 else refusedE sg es x
inductive Acc : List Entry → Prop
  | nil : Acc []
  | snoc {es : List Entry} {x : Entry} (sg : Int) : Acc es → doE sg es x = 0 → Acc (es ++ [x])
end Go.Proofs.YtahgjidcaeieaaaGreatDoor
namespace Go.Proofs.YtahgjidcaeieaaaGreatDoor
open Go.Eng Go.RowKit
theorem atN_get {α : Type} [Inhabited α] {l : List α} {k : Nat} (h : k < l.length) : atN l ((k + 1 : Nat) : Int) = l[k] := by
  unfold atN
  have : (((k + 1 : Nat) : Int) - 1).toNat = k := by omega
  rw [this, List.getD_eq_getElem?_getD, List.getElem?_eq_getElem h]; rfl
theorem num_of {n : Nat} {i : Int} (h1 : 1 ≤ i) (h2 : i ≤ n) : ∃ k : Nat, k < n ∧ i = ((k + 1 : Nat) : Int) := ⟨(i - 1).toNat, by omega, by omega⟩
theorem updAt_eq {α : Type} [Inhabited α] {l : List α} {k : Nat} (h : k < l.length) (f : α → α) : updAt l ((k + 1 : Nat) : Int) f = l.set k (f l[k]) := by
  unfold updAt
  rw [atN_get h]
  have : (((k + 1 : Nat) : Int) - 1).toNat = k := by omega
  rw [this]
theorem updAt_length {α : Type} [Inhabited α] (l : List α) (i : Int) (f : α → α) : (updAt l i f).length = l.length := by simp [updAt]
theorem sum_set {α : Type} (h : α → Int) : ∀ {l : List α} {k : Nat} (hk : k < l.length) (y : α), ((l.set k y).map h).sum = (l.map h).sum - h l[k] + h y
  | x :: l, 0, _, y => by simp; omega
  | x :: l, k + 1, hk, y => by
    have ih := sum_set h (l := l) (k := k) (by simpa using hk) y
    simp only [List.set_cons_succ, List.map_cons, List.sum_cons, List.getElem_cons_succ]
    omega
def unmark (g : Gift) : Gift := if g.state = 4 then { g with state := 2 } else g
structure GiftsOk (gs : List Gift) : Prop where
  ids : ∀ i (h : i < gs.length), gs[i].id = ((i + 1 : Nat) : Int)
  len : gs.length ≤ 500
  worth : ∀ i (h : i < gs.length), 1 ≤ gs[i].worth ∧ gs[i].worth ≤ 1000000000000
  states : ∀ i (h : i < gs.length), 1 ≤ gs[i].state ∧ gs[i].state ≤ 4
  refs : ∀ i (h : i < gs.length), gs[i].returns = 0 ∨ ∃ k, ∃ hk : k < gs.length, gs[i].returns = ((k + 1 : Nat) : Int) ∧ k ≠ i ∧ gs[k].returns = 0 ∧ (gs[k].state = 2 ∨ gs[k].state = 4) ∧ gs[k].frm = gs[i].to ∧ gs[k].to = gs[i].frm
  back : ∀ i (h : i < gs.length), gs[i].returns ≠ 0 → gs[i].state ≠ 4
  marks : ∀ i (h : i < gs.length), gs[i].returns = 0 → (gs[i].state = 4 ↔ (gs[i].state = 2 ∨ gs[i].state = 4) ∧ gs[i].worth ≤ metL gs gs[i].id)
  sides : ∀ i (h : i < gs.length), gs[i].frm ≠ gs[i].to
theorem metW_nonneg {gs : List Gift} (h : GiftsOk gs) {id : Int} {i : Nat} (hi : i < gs.length) : 0 ≤ metW id gs[i] ∧ metW id gs[i] ≤ 1000000000000 := by
  have := h.worth i hi
  unfold metW
  split <;> omega
theorem sum_bounds {α : Type} (f : α → Int) (m : Int) : ∀ (l : List α), (∀ x ∈ l, 0 ≤ f x ∧ f x ≤ m) → 0 ≤ (l.map f).sum ∧ (l.map f).sum ≤ l.length * m
  | [], _ => by simp
  | x :: r, h => by
    have ih := sum_bounds f m r fun y hy => h y (by simp [hy])
    have hx := h x (by simp)
    simp only [List.map_cons, List.sum_cons, List.length_cons]
    refine ⟨by omega, ?_⟩
    rw [Int.natCast_add, Int.add_mul]
    omega
theorem metL_bounds {gs : List Gift} (h : GiftsOk gs) (id : Int) : 0 ≤ metL gs id ∧ metL gs id ≤ 500000000000000 := by
  have := sum_bounds (metW id) 1000000000000 gs fun x hx => by
    obtain ⟨i, hi, rfl⟩ := List.getElem_of_mem hx
    exact metW_nonneg h hi
  have hl := h.len
  unfold metL
  refine ⟨this.1, Int.le_trans this.2 ?_⟩
  omega
theorem metL_none {gs : List Gift} {id : Int} (h : ∀ g ∈ gs, metB id g = false) : metL gs id = 0 := by
  unfold metL
  induction gs with
  | nil => rfl
  | cons g r ih =>
    rw [List.map_cons, List.sum_cons, ih fun x hx => h x (by simp [hx])]
    unfold metW
    rw [if_neg (by rw [h g (by simp)]; decide)]; rfl
theorem metL_snoc (gs : List Gift) (g : Gift) (id : Int) : metL (gs ++ [g]) id = metL gs id + metW id g := by
  unfold metL
  simp [List.sum_append]
theorem metL_set {gs : List Gift} {k : Nat} (hk : k < gs.length) (y : Gift) (id : Int) : metL (gs.set k y) id = metL gs id - metW id gs[k] + metW id y := sum_set (metW id) hk y
theorem GiftsOk.nil : GiftsOk [] :=
  ⟨fun _ h => absurd h (Nat.not_lt_zero _), Nat.zero_le _, fun _ h => absurd h (Nat.not_lt_zero _), fun _ h => absurd h (Nat.not_lt_zero _), fun _ h => absurd h (Nat.not_lt_zero _), fun _ h => absurd h (Nat.not_lt_zero _), fun _ h => absurd h (Nat.not_lt_zero _), fun _ h => absurd h (Nat.not_lt_zero _)⟩
theorem GiftsOk.offer {gs : List Gift} (h : GiftsOk gs) {g : Gift} (hl : gs.length < 500) (hid : g.id = ((gs.length + 1 : Nat) : Int)) (hw : 1 ≤ g.worth ∧ g.worth ≤ 1000000000000) (hs : g.state = 1) (hft : g.frm ≠ g.to)
    (hr : g.returns = 0 ∨ ∃ k, ∃ hk : k < gs.length, g.returns = ((k + 1 : Nat) : Int) ∧ gs[k].returns = 0 ∧ gs[k].state = 2 ∧ gs[k].frm = g.to ∧ gs[k].to = g.frm) : GiftsOk (gs ++ [g]) := by
  have hm : ∀ id, metW id g = 0 := fun id => by
    unfold metW metB
    rw [if_neg]
    simp [hs]
  have hL : (gs ++ [g]).length = gs.length + 1 := by simp
  have get : ∀ i (hi : i < (gs ++ [g]).length), (∃ hi' : i < gs.length, (gs ++ [g])[i] = gs[i]) ∨ (i = gs.length ∧ (gs ++ [g])[i] = g) := fun i hi => by
    rcases Nat.lt_or_ge i gs.length with h1 | h1
    · exact .inl ⟨h1, List.getElem_append_left h1⟩
    · have : i = gs.length := by omega
      subst this
      exact .inr ⟨rfl, by simp⟩
  refine ⟨fun i hi => ?_, by omega, fun i hi => ?_, fun i hi => ?_, fun i hi => ?_, fun i hi => ?_, fun i hi => ?_, fun i hi => ?_⟩
  · rcases get i hi with ⟨hi', e⟩ | ⟨rfl, e⟩
    · rw [e]; exact h.ids i hi'
    · rw [e]; exact hid
  · rcases get i hi with ⟨hi', e⟩ | ⟨rfl, e⟩
    · rw [e]; exact h.worth i hi'
    · rw [e]; exact hw
  · rcases get i hi with ⟨hi', e⟩ | ⟨rfl, e⟩
    · rw [e]; exact h.states i hi'
    · rw [e, hs]; decide
  · rcases get i hi with ⟨hi', e⟩ | ⟨rfl, e⟩
    · rw [e]
      rcases h.refs i hi' with h1 | ⟨k, hk, h1, h2, h3⟩
      · exact .inl h1
      · exact .inr ⟨k, by omega, h1, h2, by rw [List.getElem_append_left hk]; exact h3⟩
    · rw [e]
      rcases hr with h1 | ⟨k, hk, h1, h2, h3, h4⟩
      · exact .inl h1
      · exact .inr ⟨k, by omega, h1, by omega, by rw [List.getElem_append_left hk]; exact ⟨h2, .inl h3, h4⟩⟩
  · rcases get i hi with ⟨hi', e⟩ | ⟨rfl, e⟩
    · rw [e]; exact h.back i hi'
    · rw [e, hs]; intro _; decide
  · rcases get i hi with ⟨hi', e⟩ | ⟨rfl, e⟩
    · rw [e, metL_snoc, hm, Int.add_zero]; exact h.marks i hi'
    · rw [e, hs]; intro _; simp
  · rcases get i hi with ⟨hi', e⟩ | ⟨rfl, e⟩
    · rw [e]; exact h.sides i hi'
    · rw [e]; exact hft
theorem GiftsOk.unmet {gs : List Gift} (h : GiftsOk gs) {k : Nat} (hk : k < gs.length) (hs : gs[k].state = 1 ∨ gs[k].state = 3) : metL gs gs[k].id = 0 := by
  refine metL_none fun g hg => ?_
  obtain ⟨i, hi, rfl⟩ := List.getElem_of_mem hg
  unfold metB
  refine decide_eq_false ?_
  rintro ⟨h1, _⟩
  rcases h.refs i hi with h2 | ⟨k', hk', h2, _, _, h3, _⟩
  · have := h.ids k hk; omega
  · have := h.ids k hk
    have : k' = k := by omega
    subst this
    omega
theorem GiftsOk.answer {gs : List Gift} (h : GiftsOk gs) {k : Nat} (hk : k < gs.length) (hs : gs[k].state = 1) {y : Gift} (hy : y.id = gs[k].id ∧ y.worth = gs[k].worth ∧ y.returns = gs[k].returns ∧ y.frm = gs[k].frm ∧ y.to = gs[k].to)
    (hst : y.state = 3 ∨ y.state = 2 ∧ gs[k].returns = 0) : GiftsOk (gs.set k y) := by
  obtain ⟨y1, y2, y3, y4, y5⟩ := hy
  have hm : ∀ id, 1 ≤ id → metW id y = metW id gs[k] := fun id hid => by
    unfold metW metB
    rw [y2, y3]
    rcases hst with h3 | ⟨h3, h4⟩
    · rw [if_neg (by simp [h3]), if_neg (by simp [hs])]
    · rw [if_neg (by simp [h3, h4]; omega), if_neg (by simp [hs])]
  have hm' : ∀ id, 1 ≤ id → metL (gs.set k y) id = metL gs id := fun id hid => by rw [metL_set hk, hm id hid]; omega
  have get : ∀ i (hi : i < (gs.set k y).length), i < gs.length ∧ ((i = k ∧ (gs.set k y)[i] = y) ∨ (i ≠ k ∧ ∃ hi' : i < gs.length, (gs.set k y)[i] = gs[i])) := fun i hi => by
    have hi' : i < gs.length := by simpa using hi
    refine ⟨hi', ?_⟩
    rw [List.getElem_set]
    split
    · rename_i e; exact .inl ⟨e.symm, rfl⟩
    · rename_i e; exact .inr ⟨fun e' => e e'.symm, hi', rfl⟩
  refine ⟨fun i hi => ?_, by simpa using h.len, fun i hi => ?_, fun i hi => ?_, fun i hi => ?_, fun i hi => ?_, fun i hi => ?_, fun i hi => ?_⟩
  · obtain ⟨hi0, ⟨rfl, e⟩ | ⟨hne, hi', e⟩⟩ := get i hi
    · rw [e, y1]; exact h.ids i hi0
    · rw [e]; exact h.ids i hi'
  · obtain ⟨hi0, ⟨rfl, e⟩ | ⟨hne, hi', e⟩⟩ := get i hi
    · rw [e, y2]; exact h.worth i hi0
    · rw [e]; exact h.worth i hi'
  · obtain ⟨hi0, ⟨rfl, e⟩ | ⟨hne, hi', e⟩⟩ := get i hi
    · rw [e]; rcases hst with h3 | ⟨h3, _⟩ <;> rw [h3] <;> decide
    · rw [e]; exact h.states i hi'
  · have other : ∀ j (hj : j < gs.length), (gs[j].state = 2 ∨ gs[j].state = 4) → ∃ hj' : j < (gs.set k y).length, (gs.set k y)[j] = gs[j] := fun j hj hjs => by
      refine ⟨by simpa using hj, ?_⟩
      rw [List.getElem_set, if_neg]
      rintro rfl
      omega
    obtain ⟨hi0, ⟨rfl, e⟩ | ⟨hne, hi', e⟩⟩ := get i hi
    · rw [e, y3, y4, y5]
      rcases h.refs i hi0 with h1 | ⟨j, hj, h1, h2, h3, h4, h5⟩
      · exact .inl h1
      · obtain ⟨hj', ej⟩ := other j hj h4
        exact .inr ⟨j, hj', h1, h2, by rw [ej]; exact ⟨h3, h4, h5⟩⟩
    · rw [e]
      rcases h.refs i hi' with h1 | ⟨j, hj, h1, h2, h3, h4, h5⟩
      · exact .inl h1
      · obtain ⟨hj', ej⟩ := other j hj h4
        exact .inr ⟨j, hj', h1, h2, by rw [ej]; exact ⟨h3, h4, h5⟩⟩
  · obtain ⟨hi0, ⟨rfl, e⟩ | ⟨hne, hi', e⟩⟩ := get i hi
    · rw [e]; intro _; rcases hst with h3 | ⟨h3, _⟩ <;> rw [h3] <;> decide
    · rw [e]; exact h.back i hi'
  · obtain ⟨hi0, ⟨rfl, e⟩ | ⟨hne, hi', e⟩⟩ := get i hi
    · rw [e, y1, y2, y3]
      intro hr
      rw [hm' _ (by have := h.ids i hi0; omega), h.unmet hi0 (.inl hs)]
      have := h.worth i hi0
      rcases hst with h3 | ⟨h3, _⟩ <;> rw [h3] <;> constructor <;> intro h6 <;> omega
    · rw [e]
      intro hr
      rw [hm' _ (by have := h.ids i hi'; omega)]
      exact h.marks i hi' hr
  · obtain ⟨hi0, ⟨rfl, e⟩ | ⟨hne, hi', e⟩⟩ := get i hi
    · rw [e, y4, y5]; exact h.sides i hi0
    · rw [e]; exact h.sides i hi'
set_option maxHeartbeats 4000000 in
theorem GiftsOk.pay {gs : List Gift} (h : GiftsOk gs) {k j : Nat} (hk : k < gs.length) (hj : j < gs.length) (hkj : j ≠ k) (hs : gs[k].state = 1) (hr : gs[k].returns = ((j + 1 : Nat) : Int)) {y z : Gift} (hy : y.id = gs[k].id ∧ y.worth = gs[k].worth ∧ y.returns = gs[k].returns ∧ y.frm = gs[k].frm ∧ y.to = gs[k].to) (hy2 : y.state = 2)
    (hz : z.id = gs[j].id ∧ z.worth = gs[j].worth ∧ z.returns = gs[j].returns ∧ z.frm = gs[j].frm ∧ z.to = gs[j].to) (hzs : z.state = if gs[j].worth ≤ metL gs gs[k].returns + gs[k].worth then 4 else gs[j].state) :
    GiftsOk ((gs.set k y).set j z) ∧ ∀ id, metL ((gs.set k y).set j z) id = metL gs id + if id = gs[k].returns then gs[k].worth else 0 := by
  obtain ⟨y1, y2, y3, y4, y5⟩ := hy
  obtain ⟨z1, z2, z3, z4, z5⟩ := hz
  have hdebt : gs[j].returns = 0 ∧ (gs[j].state = 2 ∨ gs[j].state = 4) := by
    rcases h.refs k hk with h1 | ⟨j', hj', h1, _, h3, h4, _⟩
    · omega
    · have : j' = j := by omega
      subst this
      exact ⟨h3, h4⟩
  obtain ⟨hd0, hd1⟩ := hdebt
  have hzst : z.state = 2 ∨ z.state = 4 := by
    rw [hzs]; split
    · exact .inr rfl
    · exact hd1
  have hmy : ∀ id, metW id y = if id = gs[k].returns then gs[k].worth else 0 := fun id => by
    unfold metW metB
    rw [y2, y3, hy2]
    by_cases e : id = gs[k].returns
    · rw [if_pos e, if_pos (by simp [e])]
    · rw [if_neg e, if_neg (by simp; exact fun e' => e e'.symm)]
  have hmk : ∀ id, metW id gs[k] = 0 := fun id => by
    unfold metW metB
    rw [if_neg (by simp [hs])]
  have hmz : ∀ id, metW id z = metW id gs[j] := fun id => by
    unfold metW metB
    rw [z2, z3]
    by_cases e : gs[j].returns = id
    · rw [if_pos (by simp [e]; exact hzst), if_pos (by simp [e]; exact hd1)]
    · rw [if_neg (by simp [e]), if_neg (by simp [e])]
  have hjs : j < (gs.set k y).length := by simpa using hj
  have gj : (gs.set k y)[j] = gs[j] := by rw [List.getElem_set, if_neg (fun e => hkj e.symm)]
  have hm : ∀ id, metL ((gs.set k y).set j z) id = metL gs id + if id = gs[k].returns then gs[k].worth else 0 := fun id => by
    rw [metL_set hjs, metL_set hk, gj, hmz, hmk, hmy]; omega
  refine ⟨?_, hm⟩
  have get : ∀ i (hi : i < ((gs.set k y).set j z).length), i < gs.length ∧ ((i = k ∧ ((gs.set k y).set j z)[i] = y) ∨ (i = j ∧ ((gs.set k y).set j z)[i] = z) ∨ (i ≠ k ∧ i ≠ j ∧ ∃ hi' : i < gs.length, ((gs.set k y).set j z)[i] = gs[i])) := fun i hi => by
    have hi' : i < gs.length := by simpa using hi
    refine ⟨hi', ?_⟩
    rw [List.getElem_set]
    split
    · rename_i e; exact .inr (.inl ⟨e.symm, rfl⟩)
    · rename_i e
      rw [List.getElem_set]
      split
      · rename_i e2; exact .inl ⟨e2.symm, rfl⟩
      · rename_i e2; exact .inr (.inr ⟨fun e' => e2 e'.symm, fun e' => e e'.symm, hi', rfl⟩)
  have hjd : ∃ hj' : j < ((gs.set k y).set j z).length, ((gs.set k y).set j z)[j] = z := ⟨by simpa using hj, by simp⟩
  have other : ∀ m (hm : m < gs.length), (gs[m].state = 2 ∨ gs[m].state = 4) → m ≠ j → ∃ hm' : m < ((gs.set k y).set j z).length, ((gs.set k y).set j z)[m] = gs[m] := fun m hm hms hne => by
    refine ⟨by simpa using hm, ?_⟩
    rw [List.getElem_set, if_neg (fun e => hne e.symm), List.getElem_set, if_neg]
    rintro rfl
    omega
  have refs' : ∀ i (hi' : i < gs.length) (x : Gift), x.returns = gs[i].returns → x.to = gs[i].to → x.frm = gs[i].frm → x.returns = 0 ∨ ∃ m, ∃ hm : m < ((gs.set k y).set j z).length, x.returns = ((m + 1 : Nat) : Int) ∧ m ≠ i ∧ ((gs.set k y).set j z)[m].returns = 0 ∧ (((gs.set k y).set j z)[m].state = 2 ∨ ((gs.set k y).set j z)[m].state = 4) ∧ ((gs.set k y).set j z)[m].frm = x.to ∧ ((gs.set k y).set j z)[m].to = x.frm := by
    intro i hi' x x1 x2 x3
    rw [x1, x2, x3]
    rcases h.refs i hi' with h1 | ⟨m, hm, h1, h2, h3, h4, h5⟩
    · exact .inl h1
    · by_cases hmj : m = j
      · subst hmj
        obtain ⟨hj', ej⟩ := hjd
        exact .inr ⟨m, hj', h1, h2, by rw [ej, z3, z4, z5]; exact ⟨h3, hzst, h5⟩⟩
      · obtain ⟨hm', em⟩ := other m hm h4 hmj
        exact .inr ⟨m, hm', h1, h2, by rw [em]; exact ⟨h3, h4, h5⟩⟩
  refine ⟨fun i hi => ?_, by simpa using h.len, fun i hi => ?_, fun i hi => ?_, fun i hi => ?_, fun i hi => ?_, fun i hi => ?_, fun i hi => ?_⟩
  · obtain ⟨hi0, ⟨rfl, e⟩ | ⟨rfl, e⟩ | ⟨hne, hne2, hi', e⟩⟩ := get i hi
    · rw [e, y1]; exact h.ids i hi0
    · rw [e, z1]; exact h.ids i hi0
    · rw [e]; exact h.ids i hi'
  · obtain ⟨hi0, ⟨rfl, e⟩ | ⟨rfl, e⟩ | ⟨hne, hne2, hi', e⟩⟩ := get i hi
    · rw [e, y2]; exact h.worth i hi0
    · rw [e, z2]; exact h.worth i hi0
    · rw [e]; exact h.worth i hi'
  · obtain ⟨hi0, ⟨rfl, e⟩ | ⟨rfl, e⟩ | ⟨hne, hne2, hi', e⟩⟩ := get i hi
    · rw [e, hy2]; decide
    · rw [e]; rcases hzst with h3 | h3 <;> rw [h3] <;> decide
    · rw [e]; exact h.states i hi'
  · obtain ⟨hi0, ⟨rfl, e⟩ | ⟨rfl, e⟩ | ⟨hne, hne2, hi', e⟩⟩ := get i hi
    · rw [e]; exact refs' i hi0 y y3 y5 y4
    · rw [e]; exact refs' i hi0 z z3 z5 z4
    · rw [e]; exact refs' i hi' gs[i] rfl rfl rfl
  · obtain ⟨hi0, ⟨rfl, e⟩ | ⟨rfl, e⟩ | ⟨hne, hne2, hi', e⟩⟩ := get i hi
    · rw [e, hy2]; intro _; decide
    · rw [e, z3]; intro h3; exact absurd hd0 h3
    · rw [e]; exact h.back i hi'
  · obtain ⟨hi0, ⟨rfl, e⟩ | ⟨rfl, e⟩ | ⟨hne, hne2, hi', e⟩⟩ := get i hi
    · rw [e, y3]; intro h3; omega
    · rw [e, z1, z2, z3, hm]
      intro _
      have hidj := h.ids i hi0
      have hmark := h.marks i hi0 hd0
      have e1 : gs[i].id = gs[k].returns := by omega
      rw [if_pos e1, hzs, ← e1]
      have hwk := h.worth k hk
      by_cases hc : gs[i].worth ≤ metL gs gs[i].id + gs[k].worth
      · rw [if_pos hc]; exact ⟨fun _ => ⟨.inr rfl, hc⟩, fun _ => rfl⟩
      · rw [if_neg hc]
        constructor
        · intro h4
          have := (hmark.1 h4).2
          omega
        · intro h4; exact absurd h4.2 hc
    · rw [e, hm]
      intro h3
      have hidi := h.ids i hi'
      rw [if_neg (by omega), Int.add_zero]
      exact h.marks i hi' h3
  · obtain ⟨hi0, ⟨rfl, e⟩ | ⟨rfl, e⟩ | ⟨hne, hne2, hi', e⟩⟩ := get i hi
    · rw [e, y4, y5]; exact h.sides i hi0
    · rw [e, z4, z5]; exact h.sides i hi0
    · rw [e]; exact h.sides i hi'
end Go.Proofs.YtahgjidcaeieaaaGreatDoor
namespace Go.Proofs.YtahgjidcaeieaaaGreatDoor
open Go.Eng Go.RowKit
theorem acc_inv {es : List Entry} {x : Entry} (h : Acc (es ++ [x])) : Acc es ∧ ∃ sg, doE sg es x = 0 := by
  generalize hl : es ++ [x] = l at h
  cases h with
  | nil => simp at hl
  | snoc sg h1 h2 =>
    obtain ⟨h3, h4⟩ := List.append_inj' hl rfl
    injection h4 with h4 _
    subst h3; subst h4
    exact ⟨h1, sg, h2⟩
theorem acc_take : ∀ {es : List Entry} (r : List Entry), Acc (es ++ r) → Acc es
  | es, [], h => by rw [List.append_nil] at h; exact h
  | es, x :: r, h => by
    have : es ++ x :: r = (es ++ [x]) ++ r := by simp
    rw [this] at h
    exact (acc_inv (acc_take r h)).1
theorem acc_front {es : List Entry} (h : Acc es) (n : Nat) : Acc (es.take n) := acc_take (es.drop n) (by rw [List.take_append_drop]; exact h)
theorem do_zero {sg : Int} {es : List Entry} {x : Entry} (h : doE sg es x = 0) : formX x = true ∧ lastDay es ≤ x.day ∧ refusedE sg es x = 0 := by
  unfold doE at h
  split at h
  · cases h
  · rename_i h1
    split at h
    · cases h
    · rename_i h2
      exact ⟨by simpa using h1, by omega, h⟩
theorem form_okE {x : Entry} (h : formX x = true) : okE x = true ∧ x = wantE x ∧ (0 ≤ x.day ∧ x.day ≤ 100000) := by
  unfold formX at h
  simp only [Bool.and_eq_true, decide_eq_true_eq] at h
  exact ⟨h.1.1, h.1.2, h.2⟩
theorem ok_kind {x : Entry} (h : okE x = true) : x.kind = 1 ∨ x.kind = 2 ∨ x.kind = 3 ∨ x.kind = 4 ∨ x.kind = 5 ∨ x.kind = 6 ∨ x.kind = 7 := by
  refine Decidable.byContradiction fun hn => ?_
  unfold okE at h
  rw [if_neg (by omega), if_neg (by omega), if_neg (by omega), if_neg (by omega), if_neg (by omega), if_neg (by omega)] at h
  cases h
structure AccOk (es : List Entry) : Prop where
  forms : ∀ x ∈ es, formX x = true
  days : es.Pairwise fun a b => a.day ≤ b.day
  last : ∀ x ∈ es, x.day ≤ lastDay es
  gifts : GiftsOk (giftL es)
  base : baseL es = (giftL es).map unmark
  wids : ∀ i (h : i < (waivL es).length), (waivL es)[i].id = ((i + 1 : Nat) : Int)
  wlen : (waivL es).length ≤ 500
  gids : (grantsL es).length = (waivL es).length ∧ ∀ i (h : i < (grantsL es).length), (grantsL es)[i].id = ((i + 1 : Nat) : Int)
  dues : (dueL es).Pairwise fun a b => ¬ (a.cred = b.cred ∧ a.debt = b.debt)
  once : ∀ d ∈ dueL es, owesB (dueL es) d.debt d.cred = false
  rate : ∀ c, 0 ≤ rateL es c ∧ rateL es c ≤ 1000000
  ceil : ∀ s, 0 ≤ ceilL es s ∧ ceilL es s ≤ 1000000000000
theorem lastDay_snoc (es : List Entry) (x : Entry) : lastDay (es ++ [x]) = x.day := by simp [lastDay]
theorem owes_iff {l : List Due} {c d : Int} : owesB l c d = true ↔ ∃ x ∈ l, x.cred = c ∧ x.debt = d := by
  unfold owesB
  rw [List.any_eq_true]
  simp
theorem unmark_set {gs : List Gift} {k : Nat} {y : Gift} (f : Gift) (h : unmark y = f) : (gs.set k y).map unmark = (gs.map unmark).set k f := by
  rw [List.map_set, h]
theorem gift_offer {es : List Entry} {x : Entry} (h : AccOk es) (hf : rightG x.g = true) (hr : offeredE es x.g = 0) :
    GiftsOk (giftL es ++ [{ x.g with worth := x.g.n * rateL es x.g.cur, state := 1 }]) := by
  have hrate := h.rate x.g.cur
  have hG := h.gifts
  unfold offeredE at hr
  generalize giftL es = gs at *
  generalize rateL es x.g.cur = rt at *
  simp only [rightG, Bool.and_eq_true, decide_eq_true_eq, Bool.not_eq_true', decide_eq_false_iff_not] at hf
  obtain ⟨⟨⟨⟨⟨⟨⟨f1, f2⟩, f3⟩, f4⟩, f5⟩, f6⟩, f7⟩, f8⟩ := hf
  split at hr
  · cases hr
  rename_i r1
  split at hr
  · cases hr
  rename_i r2
  split at hr
  · cases hr
  rename_i r3
  split at hr
  · cases hr
  rename_i r4
  split at hr
  · cases hr
  rename_i r5
  have hid : x.g.id = ((gs.length + 1 : Nat) : Int) := by omega
  have hmul : 1 ≤ x.g.n * rt ∧ x.g.n * rt ≤ 1000000000000 := by
    constructor
    · have : 1 * 1 ≤ x.g.n * rt := Int.mul_le_mul (by omega) (by omega) (by omega) (by omega)
      omega
    · have : x.g.n * rt ≤ 1000000 * 1000000 := Int.mul_le_mul (by omega) (by omega) (by omega) (by omega)
      omega
  refine hG.offer (by omega) hid hmul rfl f4 ?_
  by_cases hz : x.g.returns = 0
  · exact .inl hz
  · obtain ⟨k, hk, he⟩ := num_of (n := gs.length) (i := x.g.returns) (by omega) (by omega)
    refine .inr ⟨k, hk, he, ?_⟩
    have r5' := fun hh => r5 ⟨by omega, hh⟩
    simp only [he, atN_get hk] at r5'
    have := Decidable.not_not.1 r5'
    exact ⟨this.2.2.1, this.2.2.2, this.1, this.2.1⟩
theorem gift_answered {es : List Entry} {x : Entry} {id : Int} (h1 : 1 ≤ id) (hr : (if id > (giftL es).length then (5 : Int) else if ¬ (atN (giftL es) id).state = 1 then 8 else 0) = 0) : ∃ k, ∃ hk : k < (giftL es).length, id = ((k + 1 : Nat) : Int) ∧ (giftL es)[k].state = 1 := by
  split at hr
  · cases hr
  rename_i r1
  split at hr
  · cases hr
  rename_i r2
  obtain ⟨k, hk, he⟩ := num_of (n := (giftL es).length) (i := id) h1 (by omega)
  refine ⟨k, hk, he, ?_⟩
  rw [he, atN_get hk] at r2
  exact Decidable.not_not.1 r2
theorem gift_step {sg : Int} {es : List Entry} {x : Entry} (h : AccOk es) (hf : formX x = true) (hr : refusedE sg es x = 0) : GiftsOk (giftL (es ++ [x])) ∧ baseL (es ++ [x]) = (giftL (es ++ [x])).map unmark := by
  obtain ⟨hok, hw, hd⟩ := form_okE hf
  have hG := h.gifts
  have hB := h.base
  rw [giftL_snoc, baseL_snoc, hB]
  unfold giftS meetS baseS
  rcases ok_kind hok with hk | hk | hk | hk | hk | hk | hk
  · rw [if_neg (by omega), if_neg (by omega), if_neg (by omega), if_neg (by omega), if_neg (by omega), if_neg (by omega), if_neg (by omega)]; exact ⟨hG, rfl⟩
  · rw [if_neg (by omega), if_neg (by omega), if_neg (by omega), if_neg (by omega), if_neg (by omega), if_neg (by omega), if_neg (by omega)]; exact ⟨hG, rfl⟩
  · rw [if_neg (by omega), if_neg (by omega), if_neg (by omega), if_neg (by omega), if_neg (by omega), if_neg (by omega), if_neg (by omega)]; exact ⟨hG, rfl⟩
  · rw [if_neg (by omega), if_neg (by omega), if_neg (by omega), if_neg (by omega), if_neg (by omega), if_neg (by omega), if_neg (by omega)]; exact ⟨hG, rfl⟩
  · have hro : offeredE es x.g = 0 := by
      unfold refusedE at hr
      rw [if_neg (by omega), if_neg (by omega), if_pos hk] at hr
      exact hr
    have hrg : rightG x.g = true := by
      unfold okE at hok
      rw [if_neg (by omega), if_neg (by omega), if_neg (by omega), if_neg (by omega), if_pos hk, Bool.and_eq_true] at hok
      exact hok.1
    rw [if_pos hk, if_neg (by omega), if_pos hk]
    refine ⟨gift_offer h hrg hro, ?_⟩
    rw [List.map_append]
    rfl
  · have hri : (if x.g.id > (giftL es).length then (5 : Int) else if ¬ (atN (giftL es) x.g.id).state = 1 then 8 else 0) = 0 := by
      unfold refusedE at hr
      rw [if_neg (by omega), if_neg (by omega), if_neg (by omega), if_pos (.inl hk)] at hr
      exact hr
    have hid : 1 ≤ x.g.id := by
      unfold okE at hok
      rw [if_neg (by omega), if_neg (by omega), if_neg (by omega), if_neg (by omega), if_neg (by omega), if_pos (.inl hk), decide_eq_true_eq] at hok
      omega
    obtain ⟨k, hkl, he, hs⟩ := gift_answered (x := x) hid hri
    simp only [hk, Int.reduceEq, if_true, if_false, he]
    rw [updAt_eq hkl]
    have hkl' : k < ((giftL es).map unmark).length := by simpa using hkl
    rw [updAt_eq hkl']
    have hum : takeG x.day (((giftL es).map unmark)[k]) = takeG x.day (giftL es)[k] := by
      rw [List.getElem_map]
      unfold unmark
      split <;> rfl
    rw [hum]
    generalize giftL es = gs at *
    have hks : k < (gs.set k (takeG x.day gs[k])).length := by simpa using hkl
    have hat : atN (gs.set k (takeG x.day gs[k])) ((k + 1 : Nat) : Int) = takeG x.day gs[k] := by rw [atN_get hks]; simp
    rw [hat]
    have hret : (takeG x.day gs[k]).returns = gs[k].returns := rfl
    rw [hret]
    rcases hG.refs k hkl with h0 | ⟨j, hj, h1, h2, h3, h4, h5⟩
    · rw [if_pos h0]
      refine ⟨hG.answer hkl hs ⟨rfl, rfl, rfl, rfl, rfl⟩ (.inr ⟨rfl, h0⟩), ?_⟩
      rw [unmark_set (takeG x.day gs[k]) rfl]
    · rw [if_neg (by omega)]
      have hjs : j < (gs.set k (takeG x.day gs[k])).length := by simpa using hj
      have gj : (gs.set k (takeG x.day gs[k]))[j] = gs[j] := by rw [List.getElem_set, if_neg (fun e => h2 e.symm)]
      have hmet : metL (gs.set k (takeG x.day gs[k])) gs[k].returns = metL gs gs[k].returns + gs[k].worth := by
        rw [metL_set hkl]
        have e1 : metW gs[k].returns gs[k] = 0 := by unfold metW metB; rw [if_neg (by simp [hs])]
        have e2 : metW gs[k].returns (takeG x.day gs[k]) = gs[k].worth := by unfold metW metB takeG; rw [if_pos (by simp)]
        omega
      rw [hmet]
      have hatj : atN (gs.set k (takeG x.day gs[k])) gs[k].returns = gs[j] := by rw [h1, atN_get hjs, gj]
      rw [hatj]
      have hupd : updAt (gs.set k (takeG x.day gs[k])) gs[k].returns backG = (gs.set k (takeG x.day gs[k])).set j (backG gs[j]) := by rw [h1, updAt_eq hjs, gj]
      rw [hupd]
      have hsame : gs.set k (takeG x.day gs[k]) = (gs.set k (takeG x.day gs[k])).set j gs[j] := by
        rw [← gj, List.set_getElem_self]
      have hback : unmark (backG gs[j]) = unmark gs[j] := by
        unfold unmark backG
        rcases h4 with h4 | h4
        · rw [if_pos rfl, if_neg (by omega)]
          cases hg : gs[j]
          rw [hg] at h4
          simp at h4 ⊢
          exact h4.symm
        · rw [if_pos rfl, if_pos h4]
      have hbase : (gs.map unmark).set k (takeG x.day gs[k]) = ((gs.set k (takeG x.day gs[k])).map unmark).set j (unmark gs[j]) := by
        rw [unmark_set (takeG x.day gs[k]) rfl]
        have hj3 : j < ((gs.map unmark).set k (takeG x.day gs[k])).length := by simpa using hj
        have : ((gs.map unmark).set k (takeG x.day gs[k]))[j] = unmark gs[j] := by rw [List.getElem_set, if_neg (fun e => h2 e.symm), List.getElem_map]
        rw [← this, List.set_getElem_self]
      by_cases hc : gs[j].worth ≤ metL gs gs[k].returns + gs[k].worth
      · rw [if_pos hc]
        refine ⟨(hG.pay (y := takeG x.day gs[k]) (z := backG gs[j]) hkl hj h2 hs h1 ⟨rfl, rfl, rfl, rfl, rfl⟩ rfl ⟨rfl, rfl, rfl, rfl, rfl⟩ (by rw [if_pos hc]; rfl)).1, ?_⟩
        rw [List.map_set, hback, hbase]
      · rw [if_neg hc]
        refine ⟨?_, ?_⟩
        · rw [hsame]
          exact (hG.pay (y := takeG x.day gs[k]) (z := gs[j]) hkl hj h2 hs h1 ⟨rfl, rfl, rfl, rfl, rfl⟩ rfl ⟨rfl, rfl, rfl, rfl, rfl⟩ (by rw [if_neg hc])).1
        · rw [unmark_set (takeG x.day gs[k]) rfl]
  · have hri : (if x.g.id > (giftL es).length then (5 : Int) else if ¬ (atN (giftL es) x.g.id).state = 1 then 8 else 0) = 0 := by
      unfold refusedE at hr
      rw [if_neg (by omega), if_neg (by omega), if_neg (by omega), if_pos (.inr hk)] at hr
      exact hr
    have hid : 1 ≤ x.g.id := by
      unfold okE at hok
      rw [if_neg (by omega), if_neg (by omega), if_neg (by omega), if_neg (by omega), if_neg (by omega), if_pos (.inr hk), decide_eq_true_eq] at hok
      omega
    obtain ⟨k, hkl, he, hs⟩ := gift_answered (x := x) hid hri
    simp only [hk, Int.reduceEq, if_true, if_false, he]
    rw [updAt_eq hkl]
    have hkl' : k < ((giftL es).map unmark).length := by simpa using hkl
    rw [updAt_eq hkl']
    have hum : refuseG x.day (((giftL es).map unmark)[k]) = refuseG x.day (giftL es)[k] := by
      rw [List.getElem_map]
      unfold unmark
      split <;> rfl
    rw [hum]
    refine ⟨hG.answer hkl hs ⟨rfl, rfl, rfl, rfl, rfl⟩ (.inl rfl), ?_⟩
    rw [unmark_set (refuseG x.day (giftL es)[k]) rfl]
theorem waiv_step {sg : Int} {es : List Entry} {x : Entry} (h : AccOk es) (hf : formX x = true) (hr : refusedE sg es x = 0) :
    (∀ i (hi : i < (waivL (es ++ [x])).length), (waivL (es ++ [x]))[i].id = ((i + 1 : Nat) : Int)) ∧ (waivL (es ++ [x])).length ≤ 500 ∧
    ((grantsL (es ++ [x])).length = (waivL (es ++ [x])).length ∧ ∀ i (hi : i < (grantsL (es ++ [x])).length), (grantsL (es ++ [x]))[i].id = ((i + 1 : Nat) : Int)) := by
  obtain ⟨hok, hw, hd⟩ := form_okE hf
  have h1 := h.wids
  have h2 := h.wlen
  have h3 := h.gids
  simp only [waivL_snoc, grantsL_snoc]
  by_cases k3 : x.kind = 3
  · have hro : grantedE sg es x.w = 0 := by
      unfold refusedE at hr
      rw [if_pos k3] at hr
      exact hr
    unfold grantedE at hro
    split at hro
    · cases hro
    rename_i r1
    split at hro
    · cases hro
    rename_i r2
    have r2 : x.w.id = (waivL es).length + 1 := Decidable.not_not.1 r2
    have e1 : waivS (waivL es) x = waivL es ++ [x.w] := if_pos k3
    simp only [e1, if_pos k3, List.length_append, List.length_singleton]
    refine ⟨fun i hi => ?_, by omega, by omega, fun i hi => ?_⟩
    · rw [List.getElem_append]
      split
      · rename_i hl; exact h1 i hl
      · rename_i hl; simp only [List.getElem_singleton]; rw [r2]; omega
    · rw [List.getElem_append]
      split
      · rename_i hl; exact h3.2 i hl
      · rename_i hl; simp only [List.getElem_singleton]; rw [r2]; omega
  · simp only [if_neg k3, List.append_nil]
    by_cases k4 : x.kind = 4
    · have e1 : waivS (waivL es) x = updAt (waivL es) x.w.id (endW x.day) := by unfold waivS; rw [if_neg k3, if_pos k4]
      have hri : (if x.w.id > (waivL es).length then (5 : Int) else if (atN (waivL es) x.w.id).til ≤ x.day then 8 else 0) = 0 := by
        unfold refusedE at hr
        rw [if_neg (by omega), if_pos k4] at hr
        exact hr
      have hid : 1 ≤ x.w.id := by
        unfold okE at hok
        rw [if_neg (by omega), if_neg (by omega), if_neg (by omega), if_pos k4, decide_eq_true_eq] at hok
        omega
      split at hri
      · cases hri
      rename_i r1
      obtain ⟨k, hk, he⟩ := num_of (n := (waivL es).length) (i := x.w.id) hid (by omega)
      rw [he, updAt_eq hk] at e1
      simp only [e1, List.length_set]
      refine ⟨fun i hi => ?_, h2, h3⟩
      rw [List.getElem_set]
      split
      · rename_i hki; subst hki; exact h1 k hk
      · exact h1 i (by simpa using hi)
    · have e1 : waivS (waivL es) x = waivL es := by unfold waivS; rw [if_neg k3, if_neg k4]
      simp only [e1]
      exact ⟨h1, h2, h3⟩
theorem due_step {sg : Int} {es : List Entry} {x : Entry} (h : AccOk es) (hf : formX x = true) (hr : refusedE sg es x = 0) :
    (dueL (es ++ [x])).Pairwise (fun a b => ¬ (a.cred = b.cred ∧ a.debt = b.debt)) ∧ ∀ d ∈ dueL (es ++ [x]), owesB (dueL (es ++ [x])) d.debt d.cred = false := by
  obtain ⟨hok, hw, hd⟩ := form_okE hf
  rw [dueL_snoc]
  by_cases k3 : x.kind = 3
  · rw [if_pos k3]
    have hro : grantedE sg es x.w = 0 := by
      unfold refusedE at hr
      rw [if_pos k3] at hr
      exact hr
    unfold grantedE at hro
    split at hro
    · cases hro
    split at hro
    · cases hro
    split at hro
    · rename_i r3; exact absurd hro r3
    split at hro
    · cases hro
    rename_i r4
    have hne : x.w.giver ≠ x.w.taker := by
      unfold okE at hok
      rw [if_neg (by omega), if_neg (by omega), if_pos k3, Bool.and_eq_true] at hok
      have := hok.1
      unfold rightW at this
      simp only [Bool.and_eq_true] at this
      simpa using this.1.1.1.1.1.1.1.2
    unfold dueS
    split
    · rename_i hb
      refine ⟨h.dues.filter _, fun d hd => ?_⟩
      have h1 := h.once d (List.mem_filter.1 hd).1
      refine Bool.eq_false_iff.2 fun hc => ?_
      obtain ⟨y, hy, e⟩ := owes_iff.1 hc
      rw [Bool.eq_false_iff] at h1
      exact h1 (owes_iff.2 ⟨y, (List.mem_filter.1 hy).1, e⟩)
    · rename_i hb
      have r4' : ∀ y ∈ dueL es, ¬ (y.cred = x.w.giver ∧ y.debt = x.w.taker) := fun y hy e => r4 (owes_iff.2 ⟨y, hy, e⟩)
      have hb' : ∀ y ∈ dueL es, ¬ (y.cred = x.w.taker ∧ y.debt = x.w.giver) := fun y hy e => hb (List.any_eq_true.2 ⟨y, hy, decide_eq_true e⟩)
      refine ⟨List.pairwise_append.2 ⟨h.dues, List.pairwise_singleton _ _, fun a ha b hb2 => ?_⟩, fun d hd => ?_⟩
      · rw [List.mem_singleton.1 hb2]; exact r4' a ha
      · refine Bool.eq_false_iff.2 fun hc => ?_
        obtain ⟨y, hy, e1, e2⟩ := owes_iff.1 hc
        rcases List.mem_append.1 hd with hd | hd
        · rcases List.mem_append.1 hy with hy | hy
          · have h1 := h.once d hd
            rw [Bool.eq_false_iff] at h1
            exact h1 (owes_iff.2 ⟨y, hy, e1, e2⟩)
          · rw [List.mem_singleton.1 hy] at e1 e2
            exact hb' d hd ⟨e2.symm, e1.symm⟩
        · rw [List.mem_singleton.1 hd] at e1 e2
          rcases List.mem_append.1 hy with hy | hy
          · exact hb' y hy ⟨e1, e2⟩
          · rw [List.mem_singleton.1 hy] at e1 e2
            exact hne e1
  · rw [if_neg k3]; exact ⟨h.dues, h.once⟩
theorem acc_step {sg : Int} {es : List Entry} {x : Entry} (h : AccOk es) (hx : doE sg es x = 0) : AccOk (es ++ [x]) := by
  obtain ⟨hf, hl, hr⟩ := do_zero hx
  obtain ⟨hok, hw, hd⟩ := form_okE hf
  obtain ⟨g1, g2⟩ := gift_step h hf hr
  obtain ⟨w1, w2, w3⟩ := waiv_step h hf hr
  obtain ⟨d1, d2⟩ := due_step h hf hr
  refine ⟨fun y hy => ?_, ?_, fun y hy => ?_, g1, g2, w1, w2, w3, d1, d2, fun c => ?_, fun s => ?_⟩
  · rcases List.mem_append.1 hy with hy | hy
    · exact h.forms y hy
    · rw [List.mem_singleton.1 hy]; exact hf
  · refine List.pairwise_append.2 ⟨h.days, List.pairwise_singleton _ _, fun a ha b hb => ?_⟩
    rw [List.mem_singleton.1 hb]
    exact Int.le_trans (h.last a ha) hl
  · rw [lastDay_snoc]
    rcases List.mem_append.1 hy with hy | hy
    · exact Int.le_trans (h.last y hy) hl
    · rw [List.mem_singleton.1 hy]; exact Int.le_refl _
  · rw [rateL_snoc]
    unfold rateS
    split
    · rename_i hk
      unfold okE at hok
      rw [if_pos hk.1, Bool.and_eq_true] at hok
      have := of_decide_eq_true hok.2
      omega
    · exact h.rate c
  · rw [ceilL_snoc]
    unfold ceilS
    split
    · rename_i hk
      unfold okE at hok
      rw [if_neg (by omega), if_pos hk.1, Bool.and_eq_true] at hok
      have := of_decide_eq_true hok.2
      omega
    · exact h.ceil s
theorem acc_ok {es : List Entry} (h : Acc es) : AccOk es := by
  induction h with
  | nil => exact ⟨fun _ h => (by cases h), List.Pairwise.nil, fun _ h => (by cases h), GiftsOk.nil, rfl, fun _ h => absurd h (Nat.not_lt_zero _), Nat.zero_le _, ⟨rfl, fun _ h => absurd h (Nat.not_lt_zero _)⟩, List.Pairwise.nil, fun _ h => (by cases h), fun c => ⟨Int.le_refl 0, by show (0 : Int) ≤ 1000000; decide⟩, fun s => ⟨Int.le_refl 0, by show (0 : Int) ≤ 1000000000000; decide⟩⟩
  | snoc sg _ hx ih => exact acc_step ih hx
end Go.Proofs.YtahgjidcaeieaaaGreatDoor
namespace Go.Proofs.YtahgjidcaeieaaaGreatDoor
open Go.Eng Go.RowKit
theorem Fact.len (x : Fact) : x.cells.length = 9 := rfl
theorem Reads.fact {w : World} {A : Option Addr} {l : List Fact} (h : Reads w A (fcells l)) {i : Nat} (hi : i < l.length) : ∃ b o, A = some ⟨b, o, none⟩ ∧ Rd w b (o + i * 9) l[i].cells := Reads.elem Fact.len (by omega) h hi
theorem fcells_length (l : List Fact) : (fcells l).length = l.length * 9 := flat_length Fact.len l
structure Fact.Nums (x : Fact) : Prop where
  id : In64 x.id
  known : In64 x.known
  kind : 0 ≤ x.kind ∧ x.kind ≤ 255
  who : In64 x.who
  what : In64 x.what
  other : In64 x.other
  since : In64 x.since
  til : In64 x.til
  name : x.name.size ≤ 9223372036854775807
structure HF (w : World) (A : Option Addr) (l : List Fact) (c : Nat) : Prop where
  nums : ∀ x ∈ l, x.Nums
  reads : Reads w A (fcells l)
  len : l.length ≤ c
  cap : l.length ≤ 9223372036854775807
theorem HF.ext {w w' : World} {A : Option Addr} {l : List Fact} {c : Nat} (h : HF w A l c) (e : Ext w w') : HF w' A l c := ⟨h.nums, h.reads.ext e, h.len, h.cap⟩
def NewF (B : Nat) (w : World) (v : Value) (l : List Fact) : Prop := w.ownsRow B 90 9 v l.length (fcells l)
theorem NewF.base {B B' : Nat} {w : World} {v : Value} {l : List Fact} (h : NewF B' w v l) (hb : B ≤ B') : NewF B w v l := ownsRow_base h hb
theorem NewF.ext {B : Nat} {w w' : World} {v : Value} {l : List Fact} (h : NewF B w v l) (e : Ext w w') : NewF B w' v l := ownsRow_ext h e
theorem newF_nil (B : Nat) (w : World) : NewF B w (.slice none 0 0) [] := World.ownsRow_nil _ _ _ _
theorem NewF.slice {B : Nat} {w : World} {v : Value} {l : List Fact} (h : NewF B w v l) : ∃ A c, v = .slice A l.length c ∧ Reads w A (fcells l) ∧ l.length ≤ c := reads_of_owns h
theorem fieldsF : Tryz.prog.fieldsOf 90 = #[⟨ "Id", 3, 0, false, "", "", 0⟩, ⟨ "Known", 3, 1, false, "", "", 8⟩, ⟨ "Kind", 5, 2, false, "", "", 16⟩, ⟨ "Who", 3, 3, false, "", "", 24⟩, ⟨ "What", 3, 4, false, "", "", 32⟩, ⟨ "Other", 3, 5, false, "", "", 40⟩, ⟨ "Since", 3, 6, false, "", "", 48⟩, ⟨ "Until", 3, 7, false, "", "", 56⟩, ⟨ "Name", 9, 8, false, "", "", 64⟩] := by kernel_rfl
theorem underF : Tryz.prog.underlying 90 = some (.struct #[⟨ "Id", 3, 0, false, "", "", 0⟩, ⟨ "Known", 3, 1, false, "", "", 8⟩, ⟨ "Kind", 5, 2, false, "", "", 16⟩, ⟨ "Who", 3, 3, false, "", "", 24⟩, ⟨ "What", 3, 4, false, "", "", 32⟩, ⟨ "Other", 3, 5, false, "", "", 40⟩, ⟨ "Since", 3, 6, false, "", "", 48⟩, ⟨ "Until", 3, 7, false, "", "", 56⟩, ⟨ "Name", 9, 8, false, "", "", 64⟩]) := by kernel_rfl
theorem part_plain {t : Nat} {ti : TI} (ht : C.ti t = some ti) (ha : ti.d.agg = false) (i : Nat) (cs : Array Value) (v : Value) (w : World) (hv : cs[i]? = some v) : (part t cs i).run C.P w = .ok v w := by
  have := (C_ok.ti ht).run_agg
  simp [part, this, ha, hv]
def sameField (p q : Fact) (o : Nat) : Bool := match o with
  | 0 => decide (p.id = q.id)
  | 1 => decide (p.known = q.known)
  | 2 => decide (p.kind = q.kind)
  | 3 => decide (p.who = q.who)
  | 4 => decide (p.what = q.what)
  | 5 => decide (p.other = q.other)
  | 6 => decide (p.since = q.since)
  | 7 => decide (p.til = q.til)
  | _ => decide (p.name = q.name)
set_option maxRecDepth 10000 in
theorem eqInF (p q : Fact) (w : World) : (Op.equalIn 10000 90 p.val q.val).run C.P w = .ok (decide (p = q)) w := by
  have hs : C.P.stoodInHeld 90 = false := by kernel_rfl
  have hu : C.P.underlying 90 = some (.struct (C.P.fieldsOf 90)) := by show Tryz.prog.underlying _ = some (.struct (Tryz.prog.fieldsOf _)); rw [fieldsF]; exact underF
  have h3 : C.P.underlying 3 = some (.int .i64) := under3
  have h5 : C.P.underlying 5 = some (.int .u8) := under5
  have h9 : C.P.underlying 9 = some .string := under9
  have p3 := part_plain (t := 3) (ti := ty3) rfl rfl
  have p5 := part_plain (t := 5) (ti := ty5) rfl rfl
  have p9 := part_plain (t := 9) (ti := ty9) rfl rfl
  rw [Fact.val, Fact.val, run_equalIn_struct w 9999 90 _ _ hu hs]
  show ((Op.eqFields 9999 _ _ (Tryz.prog.fieldsOf 90).toList).run C.P w) = _
  rw [fieldsF]
  rw [eqFields_run (f := fun x => sameField p q x.offset)]
  · obtain ⟨a0, a1, a2, a3, a4, a5, a6, a7, a8⟩ := p
    obtain ⟨b0, b1, b2, b3, b4, b5, b6, b7, b8⟩ := q
    congr 1
    rw [Bool.eq_iff_iff]
    simp [sameField]
  · intro f hf
    simp only [List.mem_cons, List.not_mem_nil, or_false] at hf
    rcases hf with rfl | rfl | rfl | rfl | rfl | rfl | rfl | rfl | rfl
    · exact ⟨by decide, _, _, p3 0 _ (.int .i64 p.id) w rfl, p3 0 _ (.int .i64 q.id) w rfl, eqInt_run h3 w 9998 .i64 p.id q.id⟩
    · exact ⟨by decide, _, _, p3 1 _ (.int .i64 p.known) w rfl, p3 1 _ (.int .i64 q.known) w rfl, eqInt_run h3 w 9998 .i64 p.known q.known⟩
    · exact ⟨by decide, _, _, p5 2 _ (.int .u8 p.kind) w rfl, p5 2 _ (.int .u8 q.kind) w rfl, eqInt_run h5 w 9998 .u8 p.kind q.kind⟩
    · exact ⟨by decide, _, _, p3 3 _ (.int .i64 p.who) w rfl, p3 3 _ (.int .i64 q.who) w rfl, eqInt_run h3 w 9998 .i64 p.who q.who⟩
    · exact ⟨by decide, _, _, p3 4 _ (.int .i64 p.what) w rfl, p3 4 _ (.int .i64 q.what) w rfl, eqInt_run h3 w 9998 .i64 p.what q.what⟩
    · exact ⟨by decide, _, _, p3 5 _ (.int .i64 p.other) w rfl, p3 5 _ (.int .i64 q.other) w rfl, eqInt_run h3 w 9998 .i64 p.other q.other⟩
    · exact ⟨by decide, _, _, p3 6 _ (.int .i64 p.since) w rfl, p3 6 _ (.int .i64 q.since) w rfl, eqInt_run h3 w 9998 .i64 p.since q.since⟩
    · exact ⟨by decide, _, _, p3 7 _ (.int .i64 p.til) w rfl, p3 7 _ (.int .i64 q.til) w rfl, eqInt_run h3 w 9998 .i64 p.til q.til⟩
    · exact ⟨by decide, _, _, p9 8 _ (.string p.name) w rfl, p9 8 _ (.string q.name) w rfl, eqStr_run h9 w 9998 p.name q.name⟩
theorem neqF (x y : Operand) (p q : Fact) : EqIs C.P .neq 90 x y p.val q.val (!decide (p = q)) := by
  intro w
  have hm : C.P.eqGuardType C.P.depth 90 = false := by kernel_rfl
  rw [Sem.run_bind, Fact.val, Fact.val, run_eqGuard_agg w .neq 90 x y _ _ hm]
  simp only [Result.andThen_ok]
  rw [run_neq_struct]
  have := eqInF p q w
  rw [Fact.val, Fact.val] at this
  rw [this]
  rfl
end Go.Proofs.YtahgjidcaeieaaaGreatDoor
namespace Go.Proofs.YtahgjidcaeieaaaGreatDoor
open Go.Eng Go.RowKit
theorem id_spec (n : Int) (w : World) : CallsV C.P 134 #[.int .i64 n] w fun v w' => v = .bool (idB n) ∧ w' = w := by
  refine callsV_of C_ok (args := [_]) (plans := []) Tryz.func134 rfl Tryz.ntmps134 (by kernel_rfl) (Nat.le_of_ble_eq_true rfl) ?_
  refine brE_dec (fun h1 => ?_) (fun h1 => ?_)
  · refine ⟨congrArg Value.bool ?_, rfl⟩
    have h1 : 1 ≤ n := h1
    rw [Bool.eq_iff_iff]; simp only [decide_eq_true_eq]; omega
  · refine ⟨congrArg Value.bool ?_, rfl⟩
    have h1 : ¬ 1 ≤ n := h1
    rw [idB, decide_eq_false]; omega
theorem on_spec (s u day : Int) (w : World) : CallsV C.P 171 #[.agg #[.int .i64 s, .int .i64 u], .int .i64 day] w fun v w' => v = .bool (decide (s ≤ day ∧ (u = 0 ∨ day < u))) ∧ Ext w w' := by
  refine callsV_of C_ok (args := [_, _]) (plans := []) Tryz.func171 rfl Tryz.ntmps171 (by kernel_rfl) (Nat.le_of_ble_eq_true rfl) ?_
  intro g2 w1 h1
  have M1 := (Mem.start w).alloc h1
  refine ⟨_, M1.cell 0 rfl rfl, ?_⟩
  refine brE_dec (fun h1 => ?_) (fun h1 => ?_)
  · have h1 : s ≤ day := h1
    refine ⟨_, M1.cell 0 rfl rfl, ?_⟩
    refine brE_dec (fun h2 => ?_) (fun h2 => ?_)
    · have h2 : u = 0 := h2
      exact ⟨congrArg Value.bool (decide_eq_true ⟨h1, .inl h2⟩).symm, M1.ext⟩
    · have h2 : ¬ u = 0 := h2
      refine ⟨_, M1.cell 0 rfl rfl, ?_⟩
      refine ⟨congrArg Value.bool ?_, M1.ext⟩
      rw [Bool.eq_iff_iff]; simp only [decide_eq_true_eq]; omega
  · have h1 : ¬ s ≤ day := h1
    exact ⟨congrArg Value.bool (decide_eq_false (fun h => h1 h.1)).symm, M1.ext⟩
theorem Holds_spec (x : Fact) (day : Int) (w : World) : CallsV C.P 162 #[x.val, .int .i64 day] w fun v w' => v = .bool (holdsB day x) ∧ Ext w w' := by
  refine callsV_of C_ok (args := [_, _]) (plans := []) Tryz.func162 rfl Tryz.ntmps162 (by kernel_rfl) (Nat.le_of_ble_eq_true rfl) ?_
  intro g2 w1 h1
  have M1 := (Mem.start w).alloc h1
  refine ⟨_, M1.cell 0 rfl rfl, ?_⟩
  refine ⟨_, M1.cell 0 rfl rfl, ?_⟩
  refine ⟨x.cells, rfl, M1.rd 0 rfl, ?_⟩
  refine (on_spec x.since x.til day w1).mono ?_
  rintro v w2 ⟨rfl, e2⟩
  exact ⟨rfl, M1.ext.trans e2⟩
theorem ba_get {s : ByteArray} {j : Nat} (h : j < s.data.toList.length) : s[j]? = some s.data.toList[j] := by
  have h' : j < s.size := by simpa using h
  rw [getElem?_pos s j h']
  simp [ByteArray.getElem_eq_getElem_data]
theorem ba_size (s : ByteArray) : s.size = s.data.toList.length := by simp
theorem chB_iff {c : UInt8} : chB c = true ↔ (97 ≤ (c.toNat : Int) ∧ (c.toNat : Int) ≤ 122) ∨ (48 ≤ (c.toNat : Int) ∧ (c.toNat : Int) ≤ 57) ∨ (c.toNat : Int) = 32 ∨ (c.toNat : Int) = 45 := by
  simp only [chB, Bool.or_eq_true, decide_eq_true_eq]
  omega
theorem nameB_iff {l : List UInt8} : nameB l = true ↔ ((1 ≤ l.length ∧ l.length ≤ 24) ∧ l.head? ≠ some 32 ∧ l.getLast? ≠ some 32) ∧ ∀ c ∈ l, chB c = true := by
  simp only [nameB, Bool.and_eq_true, decide_eq_true_eq, Bool.not_eq_true', decide_eq_false_iff_not, List.all_eq_true, ne_eq]
  constructor
  · rintro ⟨⟨⟨a, b⟩, c⟩, d⟩; exact ⟨⟨a, b, c⟩, d⟩
  · rintro ⟨⟨a, b, c⟩, d⟩; exact ⟨⟨⟨a, b⟩, c⟩, d⟩
theorem eq32 {c : UInt8} : c = 32 ↔ (c.toNat : Int) = 32 := by
  constructor
  · rintro rfl; rfl
  · intro h
    have : c.toNat = 32 := by omega
    exact UInt8.toNat_inj.1 (by simpa using this)
theorem name_head {l : List UInt8} (h : 0 < l.length) : l.head? = some l[0] := by
  cases l with
  | nil => simp at h
  | cons x r => rfl
theorem name_last {l : List UInt8} (h : 0 < l.length) : l.getLast? = some (l[l.length - 1]'(by omega)) := List.getLast?_eq_getElem? ▸ List.getElem?_eq_getElem (by omega)
theorem isName_spec (s : ByteArray) (w : World) (hs : s.size ≤ 9223372036854775807) : CallsV C.P 135 #[.string s] w fun v w' => v = .bool (nameB s.data.toList) ∧ w' = w := by
  have hsz := ba_size s
  generalize hl : s.data.toList = l at *
  have get : ∀ {j : Nat} (h : j < l.length), s[j]? = some l[j] := fun {j} h => by subst hl; exact ba_get h
  have no : ∀ {A : Prop}, (nameB l = true → False) → Value.bool false = .bool (nameB l) := fun h => by
    cases hh : nameB l with
    | false => rfl
    | true => exact (h hh).elim
  refine callsV_of C_ok (args := [_]) (plans := []) Tryz.func135 rfl Tryz.ntmps135 (by kernel_rfl) (Nat.le_of_ble_eq_true rfl) ?_
  refine brE_dec (fun h1 => ?_) (fun h1 => ?_)
  · have h1 : (s.size : Int) < 1 := h1
    exact ⟨no (A := True) fun h => by have := (nameB_iff.1 h).1.1; omega, rfl⟩
  have h1 : ¬ (s.size : Int) < 1 := h1
  refine brE_dec (fun h2 => ?_) (fun h2 => ?_)
  · have h2 : (s.size : Int) > 24 := h2
    exact ⟨no (A := True) fun h => by have := (nameB_iff.1 h).1.1; omega, rfl⟩
  have h2 : ¬ (s.size : Int) > 24 := h2
  have h0 : 0 < l.length := by omega
  have hk : l.length - 1 < l.length := by omega
  refine ⟨0, l[0], rfl, get h0, ?_⟩
  refine brE_dec (fun h3 => ?_) (fun h3 => ?_)
  · exact ⟨no (A := True) fun h => by
      have := (nameB_iff.1 h).1.2.1
      rw [name_head h0] at this
      exact this (congrArg some (eq32.2 h3)), rfl⟩
  refine ⟨((l.length - 1 : Nat) : Int), by rw [fit ⟨by omega, by omega⟩]; omega, ?_⟩
  refine ⟨l.length - 1, l[l.length - 1], rfl, get hk, ?_⟩
  refine brE_dec (fun h4 => ?_) (fun h4 => ?_)
  · exact ⟨no (A := True) fun h => by
      have := (nameB_iff.1 h).1.2.2
      rw [name_last h0] at this
      exact this (congrArg some (eq32.2 h4)), rfl⟩
  have hhead : (1 ≤ l.length ∧ l.length ≤ 24) ∧ l.head? ≠ some 32 ∧ l.getLast? ≠ some 32 := by
    refine ⟨⟨by omega, by omega⟩, ?_, ?_⟩
    · rw [name_head h0]; exact fun e => h3 (eq32.1 (Option.some.inj e))
    · rw [name_last h0]; exact fun e => h4 (eq32.1 (Option.some.inj e))
  refine loopE C_ok (fun (i : Nat) => [(0, .string s), (27, .int .i64 s.size), (28, .int .i64 i)]) (fun i w' => w' = w ∧ i ≤ l.length ∧ ∀ j (h : j < l.length), j < i → chB l[j] = true) (fun i => l.length - i) 0
    ⟨rfl, rfl, rfl, trivial⟩ ⟨rfl, Nat.zero_le _, fun _ _ h => absurd h (Nat.not_lt_zero _)⟩ ?_
  rintro i w1 ⟨rfl, hi, hall⟩
  refine brE_dec (fun hlt => ?_) (fun hge => ?_)
  · have hlt : i < l.length := by have : (i : Int) < (s.size : Nat) := hlt; omega
    refine ⟨i, l[i], rfl, get hlt, ?_⟩
    have hc := chB_iff (c := l[i])
    generalize hcv : l[i] = c at *
    have bad : ¬ ((97 ≤ (c.toNat : Int) ∧ (c.toNat : Int) ≤ 122) ∨ (48 ≤ (c.toNat : Int) ∧ (c.toNat : Int) ≤ 57) ∨ (c.toNat : Int) = 32 ∨ (c.toNat : Int) = 45) → Value.bool false = .bool (nameB l) ∧ w1 = w1 := fun hb =>
      ⟨no (A := True) fun h => hb (hc.1 ((nameB_iff.1 h).2 c (hcv ▸ List.getElem_mem hlt))), rfl⟩
    have next : IntKind.i64.wrap ((i : Int) + 1) = ((i + 1 : Nat) : Int) := fit ⟨by omega, by omega⟩
    have fin : chB c = true → i + 1 ≤ l.length ∧ ∀ j (h : j < l.length), j < i + 1 → chB l[j] = true := fun hg => ⟨hlt, fun j hj hji => by
      rcases Nat.lt_or_ge j i with h | h
      · exact hall j hj h
      · obtain rfl : j = i := by omega
        rw [hcv]; exact hg⟩
    repeat' first
      | refine brE_ndec (fun a => ?_) (fun a => ?_)
      | refine brE_dec (fun a => ?_) (fun a => ?_)
    all_goals first
      | exact bad (by omega)
      | exact ⟨_, next, i + 1, ⟨rfl, rfl, rfl, trivial⟩, ⟨rfl, fin (hc.2 (by omega))⟩, by omega⟩
  · have : i = l.length := by have : ¬ (i : Int) < (s.size : Nat) := hge; omega
    subst this
    refine ⟨congrArg Value.bool (nameB_iff.2 ⟨hhead, fun c hc => ?_⟩).symm, rfl⟩
    obtain ⟨j, hj, rfl⟩ := List.getElem_of_mem hc
    exact hall j hj hj
end Go.Proofs.YtahgjidcaeieaaaGreatDoor
namespace Go.Proofs.YtahgjidcaeieaaaGreatDoor
open Go.Eng Go.RowKit
theorem underFs : Tryz.prog.underlying 37 = some (.slice 90) := by kernel_rfl
theorem eqNilF (x y : Operand) (A : Option Addr) (n c : Nat) : EqIs C.P .eql 37 x y (.slice A n c) (.slice none 0 0) A.isNone := by
  intro w
  have hu : C.P.underlying 37 = some (.slice 90) := underFs
  have h1 : (eqGuard .eql 37 x y (.slice A n c) (.slice none 0 0)).run C.P w = .ok () w := by simp [eqGuard]
  rw [Sem.run_bind, h1]
  simp only [Result.andThen_ok]
  exact Lib.run_eql_slice_nil w _ _ A n c _ _ hu
theorem Clone_spec {w : World} {A : Option Addr} {l : List Fact} {c : Nat} (h : Reads w A (fcells l)) (hl : l.length ≤ 2 ^ 20) :
    CallsV C.P 175 #[.slice A l.length c] w fun v w' => NewF w.heap.size w' v l ∧ Ext w w' := by
  refine callsV_of C_ok (args := [_]) (plans := []) Tryz.func175 rfl Tryz.ntmps175 (by kernel_rfl) (Nat.le_of_ble_eq_true rfl) ?_
  refine ⟨_, eqNilF _ _ _ _ _, ?_⟩
  refine brE_mk (fun hn => ?_) (fun hn => ?_)
  · have hl0 : l = [] := by
      rcases h with h | ⟨b, o, hA, _⟩
      · have := congrArg List.length h
        rw [fcells_length] at this
        have : l.length * 9 = 0 := this
        exact List.length_eq_zero_iff.1 (by omega)
      · rw [hA] at hn; cases hn
    subst hl0
    exact ⟨newF_nil _ _, Ext.refl _⟩
  · intro g w1 h1
    have ho : w1.ownsRow w.heap.size 90 9 (.slice (some ⟨g, 0, none⟩) 0 0) 0 [] := owns_block (cs := []) h1.here (by rw [h1.new]; exact Nat.le_refl _) rfl (Nat.zero_le _)
    have hd : fcells l = [] ∨ ∃ b o, A = some ⟨b, o, none⟩ ∧ Rd w1 b o (fcells l) := h.ext h1.ext
    have hs : A.isSome = true := by cases A with
      | none => cases hn
      | some a => rfl
    have h1c : (fcells l).all (·.oneCell') = true := by
      rw [List.all_eq_true]
      intro v hv
      obtain ⟨x, _, hx⟩ := List.mem_flatMap.1 hv
      simp [Fact.cells] at hx
      rcases hx with rfl | rfl | rfl | rfl | rfl | rfl | rfl | rfl | rfl <;> rfl
    refine ⟨rfl, rfl, rfl, w.heap.size, 0, [], fcells l, ho, h1.ext.size, Nat.le_of_ble_eq_true rfl, rfl, fcells_length l, hd, by rw [hs]; rfl, h1c, by omega, by simp only [maxLen]; omega, ?_⟩
    intro v2 w2 ho2 hg2 _
    refine ⟨?_, app_ext h1.ext ho hg2⟩
    show w2.ownsRow _ _ _ v2 _ _
    rw [Nat.zero_add, List.nil_append] at ho2
    exact ho2
theorem knownL_all {k : Int} : ∀ {l : List Fact}, (∀ j (h : j < l.length), l[j].known ≤ k) → knownL k l = l
  | [], _ => rfl
  | x :: r, h => by
    have h0 := h 0 (by simp)
    unfold knownL
    rw [List.takeWhile_cons, if_pos (by simpa using h0)]
    exact congrArg (x :: ·) (knownL_all (l := r) fun j hj => h (j + 1) (by simpa using hj))
theorem knownL_stop {k : Int} : ∀ {l : List Fact} {i : Nat} (hi : i < l.length), (∀ j (h : j < l.length), j < i → l[j].known ≤ k) → ¬ l[i].known ≤ k → knownL k l = l.take i
  | x :: r, 0, _, _, h => by
    unfold knownL
    rw [List.takeWhile_cons, if_neg (by simpa using h)]; rfl
  | x :: r, i + 1, hi, ha, h => by
    have h0 := ha 0 (by simp) (Nat.succ_pos _)
    unfold knownL
    rw [List.takeWhile_cons, if_pos (by simpa using h0), List.take_succ_cons]
    exact congrArg (x :: ·) (knownL_stop (l := r) (i := i) (by simpa using hi) (fun j hj hji => ha (j + 1) (by simpa using hj) (by omega)) (by simpa using h))
theorem knownL_length (k : Int) (l : List Fact) : (knownL k l).length ≤ l.length := (List.takeWhile_sublist _).length_le
theorem knownL_sub {k : Int} {l : List Fact} : ∀ x ∈ knownL k l, x ∈ l := fun _ h => (List.takeWhile_sublist _).subset h
theorem Reads.front {w : World} {A : Option Addr} {l : List Fact} {c i : Nat} (h : Reads w A (fcells l)) : Reads w (if c = 0 then A else A.map (·.add (0 * 9))) (fcells (l.take i)) := by
  have e : (if c = 0 then A else A.map (·.add (0 * 9))) = A := by
    split
    · rfl
    · cases A <;> rfl
  rw [e]
  rcases h with h | ⟨b, o, hA, hr⟩
  · left
    have := congrArg List.length h
    rw [fcells_length] at this
    have : l.length * 9 = 0 := this
    have : l = [] := List.length_eq_zero_iff.1 (by omega)
    subst this; simp [fcells]
  · refine .inr ⟨b, o, hA, fun j v hv => hr j v ?_⟩
    have e : fcells l = fcells (l.take i) ++ fcells (l.drop i) := by rw [← fcells_append, List.take_append_drop]
    rw [e, List.getElem?_append_left (List.getElem?_eq_some_iff.1 hv).1]
    exact hv
theorem Known_spec {w : World} {A : Option Addr} {l : List Fact} {c : Nat} (h : HF w A l c) (hl : l.length ≤ 2 ^ 20) (k : Int) :
    CallsV C.P 168 #[.slice A l.length c, .int .i64 k] w fun v w' => NewF w.heap.size w' v (knownL k l) ∧ Ext w w' := by
  have hcap := h.len
  refine callsV_of C_ok (args := [_, _]) (plans := []) Tryz.func168 rfl Tryz.ntmps168 (by kernel_rfl) (Nat.le_of_ble_eq_true rfl) ?_
  refine loopE C_ok (fun (i : Nat) => [(0, .slice A l.length c), (1, .int .i64 k), (7, .slice A l.length c), (8, .int .i64 l.length), (9, .int .i64 i)])
    (fun i w' => i ≤ l.length ∧ Ext w w' ∧ ∀ j (h : j < l.length), j < i → l[j].known ≤ k) (fun i => l.length - i) 0
    ⟨rfl, rfl, rfl, rfl, rfl, trivial⟩ ⟨Nat.zero_le _, Ext.refl _, fun _ _ h => absurd h (Nat.not_lt_zero _)⟩ ?_
  rintro i w1 ⟨hi, e1, hall⟩
  refine brE_dec (fun hlt => ?_) (fun hge => ?_)
  · have hlt : i < l.length := by have : (i : Int) < (l.length : Nat) := hlt; omega
    obtain ⟨b, o, hA, hc⟩ := Reads.fact (h.reads.ext e1) hlt
    refine ⟨i, b, o, rfl, hlt, hA, ?_⟩
    refine ⟨l[i].cells, rfl, hc, ?_⟩
    intro g w2 h2
    refine ⟨rfl, _, _, h2.here, Nat.le_of_ble_eq_true rfl, rfl, ?_⟩
    intro w3 h3
    have e13 : Ext w1 w3 := h3.ext_of h2.ext (by rw [h2.new]; exact Nat.le_refl _)
    refine ⟨_, cell_of_block (i := 1) h3.here rfl, ?_⟩
    refine brE_dec (fun hk => ?_) (fun hk => ?_)
    · have hk : l[i].known > k := hk
      refine ⟨0, i, rfl, rfl, Nat.zero_le _, by omega, ?_⟩
      have hr := Reads.front (c := c) (i := i) (h.reads.ext (e1.trans e13))
      have hlen : (l.take i).length = i := by rw [List.length_take]; omega
      have := Clone_spec (c := c - 0) hr (by omega)
      rw [hlen] at this
      refine this.mono ?_
      rintro v w4 ⟨hn, e4⟩
      rw [knownL_stop hlt hall (by omega)]
      exact ⟨hn.base (e1.trans e13).size, (e1.trans e13).trans e4⟩
    · have hk : ¬ l[i].known > k := hk
      refine ⟨((i + 1 : Nat) : Int), fit ⟨by omega, by omega⟩, ?_⟩
      refine ⟨i + 1, ⟨rfl, rfl, rfl, rfl, rfl, trivial⟩, ⟨hlt, e1.trans e13, fun j hj hji => ?_⟩, by omega⟩
      rcases Nat.lt_or_ge j i with h | h
      · exact hall j hj h
      · obtain rfl : j = i := by omega
        omega
  · have : i = l.length := by have : ¬ (i : Int) < (l.length : Nat) := hge; omega
    subst this
    refine (Clone_spec (h.reads.ext e1) hl).mono ?_
    rintro v w4 ⟨hn, e4⟩
    rw [knownL_all fun j hj => hall j hj hj]
    exact ⟨hn.base e1.size, e1.trans e4⟩
end Go.Proofs.YtahgjidcaeieaaaGreatDoor
namespace Go.Proofs.YtahgjidcaeieaaaGreatDoor
open Go.Eng Go.RowKit
theorem backL_step {acc : List Fact} {K : List Fact} {n : Nat} (hn : n < K.length) : backL acc (K.take (n + 1)).reverse = if voidedBy acc K[n].id = true then backL acc (K.take n).reverse else backL (acc ++ [K[n]]) (K.take n).reverse := by
  rw [List.take_succ_eq_append_getElem hn, List.reverse_append]
  rfl
theorem backL_length : ∀ (K acc : List Fact), (backL acc K).length ≤ acc.length + K.length
  | [], acc => by simp [backL]
  | x :: r, acc => by
    unfold backL
    split
    · have := backL_length r acc; simp; omega
    · have := backL_length r (acc ++ [x]); simp at this ⊢; omega
theorem countL_length (k : Int) (l : List Fact) : (countL k l).length ≤ l.length := by
  unfold countL
  rw [List.length_reverse]
  have h1 := backL_length (knownL k l).reverse []
  have h2 := knownL_length k l
  simp at h1; omega
theorem atL_length (k day : Int) (l : List Fact) : (atL k day l).length ≤ l.length := Nat.le_trans (List.length_filter_le _ _) (countL_length k l)
end Go.Proofs.YtahgjidcaeieaaaGreatDoor
namespace Go.Proofs.YtahgjidcaeieaaaGreatDoor
open Go.Eng Go.RowKit
def deathB (n : Int) (x : Fact) : Bool := decide (x.kind = 10 ∧ x.who = n)
def deadB (c : List Fact) (n : Int) : Bool := c.any (deathB n)
def livesB (c : List Fact) (k s cl : Int) (x : Fact) : Bool := decide (x.kind = k ∧ x.what = s ∧ x.other = cl) && !deadB c x.who
def livingL (c : List Fact) (k s cl : Int) : List Int := sortD ((c.filter (livesB c k s cl)).map Fact.who)
def recogB (host s p : Int) (x : Fact) : Bool := decide (x.kind = 4 ∧ x.who = host ∧ x.what = s ∧ x.other = p)
def chosenL (c : List Fact) (host s : Int) : List Int := if 1 < (livingL c 2 s 1).length then (livingL c 2 s 1).filter fun p => c.any (recogB host s p) else livingL c 2 s 1
def recogL (c : List Fact) (host s : Int) : Int × Bool := match chosenL c host s with
  | [p] => (p, true)
  | _ => (0, false)
def heldB (c : List Fact) (host p s cl : Int) : Bool := if cl = 1 then decide (recogL c host s = (p, true)) else decide (p ∈ livingL c 2 s cl)
def actsB (c : List Fact) (p s cl : Int) : Bool := decide (p ∈ livingL c 3 s cl)
def classAt (c : List Fact) (host p s : Int) : List Int → Int × Bool
  | [] => (5, false)
  | cl :: r => if (heldB c host p s cl || actsB c p s cl) = true then (cl, !heldB c host p s cl) else classAt c host p s r
def leastAt (c : List Fact) (p s : Int) : List Int → Int
  | [] => 5
  | cl :: r => if (decide (p ∈ livingL c 2 s cl) || actsB c p s cl) = true then cl else leastAt c p s r
def leastL (c : List Fact) (p s : Int) : Int := leastAt c p s [1, 2, 3, 4]
end Go.Proofs.YtahgjidcaeieaaaGreatDoor
namespace Go.Proofs.YtahgjidcaeieaaaGreatDoor
open Go.Eng Go.RowKit
structure Opn where
  kind : Int
  x : Entry
deriving DecidableEq
def opnZ : Opn := ⟨0, entryZ⟩
instance : Inhabited Opn := ⟨opnZ⟩
def Opn.cells (o : Opn) : List Value := .int .u8 o.kind :: o.x.cells
def sgF (f : List Fact) (w : Waiv) : Int := if (chkF f).2 ≠ 0 then (chkF f).2 else if leastL (atL w.day w.day f) w.signer w.giver ≤ 2 then 0 else 60
def doF (f : List Fact) (es : List Entry) (x : Entry) : Int := doE (sgF f x.w) es x
def rateE (day c n : Int) : Entry := ⟨1, day, waivZ, giftZ, c, 0, n⟩
def ceilE (day s n : Int) : Entry := ⟨2, day, waivZ, giftZ, s, 0, n⟩
def grantE (es : List Entry) (w : Waiv) : Entry := ⟨3, w.day, { w with id := (((waivL es).length + 1 : Nat) : Int) }, giftZ, 0, 0, 0⟩
def endE (day id : Int) : Entry := ⟨4, day, { waivZ with id := id }, giftZ, 0, 0, 0⟩
def offerE (es : List Entry) (day frm to cur n returns : Int) : Entry := ⟨5, day, waivZ, ⟨(((giftL es).length + 1 : Nat) : Int), day, frm, to, cur, n, 0, 0, 0, returns⟩, 0, 0, 0⟩
def takeE (day id : Int) : Entry := ⟨6, day, waivZ, { giftZ with id := id }, 0, 0, 0⟩
def refuseE (day id : Int) : Entry := ⟨7, day, waivZ, { giftZ with id := id }, 0, 0, 0⟩
def opK (o : Opn) : Int := o.kind % 8
def opE (es : List Entry) (o : Opn) : Entry :=
  if opK o = 1 then grantE es o.x.w else if opK o = 2 then offerE es o.x.day o.x.g.frm o.x.g.to o.x.g.cur o.x.g.n o.x.g.returns else if opK o = 3 then rateE o.x.day o.x.g.cur o.x.n
  else if opK o = 4 then ceilE o.x.day o.x.a o.x.n else if opK o = 5 then endE o.x.day o.x.w.id else if opK o = 6 then takeE o.x.day o.x.g.id else if opK o = 7 then refuseE o.x.day o.x.g.id else o.x
def addL (e : Int) (es : List Entry) (x : Entry) : List Entry := if e = 0 then es ++ [x] else es
theorem waivL_length : ∀ (es : List Entry), (waivL es).length ≤ es.length := by
  intro es
  unfold waivL
  suffices h : ∀ (es : List Entry) (l : List Waiv), (es.foldl waivS l).length ≤ l.length + es.length from by simpa using h es []
  intro es
  induction es with
  | nil => intro l; simp
  | cons x r ih =>
    intro l
    have h1 : (waivS l x).length ≤ l.length + 1 := by
      unfold waivS
      split
      · simp
      · split
        · rw [updAt_length]; omega
        · omega
    have := ih (waivS l x)
    rw [List.foldl_cons, List.length_cons]
    omega
theorem meetS_length (gs : List Gift) (x : Entry) : (meetS gs x).length = gs.length := by
  unfold meetS
  split
  · simp only
    split
    · rfl
    · split
      · rw [updAt_length]
      · rfl
  · rfl
theorem baseS_length (es : List Entry) (gs : List Gift) (x : Entry) : (baseS es gs x).length ≤ gs.length + 1 := by
  unfold baseS
  split
  · simp
  · split
    · rw [updAt_length]; omega
    · split
      · rw [updAt_length]; omega
      · omega
theorem giftL_length (es : List Entry) : (giftL es).length ≤ es.length := by
  unfold giftL
  suffices h : ∀ (es seen : List Entry) (gs : List Gift), (foldG giftS seen gs es).length ≤ gs.length + es.length from by simpa using h es [] []
  intro es
  induction es with
  | nil => intro seen gs; simp [foldG]
  | cons x r ih =>
    intro seen gs
    have h1 : (giftS seen gs x).length ≤ gs.length + 1 := by unfold giftS; rw [meetS_length]; exact baseS_length seen gs x
    have := ih (seen ++ [x]) (giftS seen gs x)
    show (foldG giftS (seen ++ [x]) (giftS seen gs x) r).length ≤ _
    rw [List.length_cons]
    omega
def asOfL (es : List Entry) (day : Int) : List Entry := es.filter fun x => decide (x.day ≤ day)
theorem asOf_take {es : List Entry} (h : es.Pairwise fun a b => a.day ≤ b.day) (day : Int) : ∃ n, asOfL es day = es.take n := by
  induction es with
  | nil => exact ⟨0, rfl⟩
  | cons x r ih =>
    obtain ⟨h1, h2⟩ := List.pairwise_cons.1 h
    unfold asOfL at ih ⊢
    by_cases hx : x.day ≤ day
    · obtain ⟨n, hn⟩ := ih h2
      exact ⟨n + 1, by rw [List.filter_cons, if_pos (decide_eq_true hx), hn]; rfl⟩
    · refine ⟨0, ?_⟩
      rw [List.filter_cons, if_neg (by simpa using hx), List.take_zero, List.filter_eq_nil_iff]
      intro y hy
      have := h1 y hy
      simp; omega
theorem acc_asOf {es : List Entry} (h : Acc es) (day : Int) : Acc (asOfL es day) := by
  obtain ⟨n, hn⟩ := asOf_take (acc_ok h).days day
  rw [hn]; exact acc_front h n
theorem asOf_snoc (es : List Entry) (x : Entry) (day : Int) : asOfL (es ++ [x]) day = asOfL es day ++ if x.day ≤ day then [x] else [] := by
  unfold asOfL
  rw [List.filter_append, List.filter_cons, List.filter_nil]
  by_cases h : x.day ≤ day
  · rw [if_pos (decide_eq_true h), if_pos h]
  · rw [if_neg (by simpa using h), if_neg h]
theorem asOf_all {es : List Entry} {day : Int} (h : ∀ x ∈ es, x.day ≤ day) : asOfL es day = es := by
  unfold asOfL
  rw [List.filter_eq_self]
  intro x hx
  exact decide_eq_true (h x hx)
def forceB (day : Int) (w : Waiv) : Bool := decide (w.since ≤ day) && decide (day < w.til)
def waiversAt (es : List Entry) (day : Int) : List Waiv := (waivL (asOfL es day)).filter (forceB day)
structure Guest where
  person : Int
  state : Int
deriving DecidableEq
def guestZ : Guest := ⟨0, 0⟩
instance : Inhabited Guest := ⟨guestZ⟩
def Guest.cells (g : Guest) : List Value := [.int .i64 g.person, .int .i64 g.state]
def Guest.val (g : Guest) : Value := .agg g.cells.toArray
def coversB (w : Waiv) (u o : Guest) : Bool := decide (w.giver = u.state) && (decide (w.taker = o.state) && ((decide (w.under = 0) || decide (w.under = u.person)) && (decide (w.over = 0) || decide (w.over = o.person))))
structure IPair where
  a : Int
  b : Int
deriving DecidableEq
def pairZ : IPair := ⟨0, 0⟩
instance : Inhabited IPair := ⟨pairZ⟩
def IPair.cells (p : IPair) : List Value := [.int .i64 p.a, .int .i64 p.b]
def IPair.val (p : IPair) : Value := .agg p.cells.toArray
def rowPairs (ws : List Waiv) (g : List Guest) (a : Nat) : List IPair := (List.range g.length).flatMap fun b => if ws.any (fun w => coversB w (g.getD a guestZ) (g.getD b guestZ)) = true then [⟨(a : Int), (b : Int)⟩] else []
def pairsL (ws : List Waiv) (g : List Guest) : List IPair := (List.range g.length).flatMap fun a => rowPairs ws g a
def pairsAt (es : List Entry) (g : List Guest) (day : Int) : List IPair := if g.length > 24 then [] else pairsL (waiversAt es day) g
def dueLt (a b : Due) : Bool := decide (a.cred < b.cred) || (decide (a.cred = b.cred) && decide (a.debt < b.debt))
def insDue (d : Due) : List Due → List Due
  | [] => [d]
  | x :: r => if dueLt d x = true then d :: x :: r else x :: insDue d r
def sortDue (l : List Due) : List Due := l.foldl (fun acc d => insDue d acc) []
def duesAt (es : List Entry) (day : Int) : List Due := sortDue (dueL (asOfL es day))
def debtB (g : Gift) : Bool := decide (g.returns = 0) && decide (g.state = 2)
def debtW (gs : List Gift) (frm to : Int) (g : Gift) : Int := if debtB g = true ∧ g.frm = to ∧ g.to = frm then max 0 (g.worth - metL gs g.id) else 0
def debtL (gs : List Gift) (frm to : Int) : Int := (gs.map (debtW gs frm to)).sum
def debtAt (es : List Entry) (frm to day : Int) : Int := debtL (giftL (asOfL es day)) frm to
def overdueAt (es : List Entry) (day : Int) : List Gift := (giftL (asOfL es day)).filter fun g => debtB g && decide (day > g.answered + 365)
end Go.Proofs.YtahgjidcaeieaaaGreatDoor
namespace Go.Proofs.YtahgjidcaeieaaaGreatDoor
open Go.Eng Go.RowKit
theorem pair_ne {α : Type} {R : α → α → Prop} (hs : ∀ x y, R x y → R y x) : ∀ {l : List α}, l.Pairwise (fun a b => ¬ R a b) → ∀ x ∈ l, ∀ y ∈ l, x ≠ y → ¬ R x y
  | [], _, x, hx, _, _, _ => by cases hx
  | a :: r, h, x, hx, y, hy, hne => by
    obtain ⟨h1, h2⟩ := List.pairwise_cons.1 h
    rcases List.mem_cons.1 hx with ex | hx'
    · rcases List.mem_cons.1 hy with ey | hy'
      · exact absurd (ex.trans ey.symm) hne
      · rw [ex]; exact h1 y hy'
    · rcases List.mem_cons.1 hy with ey | hy'
      · rw [ey]; exact fun e => h1 x hx' (hs _ _ e)
      · exact pair_ne hs h2 x hx' y hy' hne
theorem mem_insDue {d x : Due} : ∀ {l : List Due}, x ∈ insDue d l ↔ x = d ∨ x ∈ l
  | [] => by simp [insDue]
  | y :: r => by
    unfold insDue
    split
    · simp
    · rw [List.mem_cons, mem_insDue (l := r), List.mem_cons]
      constructor
      · rintro (h | h | h)
        · exact .inr (.inl h)
        · exact .inl h
        · exact .inr (.inr h)
      · rintro (h | h | h)
        · exact .inr (.inl h)
        · exact .inl h
        · exact .inr (.inr h)
theorem insDue_perm (d : Due) : ∀ (l : List Due), (insDue d l).Perm (d :: l)
  | [] => List.Perm.refl _
  | x :: r => by
    unfold insDue
    split
    · exact List.Perm.refl _
    · exact (List.Perm.cons x (insDue_perm d r)).trans (List.Perm.swap d x r)
theorem sortDue_fold : ∀ (l acc : List Due), (l.foldl (fun acc d => insDue d acc) acc).Perm (acc ++ l)
  | [], acc => by simp
  | d :: l, acc => by
    rw [List.foldl_cons]
    refine (sortDue_fold l (insDue d acc)).trans ?_
    refine ((insDue_perm d acc).append_right l).trans ?_
    show (d :: (acc ++ l)).Perm (acc ++ d :: l)
    exact List.perm_middle.symm
theorem sortDue_perm (l : List Due) : (sortDue l).Perm l := by
  have := sortDue_fold l []
  simpa [sortDue] using this
theorem dueLt_iff {a b : Due} : dueLt a b = true ↔ a.cred < b.cred ∨ a.cred = b.cred ∧ a.debt < b.debt := by
  unfold dueLt
  simp
theorem insDue_sorted {d : Due} : ∀ {l : List Due}, l.Pairwise (fun a b => dueLt b a = false) → (insDue d l).Pairwise fun a b => dueLt b a = false
  | [], _ => by simp [insDue]
  | x :: r, h => by
    obtain ⟨h1, h2⟩ := List.pairwise_cons.1 h
    unfold insDue
    split
    · rename_i hd
      have hd' := dueLt_iff.1 hd
      refine List.pairwise_cons.2 ⟨fun y hy => ?_, h⟩
      refine Bool.eq_false_iff.2 fun hc => ?_
      have hc' := dueLt_iff.1 hc
      rcases List.mem_cons.1 hy with rfl | hy
      · omega
      · have h3 := h1 y hy
        have : ¬ (y.cred < x.cred ∨ y.cred = x.cred ∧ y.debt < x.debt) := fun hh => by rw [dueLt_iff.2 hh] at h3; cases h3
        omega
    · rename_i hd
      refine List.pairwise_cons.2 ⟨fun y hy => ?_, insDue_sorted h2⟩
      rcases mem_insDue.1 hy with rfl | hy
      · simpa using hd
      · exact h1 y hy
theorem sortDue_sorted (l : List Due) : (sortDue l).Pairwise fun a b => dueLt b a = false := by
  unfold sortDue
  suffices h : ∀ (l acc : List Due), acc.Pairwise (fun a b => dueLt b a = false) → (l.foldl (fun acc d => insDue d acc) acc).Pairwise fun a b => dueLt b a = false from h l [] List.Pairwise.nil
  intro l
  induction l with
  | nil => intro acc h; exact h
  | cons d r ih => intro acc h; exact ih _ (insDue_sorted h)
theorem sortDue_eq {l m : List Due} (hp : m.Perm l) (hs : m.Pairwise fun a b => dueLt b a = false) (hd : l.Pairwise fun a b => ¬ (a.cred = b.cred ∧ a.debt = b.debt)) : m = sortDue l := by
  have hp2 : m.Perm (sortDue l) := hp.trans (sortDue_perm l).symm
  refine List.Perm.eq_of_pairwise (le := fun a b => dueLt b a = false) (fun a b ha hb h1 h2 => ?_) hs (sortDue_sorted l) hp2
  have e1 : ¬ (b.cred < a.cred ∨ b.cred = a.cred ∧ b.debt < a.debt) := fun hh => by rw [dueLt_iff.2 hh] at h1; cases h1
  have e2 : ¬ (a.cred < b.cred ∨ a.cred = b.cred ∧ a.debt < b.debt) := fun hh => by rw [dueLt_iff.2 hh] at h2; cases h2
  have hk : a.cred = b.cred ∧ a.debt = b.debt := by omega
  have ha' := hp.mem_iff.1 ha
  have hb' := (sortDue_perm l).mem_iff.1 hb
  refine Decidable.byContradiction fun hne => ?_
  have hd' : l.Pairwise fun a b => ¬ (a.cred = b.cred ∧ a.debt = b.debt) := hd
  exact pair_ne (R := fun a b : Due => a.cred = b.cred ∧ a.debt = b.debt) (fun _ _ e => ⟨e.1.symm, e.2.symm⟩) hd' a ha' b hb' hne hk
end Go.Proofs.YtahgjidcaeieaaaGreatDoor
namespace Go.Proofs.YtahgjidcaeieaaaGreatDoor
open Go.Eng Go.RowKit
theorem gift_plain {es : List Entry} {x : Entry} (h5 : x.kind ≠ 5) (h6 : x.kind ≠ 6) (h7 : x.kind ≠ 7) : giftL (es ++ [x]) = giftL es := by
  rw [giftL_snoc]
  unfold giftS meetS baseS
  rw [if_neg h6, if_neg h5, if_neg h6, if_neg h7]
end Go.Proofs.YtahgjidcaeieaaaGreatDoor
namespace Go.Proofs.YtahgjidcaeieaaaGreatDoor
open Go.Eng Go.RowKit
theorem gift_take {es : List Entry} {x : Entry} (hk : x.kind = 6) {k : Nat} (hl : k < (giftL es).length) (hid : x.g.id = ((k + 1 : Nat) : Int)) :
    giftL (es ++ [x]) = (let gs := (giftL es).set k (takeG x.day (giftL es)[k]); let r := (giftL es)[k].returns; if r = 0 then gs else if (atN gs r).worth ≤ metL gs r then updAt gs r backG else gs) := by
  rw [giftL_snoc]
  unfold giftS meetS baseS
  simp only [hk, Int.reduceEq, if_true, if_false, hid]
  rw [updAt_eq hl]
  have hks : k < ((giftL es).set k (takeG x.day (giftL es)[k])).length := by simpa using hl
  have hat : atN ((giftL es).set k (takeG x.day (giftL es)[k])) ((k + 1 : Nat) : Int) = takeG x.day (giftL es)[k] := by rw [atN_get hks]; simp
  simp only [hat]
  rfl
theorem gift_refuse {es : List Entry} {x : Entry} (hk : x.kind = 7) {k : Nat} (hl : k < (giftL es).length) (hid : x.g.id = ((k + 1 : Nat) : Int)) :
    giftL (es ++ [x]) = (giftL es).set k (refuseG x.day (giftL es)[k]) := by
  rw [giftL_snoc]
  unfold giftS baseS meetS
  rw [if_neg (by omega), if_neg (by omega), if_pos hk, if_neg (by omega), hid, updAt_eq hl]
theorem ans_parts {sg : Int} {es : List Entry} {x : Entry} (hk : x.kind = 6 ∨ x.kind = 7) (hx : doE sg es x = 0) : ∃ k, ∃ hl : k < (giftL es).length, x.g.id = ((k + 1 : Nat) : Int) ∧ (giftL es)[k].state = 1 := by
  obtain ⟨hf, hl, hr⟩ := do_zero hx
  obtain ⟨hok, _, _⟩ := form_okE hf
  unfold refusedE at hr
  rw [if_neg (by omega), if_neg (by omega), if_neg (by omega), if_pos hk] at hr
  have hid : 1 ≤ x.g.id := by
    unfold okE at hok
    rw [if_neg (by omega), if_neg (by omega), if_neg (by omega), if_neg (by omega), if_neg (by omega), if_pos hk, decide_eq_true_eq] at hok
    omega
  exact gift_answered (x := x) hid hr
theorem offer_gift {sg : Int} {es : List Entry} {x : Entry} (hk : x.kind = 5) (hx : doE sg es x = 0) : giftL (es ++ [x]) = giftL es ++ [{ x.g with worth := x.g.n * rateL es x.g.cur, state := 1 }] ∧ x.g.id = (((giftL es).length + 1 : Nat) : Int) := by
  obtain ⟨hf, hl, hr⟩ := do_zero hx
  refine ⟨?_, ?_⟩
  · rw [giftL_snoc]
    unfold giftS baseS meetS
    rw [if_pos hk, if_neg (by omega)]
  · unfold refusedE at hr
    rw [if_neg (by omega), if_neg (by omega), if_pos hk] at hr
    unfold offeredE at hr
    split at hr
    · cases hr
    split at hr
    · cases hr
    rename_i r2
    have := Decidable.not_not.1 r2
    omega
end Go.Proofs.YtahgjidcaeieaaaGreatDoor
namespace Go.Eng
open Go.RowKit
theorem Keep.grown {D : Nat → Prop} {a b c : World} {row : Option Nat} (h : Keep D a b) (hg : b.grownBy c row) (hne : ∀ k, row = some k → ¬ D k) : Keep D a c :=
  ⟨hg.os.trans h.os, hg.tape.trans h.tape, hg.output.trans h.output, Nat.le_trans h.size hg.size, fun k hD hk => (hg.block k (Nat.lt_of_lt_of_le hk h.size) (fun e => hne k e.symm hD)).trans (h.block k hD hk)⟩
theorem splice_in {a e b vs : List Value} {c : Nat} (hc : c + vs.length ≤ e.length) : splice (a ++ (e ++ b)) (a.length + c) vs = a ++ (splice e c vs ++ b) := by
  unfold splice
  have h1 : (a ++ (e ++ b)).take (a.length + c) = a ++ e.take c := by
    rw [List.take_append, List.take_of_length_le (by omega), show a.length + c - a.length = c by omega, List.take_append_of_le_length (by omega)]
  have h2 : (a ++ (e ++ b)).drop (a.length + c + vs.length) = e.drop (c + vs.length) ++ b := by
    rw [List.drop_append, List.drop_eq_nil_of_le (by omega), show a.length + c + vs.length - a.length = c + vs.length by omega, List.drop_append_of_le_length (by omega), List.nil_append]
  rw [h1, h2]
  simp
theorem flat_field {α : Type} {enc : α → List Value} {k : Nat} (hk : ∀ x, (enc x).length = k) {l : List α} {i : Nat} (hi : i < l.length) {y : α} {c : Nat} {vs : List Value} (h : splice (enc l[i]) c vs = enc y) (hc : c + vs.length ≤ k) :
    splice (l.flatMap enc) (i * k + c) vs = (l.set i y).flatMap enc := by
  have e1 : l.flatMap enc = (l.take i).flatMap enc ++ (enc l[i] ++ (l.drop (i + 1)).flatMap enc) := by
    conv => lhs; rw [← List.take_append_drop i l, List.drop_eq_getElem_cons hi]
    rw [List.flatMap_append, List.flatMap_cons]
  have hl : ((l.take i).flatMap enc).length = i * k := by
    have : ∀ m : List α, (m.flatMap enc).length = m.length * k := by
      intro m
      induction m with
      | nil => simp
      | cons x r ih => rw [List.flatMap_cons, List.length_append, hk, ih, List.length_cons, Nat.add_mul, Nat.one_mul, Nat.add_comm]
    rw [this, List.length_take, Nat.min_eq_left (Nat.le_of_lt hi)]
  have e2 : (l.set i y).flatMap enc = (l.take i).flatMap enc ++ (enc y ++ (l.drop (i + 1)).flatMap enc) := by
    rw [List.set_eq_take_append_cons_drop, if_pos hi, List.flatMap_append, List.flatMap_cons]
  rw [e1, e2, ← hl, splice_in (by rw [hk]; exact hc), h]
end Go.Eng
namespace Go.Eng
open Go.RowKit
open Go.Maps (Keyed)
def MapL (P : Program) (k : Nat) (w : World) (b : Nat) (D : List (Value × Value)) : Prop :=
  ∃ es clk, w.heap[b]? = some (.map es clk) ∧ (∀ e ∈ es.toList, ∃ l, keyOf P k e.key = some l) ∧ (es.toList.map MapEntry.key).Nodup ∧ (∀ e ∈ es.toList, e.born < clk) ∧ (es.toList.map MapEntry.born).Nodup ∧
    (es.toList.map fun e => (e.key, e.val)).Perm D
theorem MapL.ext {P : Program} {k : Nat} {w w' : World} {b : Nat} {D : List (Value × Value)} (h : MapL P k w b D) (e : Ext w w') : MapL P k w' b D :=
  let ⟨es, clk, h1, h2⟩ := h
  ⟨es, clk, e.heap h1, h2⟩
theorem MapL.same {P : Program} {k : Nat} {w w' : World} {b : Nat} {D : List (Value × Value)} (h : MapL P k w b D) (e : w'.heap[b]? = w.heap[b]?) : MapL P k w' b D :=
  let ⟨es, clk, h1, h2⟩ := h
  ⟨es, clk, e.trans h1, h2⟩
theorem MapL.empty {P : Program} {k : Nat} {w : World} {b : Nat} (h : w.heap[b]? = some (.map #[] 0)) : MapL P k w b [] :=
  ⟨#[], 0, h, fun _ h => by simp at h, by simp, fun _ h => by simp at h, by simp, by simp⟩
theorem MapL.lt {P : Program} {k : Nat} {w : World} {b : Nat} {D : List (Value × Value)} (h : MapL P k w b D) : b < w.heap.size := by
  obtain ⟨es, clk, h1, _⟩ := h
  exact lt_of_heap h1
section
variable {C : Cfg}
theorem mapLGet (hC : C.Ok) {o : Oper} {t : Nat} {m ix : Operand} {l : Env} {w : World} {b k e : Nat} {x v : Value} {lx : Lit} {ti te : TI} {D : List (Value × Value)} {ok : Bool} (hkey : keyOf C.P k x = some lx) (hM : MapL C.P k w b D) (K : Keyed C.P k)
    (ho : o.op = .lookup t m ix true) (hm : evo l m = some (.map (some b))) (hx : evo l ix = some x) (hti : C.ti t = some ti) (hd : ti.d = .map k e) (hte : C.ti e = some te)
    (hv : (ok = true ∧ (x, v) ∈ D) ∨ (ok = false ∧ v = te.zero ∧ ∀ u, (x, u) ∉ D)) : QuietRun C o l w (.tuple #[v, .bool ok]) := by
  intro ρ hρ w' hw
  obtain ⟨es, clk, hb, hgood, hnd, _, _, hp⟩ := hM.ext hw
  have hu := (hC.ti hti).isMap hd
  unfold execOp
  rw [ho]
  have hchk : ∀ em, (Instr.checkKey em 10000 k x).run C.P w' = .ok () w' := fun em => K.check w' em hkey
  rcases K.find w' hkey es.toList hgood with ⟨h1, h2⟩ | ⟨j, e0, h1, h2, h3⟩
  · have hno : ∀ u, (x, u) ∉ D := fun u hu => by
      obtain ⟨e1, he1, e2⟩ := List.mem_map.1 (hp.mem_iff.2 hu)
      injection e2 with e2 _
      exact h2 e1 he1 e2
    rcases hv with ⟨_, hv⟩ | ⟨rfl, rfl, _⟩
    · exact absurd hv (hno v)
    · simp only [hρ _ _ hm, hρ _ _ hx]
      simp [Instr.lookup, run_underlying hu, MapKept.run_getObj_map hb, hchk, h1, (hC.ti hte).run_zero]
  · have hmem : (x, e0.val) ∈ D := hp.mem_iff.1 (List.mem_map.2 ⟨e0, List.mem_of_getElem? h2, by rw [h3]⟩)
    have huniq : ∀ u, (x, u) ∈ D → u = e0.val := fun u hu => by
      obtain ⟨e1, he1, e2⟩ := List.mem_map.1 (hp.mem_iff.2 hu)
      injection e2 with e2 e2'
      obtain ⟨i, hi⟩ := List.mem_iff_getElem?.1 he1
      have a1 : (es.toList.map MapEntry.key)[i]? = some x := by rw [List.getElem?_map, hi, ← e2]; rfl
      have a2 : (es.toList.map MapEntry.key)[j]? = some x := by rw [List.getElem?_map, h2, ← h3]; rfl
      have hlt : i < (es.toList.map MapEntry.key).length := (List.getElem?_eq_some_iff.1 a1).1
      have := (List.getElem?_inj hlt hnd).1 (a1.trans a2.symm)
      subst this
      rw [hi] at h2
      injection h2 with h2
      rw [← e2', h2]
    rcases hv with ⟨rfl, hv⟩ | ⟨_, _, hv⟩
    · have := huniq v hv
      subst this
      simp only [hρ _ _ hm, hρ _ _ hx]
      simp [Instr.lookup, run_underlying hu, MapKept.run_getObj_map hb, hchk, h1]
    · exact absurd hmem (hv _)
theorem mapLPut (hC : C.Ok) {o : Oper} {t : Nat} {m ix xv : Operand} {l : Env} {w : World} {b k e : Nat} {x v : Value} {lx : Lit} {ti : TI} {D : List (Value × Value)} (hkey : keyOf C.P k x = some lx) (hM : MapL C.P k w b D) (K : Keyed C.P k)
    (ho : o.op = .mapUpdate t m ix xv) (hm : evo l m = some (.map (some b))) (hx : evo l ix = some x) (hv : evo l xv = some v) (hti : C.ti t = some ti) (hd : ti.d = .map k e) (hno : ∀ u, (x, u) ∉ D)
    {Q : Value → World → Prop} (h : ∀ o' w', Put w b o' w' → MapL C.P k w' b (D ++ [(x, v)]) → Q undef w') : LoudRun C o l w Q := by
  intro ρ hρ w₁ hs
  obtain ⟨es, clk, hb, hgood, hnd, hborn, hbn, hp⟩ := hM
  have hb1 : w₁.heap[b]? = some (.map es clk) := by rw [hs.heap]; exact hb
  have hu := (hC.ti hti).isMap hd
  have hchk : ∀ em, (Instr.checkKey em 10000 k x).run C.P w₁ = .ok () w₁ := fun em => K.check w₁ em hkey
  rcases K.find w₁ hkey es.toList hgood with ⟨h1, h2⟩ | ⟨j, e0, h1, h2, h3⟩
  · refine ⟨undef, _, _, .inr ⟨?_, rfl⟩, h _ _ (put_setObj hs (o' := .map (es.push ⟨x, v, clk⟩) (clk + 1)) hb) ?_, Same.refl _⟩
    · unfold execOp
      rw [ho]
      simp [hρ _ _ hm, hρ _ _ hx, hρ _ _ hv, Instr.mapUpdate, run_underlying hu, MapKept.run_getObj_map hb1, hchk, h1, MapKept.run_setObj_map _ hb1]
    · refine ⟨_, _, (put_setObj hs hb).here, ?_, ?_, ?_, ?_, ?_⟩
      · intro e he
        simp only [Array.toList_push, List.mem_append, List.mem_singleton] at he
        rcases he with he | rfl
        · exact hgood e he
        · exact ⟨_, hkey⟩
      · rw [Array.toList_push, List.map_append, List.nodup_append]
        refine ⟨hnd, by simp, ?_⟩
        intro a ha c hc
        obtain ⟨e, he, rfl⟩ := List.mem_map.1 ha
        have hc : c = x := by simpa using hc
        subst hc
        exact h2 e he
      · intro e he
        simp only [Array.toList_push, List.mem_append, List.mem_singleton] at he
        rcases he with he | rfl
        · exact Nat.lt_succ_of_lt (hborn e he)
        · exact Nat.lt_succ_self _
      · rw [Array.toList_push, List.map_append, List.nodup_append]
        refine ⟨hbn, by simp, ?_⟩
        intro a ha c hc
        obtain ⟨e, he, rfl⟩ := List.mem_map.1 ha
        have hc : c = clk := by simpa using hc
        subst hc
        exact Nat.ne_of_lt (hborn e he)
      · rw [Array.toList_push, List.map_append]
        exact hp.append_right _
  · exact absurd (hp.mem_iff.1 (List.mem_map.2 ⟨e0, List.mem_of_getElem? h2, by rw [h3]⟩)) (hno e0.val)
open Classical in
noncomputable def dropK (x : Value) (D : List (Value × Value)) : List (Value × Value) := D.filter fun p => !decide (p.1 = x)
theorem eraseIdx_keys {l : List MapEntry} {j : Nat} {e0 : MapEntry} {x : Value} (hnd : (l.map MapEntry.key).Nodup) (h2 : l[j]? = some e0) (h3 : e0.key = x) : ((l.eraseIdx j).map fun e => (e.key, e.val)) = dropK x (l.map fun e => (e.key, e.val)) := by
  classical
  induction l generalizing j with
  | nil => simp at h2
  | cons a r ih =>
    rw [List.map_cons, List.nodup_cons] at hnd
    cases j with
    | zero =>
      simp at h2
      subst h2
      have hr : ∀ e ∈ r, e.key ≠ x := fun e he hk => hnd.1 (List.mem_map.2 ⟨e, he, by rw [hk, h3]⟩)
      unfold dropK
      rw [List.eraseIdx_cons_zero, List.map_cons, List.filter_cons, if_neg (by simp [h3])]
      symm
      rw [List.filter_eq_self]
      intro p hp
      obtain ⟨e, he, rfl⟩ := List.mem_map.1 hp
      simpa using hr e he
    | succ j =>
      have h2' : r[j]? = some e0 := by simpa using h2
      have hak : a.key ≠ x := fun hk => hnd.1 (List.mem_map.2 ⟨e0, List.mem_of_getElem? h2', by rw [h3, hk]⟩)
      have := ih hnd.2 h2'
      unfold dropK at this ⊢
      rw [List.eraseIdx_cons_succ, List.map_cons, List.map_cons, List.filter_cons, if_pos (by simpa using hak), this]
theorem mapLDel (hC : C.Ok) {o : Oper} {t kt : Nat} {m ix : Operand} {l : Env} {w : World} {b k e : Nat} {x : Value} {lx : Lit} {ti : TI} {D : List (Value × Value)} (hkey : keyOf C.P k x = some lx) (hM : MapL C.P k w b D) (K : Keyed C.P k)
    (ho : o.op = .call ⟨.builtin .delete, #[m, ix], #[t, kt]⟩) (hm : evo l m = some (.map (some b))) (hx : evo l ix = some x) (hti : C.ti t = some ti) (hd : ti.d = .map k e)
    {Q : Value → World → Prop} (h : ∀ o' w', Put w b o' w' → MapL C.P k w' b (dropK x D) → Q (.tuple #[]) w') : LoudRun C o l w Q := by
  classical
  intro ρ hρ w₁ hs
  obtain ⟨es, clk, hb, hgood, hnd, hborn, hbn, hp⟩ := hM
  have hb1 : w₁.heap[b]? = some (.map es clk) := by rw [hs.heap]; exact hb
  have hu := (hC.ti hti).isMap hd
  have hchk : ∀ em, (Instr.checkKey em 10000 k x).run C.P w₁ = .ok () w₁ := fun em => K.check w₁ em hkey
  have hfil : (dropK x (es.toList.map fun e => (e.key, e.val))).Perm (dropK x D) := hp.filter _
  rcases K.find w₁ hkey es.toList hgood with ⟨h1, h2⟩ | ⟨j, e0, h1, h2, h3⟩
  · refine ⟨.tuple #[], _, _, .inl ?_, h _ _ (put_setObj hs (o' := .map es clk) hb) ?_, Same.refl _⟩
    · unfold execOp
      rw [ho]
      simp [resolve, invoke, builtin, hρ _ _ hm, hρ _ _ hx, Builtin.delete_, run_underlying hu, MapKept.run_getObj_map hb1, hchk, h1, MapKept.run_setObj_map _ hb1]
    · refine ⟨_, _, (put_setObj hs hb).here, hgood, hnd, hborn, hbn, ?_⟩
      refine List.Perm.trans ?_ hfil
      have : dropK x (es.toList.map fun e => (e.key, e.val)) = es.toList.map fun e => (e.key, e.val) := by
        unfold dropK
        rw [List.filter_eq_self]
        intro p hp
        obtain ⟨e, he, rfl⟩ := List.mem_map.1 hp
        simpa using h2 e he
      rw [this]
  · have hjl : j < es.toList.length := (List.getElem?_eq_some_iff.1 h2).1
    have hel : (es.eraseIdxIfInBounds j).toList = es.toList.eraseIdx j := by
      unfold Array.eraseIdxIfInBounds
      rw [dif_pos (by simpa using hjl)]
      simp
    have hsub : (es.eraseIdxIfInBounds j).toList.Sublist es.toList := by rw [hel]; exact List.eraseIdx_sublist _ _
    refine ⟨.tuple #[], _, _, .inl ?_, h _ _ (put_setObj hs (o' := .map (es.eraseIdxIfInBounds j) clk) hb) ?_, Same.refl _⟩
    · unfold execOp
      rw [ho]
      simp [resolve, invoke, builtin, hρ _ _ hm, hρ _ _ hx, Builtin.delete_, run_underlying hu, MapKept.run_getObj_map hb1, hchk, h1, MapKept.run_setObj_map _ hb1]
    · refine ⟨_, _, (put_setObj hs hb).here, fun e he => hgood e (hsub.subset he), (hsub.map _).nodup hnd, fun e he => hborn e (hsub.subset he), (hsub.map _).nodup hbn, ?_⟩
      rw [hel, eraseIdx_keys hnd h2 h3]
      exact hfil
def Walks (w : World) (b r : Nat) (D : List (Value × Value)) : Prop :=
  ∃ es clk since seen c0, w.heap[b]? = some (.map es clk) ∧ w.heap[r]? = some (.mapIter (some b) since seen c0) ∧ (∀ e ∈ es.toList, e.born < since) ∧ (es.toList.map MapEntry.born).Nodup ∧ since ≤ c0 ∧ since ≤ clk ∧
    (((es.toList.filter fun e => !seen.contains e.born).map fun e => (e.key, e.val))).Perm D
theorem Walks.keep {w w' : World} {b r : Nat} {D : List (Value × Value)} (h : Walks w b r D) (hb : w'.heap[b]? = w.heap[b]?) (hr : w'.heap[r]? = w.heap[r]?) : Walks w' b r D := by
  obtain ⟨es, clk, since, seen, c0, h1, h2, h3⟩ := h
  exact ⟨es, clk, since, seen, c0, hb.trans h1, hr.trans h2, h3⟩
theorem Walks.lt {w : World} {b r : Nat} {D : List (Value × Value)} (h : Walks w b r D) : b < w.heap.size ∧ r < w.heap.size := by
  obtain ⟨es, clk, since, seen, c0, h1, h2, h3⟩ := h
  exact ⟨lt_of_heap h1, lt_of_heap h2⟩
theorem walkStart (hC : C.Ok) {o : Oper} {t : Nat} {m : Operand} {l : Env} {w : World} {b k e : Nat} {ti : TI} {D : List (Value × Value)} (hM : MapL C.P k w b D)
    (ho : o.op = .range t m) (hm : evo l m = some (.map (some b))) (hti : C.ti t = some ti) (hd : ti.d = .map k e)
    {Q : Value → World → Prop} (h : ∀ r w', Ext w w' → w.heap.size ≤ r → Walks w' b r D → Q (.pointer (some ⟨r, 0, none⟩)) w') : LoudRun C o l w Q := by
  intro ρ hρ w₁ hs
  obtain ⟨es, clk, hb, hgood, hnd, hborn, hbn, hp⟩ := hM
  have hb1 : w₁.heap[b]? = some (.map es clk) := by rw [hs.heap]; exact hb
  have hu := (hC.ti hti).isMap hd
  have hlt : b < w₁.heap.size := lt_of_heap hb1
  have ha : Alloc w w.heap.size (.mapIter (some b) clk #[] clk) (w₁.alloc (.mapIter (some b) clk #[] clk)) := Alloc.of_same hs _
  refine ⟨.pointer (some ⟨w₁.heap.size, 0, none⟩), w₁.alloc (.mapIter (some b) clk #[] clk), _, .inl ?_, h _ _ ha.ext (by rw [hs.heap]; exact Nat.le_refl _) ?_, Same.refl _⟩
  · unfold execOp
    rw [ho]
    simp only [hρ _ _ hm]
    have := run_range_map w₁ t k e b es clk hu hb1
    simp [this]
  · refine ⟨es, clk, clk, #[], clk, ha.ext.heap hb, ?_, hborn, hbn, Nat.le_refl _, Nat.le_refl _, ?_⟩
    · rw [hs.heap]; exact ha.here
    · have : (es.toList.filter fun e => !(#[] : Array Nat).contains e.born) = es.toList := by rw [List.filter_eq_self]; simp
      rw [this]; exact hp
theorem left_toList (es : Array MapEntry) (seen : Array Nat) : (leftOf es seen).toList = es.toList.filter fun e => !seen.contains e.born := by
  unfold leftOf
  simp
theorem pick_perm (seen : Array Nat) {e : MapEntry} : ∀ {L : List MapEntry}, (L.map MapEntry.born).Nodup → e ∈ L → seen.contains e.born = false → (L.filter fun x => !seen.contains x.born).Perm (e :: L.filter fun x => !(seen.push e.born).contains x.born)
  | [], _, h, _ => by cases h
  | a :: r, hnd, hm, hs => by
    rw [List.map_cons, List.nodup_cons] at hnd
    have key : ∀ x : MapEntry, x.born ≠ e.born → (!(seen.push e.born).contains x.born) = !seen.contains x.born := fun x hx => by simp [hx]
    rcases List.mem_cons.1 hm with rfl | hm
    · have hr : (r.filter fun x => !(seen.push e.born).contains x.born) = r.filter fun x => !seen.contains x.born :=
        List.filter_congr fun x hx => key x fun hh => hnd.1 (List.mem_map.2 ⟨x, hx, hh⟩)
      rw [List.filter_cons, if_pos (by rw [hs]; rfl), List.filter_cons, if_neg (by simp), hr]
    · have hae : a.born ≠ e.born := fun hh => hnd.1 (List.mem_map.2 ⟨e, hm, hh.symm⟩)
      have ih := pick_perm seen hnd.2 hm hs
      rw [List.filter_cons, List.filter_cons, key a hae]
      split
      · exact (List.Perm.cons a ih).trans (List.Perm.swap e a _)
      · exact ih
end
end Go.Eng
