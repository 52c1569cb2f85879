/- a part of the proof: steps, walks and plain laws that the law below stands on; no condition. -/
import Derived.Test.YtcnbpfecgokhiaaGreatDoorDSa
import Derived.Test.YtcnbpfecgokhiaaGreatDoorDSb
import Derived.Test.YtcnbpfecgokhiaaGreatDoorDSc
import Derived.Test.YtcnbpfecgokhiaaGreatDoorDSd
import Derived.Scope
import Derived.Laws.StructEq
import Derived.Maps.RangeRun
set_option linter.unusedVariables false
set_option linter.unusedSimpArgs false
set_option linter.unnecessarySimpa false
set_option linter.unusedSectionVars false
namespace Go.Proofs.YtcnbpfecgokhiaaGreatDoor
open Go.Eng Go.RowKit
structure Opn where
  kind : Int
  x : Entry
deriving DecidableEq
def opnZ : Opn := ⟨0, entryZ⟩
instance : Inhabited Opn := ⟨opnZ⟩
def Opn.cells (o : Opn) : List Value := .int .u8 o.kind :: o.x.cells
def Opn.val (o : Opn) : Value := .agg o.cells.toArray
/-- What the facts say of a waiver that is granted: 0, or an error. -/
def sgF (f : List Fact) (w : Waiv) : Int := if (chkF f).2 ≠ 0 then (chkF f).2 else if leastL (atL w.day w.day f) w.signer w.giver ≤ 2 then 0 else 60
def doF (f : List Fact) (es : List Entry) (x : Entry) : Int := doE (sgF f x.w) es x
def rateE (day c n : Int) : Entry := ⟨1, day, waivZ, giftZ, c, 0, n⟩
def ceilE (day s n : Int) : Entry := ⟨2, day, waivZ, giftZ, s, 0, n⟩
def grantE (es : List Entry) (w : Waiv) : Entry := ⟨3, w.day, { w with id := (((waivL es).length + 1 : Nat) : Int) }, giftZ, 0, 0, 0⟩
def endE (day id : Int) : Entry := ⟨4, day, { waivZ with id := id }, giftZ, 0, 0, 0⟩
def offerE (es : List Entry) (day frm to cur n returns : Int) : Entry := ⟨5, day, waivZ, ⟨(((giftL es).length + 1 : Nat) : Int), day, frm, to, cur, n, 0, 0, 0, returns⟩, 0, 0, 0⟩
def takeE (day id : Int) : Entry := ⟨6, day, waivZ, { giftZ with id := id }, 0, 0, 0⟩
def refuseE (day id : Int) : Entry := ⟨7, day, waivZ, { giftZ with id := id }, 0, 0, 0⟩
def opK (o : Opn) : Int := o.kind % 8
/-- The entry that an operation would add. -/
def opE (es : List Entry) (o : Opn) : Entry :=
  if opK o = 1 then grantE es o.x.w else if opK o = 2 then offerE es o.x.day o.x.g.frm o.x.g.to o.x.g.cur o.x.g.n o.x.g.returns else if opK o = 3 then rateE o.x.day o.x.g.cur o.x.n
  else if opK o = 4 then ceilE o.x.day o.x.a o.x.n else if opK o = 5 then endE o.x.day o.x.w.id else if opK o = 6 then takeE o.x.day o.x.g.id else if opK o = 7 then refuseE o.x.day o.x.g.id else o.x
def didE (f : List Fact) (es : List Entry) (o : Opn) : Int := doF f es (opE es o)
def addL (e : Int) (es : List Entry) (x : Entry) : List Entry := if e = 0 then es ++ [x] else es
def didL (f : List Fact) (es : List Entry) (o : Opn) : List Entry := addL (didE f es o) es (opE es o)
def didN (f : List Fact) (es : List Entry) (o : Opn) : Int := if didE f es o = 0 then (if opK o = 1 then (((waivL es).length + 1 : Nat) : Int) else if opK o = 2 then (((giftL es).length + 1 : Nat) : Int) else 0) else 0
def builtL (f : List Fact) (s : List Opn) : List Entry := s.foldl (didL f) []
theorem acc_add {sg : Int} {es : List Entry} {x : Entry} (h : Acc es) : Acc (addL (doE sg es x) es x) := by
  unfold addL
  split
  · rename_i h0; exact .snoc sg h h0
  · exact h
theorem acc_did {f : List Fact} {es : List Entry} (h : Acc es) (o : Opn) : Acc (didL f es o) := acc_add h
theorem add_length (e : Int) (es : List Entry) (x : Entry) : (addL e es x).length ≤ es.length + 1 := by
  unfold addL; split <;> simp
theorem acc_fold {f : List Fact} : ∀ (s : List Opn) {es : List Entry}, Acc es → Acc (s.foldl (didL f) es) ∧ (s.foldl (didL f) es).length ≤ es.length + s.length
  | [], _, h => ⟨h, by simp⟩
  | o :: s, es, h => by
    obtain ⟨h1, h2⟩ := acc_fold (f := f) s (acc_did (f := f) h o)
    have := add_length (didE f es o) es (opE es o)
    refine ⟨h1, ?_⟩
    rw [List.foldl_cons, List.length_cons]
    have h3 : (didL f es o).length ≤ es.length + 1 := this
    omega
theorem acc_built (f : List Fact) (s : List Opn) : Acc (builtL f s) ∧ (builtL f s).length ≤ s.length := by
  have := acc_fold (f := f) s Acc.nil
  simpa [builtL] using this
theorem built_take {f : List Fact} {s : List Opn} {i : Nat} (hi : i < s.length) : builtL f (s.take (i + 1)) = didL f (builtL f (s.take i)) s[i] := by
  unfold builtL
  rw [List.take_succ_eq_append_getElem hi, List.foldl_append]; rfl
theorem waivL_length : ∀ (es : List Entry), (waivL es).length ≤ es.length := by
  intro es
  unfold waivL
  suffices h : ∀ (es : List Entry) (l : List Waiv), (es.foldl waivS l).length ≤ l.length + es.length from by simpa using h es []
  intro es
  induction es with
  | nil => intro l; simp
  | cons x r ih =>
    intro l
    have h1 : (waivS l x).length ≤ l.length + 1 := by
      unfold waivS
      split
      · simp
      · split
        · rw [updAt_length]; omega
        · omega
    have := ih (waivS l x)
    rw [List.foldl_cons, List.length_cons]
    omega
theorem meetS_length (gs : List Gift) (x : Entry) : (meetS gs x).length = gs.length := by
  unfold meetS
  split
  · simp only
    split
    · rfl
    · split
      · rw [updAt_length]
      · rfl
  · rfl
theorem baseS_length (es : List Entry) (gs : List Gift) (x : Entry) : (baseS es gs x).length ≤ gs.length + 1 := by
  unfold baseS
  split
  · simp
  · split
    · rw [updAt_length]; omega
    · split
      · rw [updAt_length]; omega
      · omega
theorem giftL_length (es : List Entry) : (giftL es).length ≤ es.length := by
  unfold giftL
  suffices h : ∀ (es seen : List Entry) (gs : List Gift), (foldG giftS seen gs es).length ≤ gs.length + es.length from by simpa using h es [] []
  intro es
  induction es with
  | nil => intro seen gs; simp [foldG]
  | cons x r ih =>
    intro seen gs
    have h1 : (giftS seen gs x).length ≤ gs.length + 1 := by unfold giftS; rw [meetS_length]; exact baseS_length seen gs x
    have := ih (seen ++ [x]) (giftS seen gs x)
    show (foldG giftS (seen ++ [x]) (giftS seen gs x) r).length ≤ _
    rw [List.length_cons]
    omega
def asOfL (es : List Entry) (day : Int) : List Entry := es.filter fun x => decide (x.day ≤ day)
theorem asOf_take {es : List Entry} (h : es.Pairwise fun a b => a.day ≤ b.day) (day : Int) : ∃ n, asOfL es day = es.take n := by
  induction es with
  | nil => exact ⟨0, rfl⟩
  | cons x r ih =>
    obtain ⟨h1, h2⟩ := List.pairwise_cons.1 h
    unfold asOfL at ih ⊢
    by_cases hx : x.day ≤ day
    · obtain ⟨n, hn⟩ := ih h2
      exact ⟨n + 1, by rw [List.filter_cons, if_pos (decide_eq_true hx), hn]; rfl⟩
    · refine ⟨0, ?_⟩
      rw [List.filter_cons, if_neg (by simpa using hx), List.take_zero, List.filter_eq_nil_iff]
      intro y hy
      have := h1 y hy
      simp; omega
theorem acc_asOf {es : List Entry} (h : Acc es) (day : Int) : Acc (asOfL es day) := by
  obtain ⟨n, hn⟩ := asOf_take (acc_ok h).days day
  rw [hn]; exact acc_front h n
theorem asOf_snoc (es : List Entry) (x : Entry) (day : Int) : asOfL (es ++ [x]) day = asOfL es day ++ if x.day ≤ day then [x] else [] := by
  unfold asOfL
  rw [List.filter_append, List.filter_cons, List.filter_nil]
  by_cases h : x.day ≤ day
  · rw [if_pos (decide_eq_true h), if_pos h]
  · rw [if_neg (by simpa using h), if_neg h]
theorem asOf_all {es : List Entry} {day : Int} (h : ∀ x ∈ es, x.day ≤ day) : asOfL es day = es := by
  unfold asOfL
  rw [List.filter_eq_self]
  intro x hx
  exact decide_eq_true (h x hx)
/-- What is added on a later day makes no difference. -/
theorem asOf_add (e : Int) {es : List Entry} {x : Entry} {day : Int} (h : day < x.day) : asOfL (addL e es x) day = asOfL es day := by
  unfold addL
  split
  · rw [asOf_snoc, if_neg (by omega), List.append_nil]
  · rfl
def forceB (day : Int) (w : Waiv) : Bool := decide (w.since ≤ day) && decide (day < w.til)
def waiversAt (es : List Entry) (day : Int) : List Waiv := (waivL (asOfL es day)).filter (forceB day)
structure Guest where
  person : Int
  state : Int
deriving DecidableEq
def guestZ : Guest := ⟨0, 0⟩
instance : Inhabited Guest := ⟨guestZ⟩
def Guest.cells (g : Guest) : List Value := [.int .i64 g.person, .int .i64 g.state]
def Guest.val (g : Guest) : Value := .agg g.cells.toArray
def coversB (w : Waiv) (u o : Guest) : Bool := decide (w.giver = u.state) && (decide (w.taker = o.state) && ((decide (w.under = 0) || decide (w.under = u.person)) && (decide (w.over = 0) || decide (w.over = o.person))))
def coversAt (es : List Entry) (u o : Guest) (day : Int) : Bool := (waiversAt es day).any fun w => coversB w u o
structure IPair where
  a : Int
  b : Int
deriving DecidableEq
def pairZ : IPair := ⟨0, 0⟩
instance : Inhabited IPair := ⟨pairZ⟩
def IPair.cells (p : IPair) : List Value := [.int .i64 p.a, .int .i64 p.b]
def IPair.val (p : IPair) : Value := .agg p.cells.toArray
def rowPairs (ws : List Waiv) (g : List Guest) (a : Nat) : List IPair := (List.range g.length).flatMap fun b => if ws.any (fun w => coversB w (g.getD a guestZ) (g.getD b guestZ)) = true then [⟨(a : Int), (b : Int)⟩] else []
def pairsL (ws : List Waiv) (g : List Guest) : List IPair := (List.range g.length).flatMap fun a => rowPairs ws g a
def pairsAt (es : List Entry) (g : List Guest) (day : Int) : List IPair := if g.length > 24 then [] else pairsL (waiversAt es day) g
def dueLt (a b : Due) : Bool := decide (a.cred < b.cred) || (decide (a.cred = b.cred) && decide (a.debt < b.debt))
def insDue (d : Due) : List Due → List Due
  | [] => [d]
  | x :: r => if dueLt d x = true then d :: x :: r else x :: insDue d r
def sortDue (l : List Due) : List Due := l.foldl (fun acc d => insDue d acc) []
def duesAt (es : List Entry) (day : Int) : List Due := sortDue (dueL (asOfL es day))
def owesL (l : List Due) (c d : Int) : Option Due := l.find? fun x => decide (x.cred = c ∧ x.debt = d)
def owesAt (es : List Entry) (debt cred day : Int) : Due × Bool := match owesL (dueL (asOfL es day)) cred debt with
  | some d => (d, true)
  | none => (dueZ, false)
def giftsAt (es : List Entry) (s day : Int) : List Gift := (giftL (asOfL es day)).filter fun g => decide (g.frm = s) || decide (g.to = s)
def debtB (g : Gift) : Bool := decide (g.returns = 0) && decide (g.state = 2)
def debtW (gs : List Gift) (frm to : Int) (g : Gift) : Int := if debtB g = true ∧ g.frm = to ∧ g.to = frm then max 0 (g.worth - metL gs g.id) else 0
def debtL (gs : List Gift) (frm to : Int) : Int := (gs.map (debtW gs frm to)).sum
def debtAt (es : List Entry) (frm to day : Int) : Int := debtL (giftL (asOfL es day)) frm to
def overdueAt (es : List Entry) (day : Int) : List Gift := (giftL (asOfL es day)).filter fun g => debtB g && decide (day > g.answered + 365)
structure Sight where
  entry : Int
  kind : Int
  day : Int
  a : Int
  b : Int
  n : Int
deriving DecidableEq
def sightZ : Sight := ⟨0, 0, 0, 0, 0, 0⟩
instance : Inhabited Sight := ⟨sightZ⟩
def Sight.cells (s : Sight) : List Value := [.int .i64 s.entry, .int .u8 s.kind, .int .i64 s.day, .int .i64 s.a, .int .i64 s.b, .int .i64 s.n]
def Sight.val (s : Sight) : Value := .agg s.cells.toArray
/-- What a state sees of an entry: its kind, day and three numbers; nothing, if it is about a gift of others. -/
def seeX (ws : List Waiv) (gs : List Gift) (state : Int) (x : Entry) : Option (Int × Int × Int × Int × Int) :=
  if x.kind = 1 ∨ x.kind = 2 then some (x.kind, x.day, x.a, 0, x.n)
  else if x.kind = 3 ∨ x.kind = 4 then some (x.kind, x.day, (atN ws x.w.id).giver, (atN ws x.w.id).taker, (atN ws x.w.id).id)
  else if (atN gs x.g.id).frm = state ∨ (atN gs x.g.id).to = state then some (x.kind, x.day, (atN gs x.g.id).frm, (atN gs x.g.id).to, (atN gs x.g.id).worth) else none
def numS (l : List (Int × Int × Int × Int × Int)) : List Sight := l.zipIdx.map fun p => ⟨(p.2 : Int), p.1.1, p.1.2.1, p.1.2.2.1, p.1.2.2.2.1, p.1.2.2.2.2⟩
def sightsL (es : List Entry) (state : Int) : List (Int × Int × Int × Int × Int) := es.filterMap (seeX (waivL es) (giftL es) state)
def sightAt (es : List Entry) (state day : Int) : List Sight := numS (sightsL (asOfL es day) state)
end Go.Proofs.YtcnbpfecgokhiaaGreatDoor
namespace Go.Proofs.YtcnbpfecgokhiaaGreatDoor
open Go.Eng Go.RowKit
theorem owes_find {l : List Due} {c d : Int} {x : Due} (h : owesL l c d = some x) : x ∈ l ∧ x.cred = c ∧ x.debt = d := by
  have h1 := List.find?_some h
  exact ⟨List.mem_of_find?_eq_some h, of_decide_eq_true h1⟩
theorem owes_none {l : List Due} {c d : Int} (h : owesL l c d = none) : ∀ x ∈ l, ¬ (x.cred = c ∧ x.debt = d) := by
  intro x hx
  have := List.find?_eq_none.1 h x hx
  simpa using this
end Go.Proofs.YtcnbpfecgokhiaaGreatDoor
namespace Go.Proofs.YtcnbpfecgokhiaaGreatDoor
open Go.Eng Go.RowKit
inductive Ext2 {α : Type} (R : α → α → Prop) : List α → List α → Prop
  | nil (l : List α) : Ext2 R [] l
  | cons {x y : α} {r s : List α} : R x y → Ext2 R r s → Ext2 R (x :: r) (y :: s)
theorem Ext2.refl {α : Type} {R : α → α → Prop} (h : ∀ x, R x x) : ∀ (l : List α), Ext2 R l l
  | [] => .nil _
  | x :: r => .cons (h x) (Ext2.refl h r)
theorem Ext2.trans {α : Type} {R : α → α → Prop} (h : ∀ x y z, R x y → R y z → R x z) : ∀ {a b c : List α}, Ext2 R a b → Ext2 R b c → Ext2 R a c
  | _, _, _, .nil _, _ => .nil _
  | _, _, _, .cons h1 h2, .cons h3 h4 => .cons (h _ _ _ h1 h3) (Ext2.trans h h2 h4)
theorem Ext2.append {α : Type} {R : α → α → Prop} (h : ∀ x, R x x) : ∀ (l r : List α), Ext2 R l (l ++ r)
  | [], r => .nil _
  | x :: l, r => .cons (h x) (Ext2.append h l r)
theorem Ext2.set {α : Type} {R : α → α → Prop} (h : ∀ x, R x x) : ∀ {l : List α} {k : Nat} (hk : k < l.length) {y : α}, R l[k] y → Ext2 R l (l.set k y)
  | x :: l, 0, _, y, hy => .cons hy (Ext2.refl h l)
  | x :: l, k + 1, hk, y, hy => .cons (h x) (Ext2.set h (l := l) (k := k) (by simpa using hk) hy)
theorem Ext2.filter {α : Type} {R : α → α → Prop} {p : α → Bool} (h : ∀ x y, R x y → p x = p y) : ∀ {a b : List α}, Ext2 R a b → Ext2 R (a.filter p) (b.filter p)
  | _, _, .nil _ => .nil _
  | _, _, .cons (x := x) (y := y) h1 h2 => by
    rw [List.filter_cons, List.filter_cons, ← h _ _ h1]
    split
    · exact .cons h1 (Ext2.filter h h2)
    · exact Ext2.filter h h2
theorem Ext2.get {α : Type} {R : α → α → Prop} : ∀ {a b : List α}, Ext2 R a b → ∀ i (h : i < a.length), ∃ h' : i < b.length, R a[i] b[i]
  | _, _, .nil _, i, h => absurd h (Nat.not_lt_zero _)
  | _, _, .cons h1 h2, 0, _ => ⟨by simp, h1⟩
  | _, _, .cons h1 h2, i + 1, h => by
    obtain ⟨h', hr⟩ := Ext2.get h2 i (by simpa using h)
    exact ⟨by simpa using h', hr⟩
theorem Ext2.length {α : Type} {R : α → α → Prop} : ∀ {a b : List α}, Ext2 R a b → a.length ≤ b.length
  | _, _, .nil _ => Nat.zero_le _
  | _, _, .cons _ h => by simpa using Ext2.length h
structure GLater (x y : Gift) : Prop where
  id : y.id = x.id
  frm : y.frm = x.frm
  to : y.to = x.to
  worth : y.worth = x.worth
  back : x.state = 4 → y.state = 4
  no : x.state = 3 → y.state = 3
theorem GLater.refl (x : Gift) : GLater x x := ⟨rfl, rfl, rfl, rfl, fun e => e, fun e => e⟩
theorem GLater.trans {x y z : Gift} (h : GLater x y) (k : GLater y z) : GLater x z := ⟨k.id.trans h.id, k.frm.trans h.frm, k.to.trans h.to, k.worth.trans h.worth, fun e => k.back (h.back e), fun e => k.no (h.no e)⟩
structure WLater (x y : Waiv) : Prop where
  id : y.id = x.id
  giver : y.giver = x.giver
  taker : y.taker = x.taker
theorem WLater.refl (x : Waiv) : WLater x x := ⟨rfl, rfl, rfl⟩
theorem WLater.trans {x y z : Waiv} (h : WLater x y) (k : WLater y z) : WLater x z := ⟨k.id.trans h.id, k.giver.trans h.giver, k.taker.trans h.taker⟩
theorem gifts_step {sg : Int} {es : List Entry} {x : Entry} (hA : Acc es) (hx : doE sg es x = 0) : Ext2 GLater (giftL es) (giftL (es ++ [x])) := by
  obtain ⟨hf, hl, hr⟩ := do_zero hx
  obtain ⟨hok, _, _⟩ := form_okE hf
  have hG := (acc_ok hA).gifts
  rw [giftL_snoc]
  unfold giftS meetS baseS
  rcases ok_kind hok with hk | hk | hk | hk | hk | hk | hk
  · simp only [hk, Int.reduceEq, if_false]; exact Ext2.refl GLater.refl _
  · simp only [hk, Int.reduceEq, if_false]; exact Ext2.refl GLater.refl _
  · simp only [hk, Int.reduceEq, if_false]; exact Ext2.refl GLater.refl _
  · simp only [hk, Int.reduceEq, if_false]; exact Ext2.refl GLater.refl _
  · simp only [hk, Int.reduceEq, if_true, if_false]; exact Ext2.append GLater.refl _ _
  · have hri : (if x.g.id > (giftL es).length then (5 : Int) else if ¬ (atN (giftL es) x.g.id).state = 1 then 8 else 0) = 0 := by
      unfold refusedE at hr
      rw [if_neg (by omega), if_neg (by omega), if_neg (by omega), if_pos (.inl hk)] at hr
      exact hr
    have hid : 1 ≤ x.g.id := by
      unfold okE at hok
      rw [if_neg (by omega), if_neg (by omega), if_neg (by omega), if_neg (by omega), if_neg (by omega), if_pos (.inl hk), decide_eq_true_eq] at hok
      omega
    obtain ⟨k, hkl, he, hs⟩ := gift_answered (x := x) hid hri
    simp only [hk, Int.reduceEq, if_true, if_false, he]
    rw [updAt_eq hkl]
    generalize giftL es = gs at *
    have hset : Ext2 GLater gs (gs.set k (takeG x.day gs[k])) := Ext2.set GLater.refl hkl ⟨rfl, rfl, rfl, rfl, fun e => by omega, fun e => by omega⟩
    have hks : k < (gs.set k (takeG x.day gs[k])).length := by simpa using hkl
    have hat : atN (gs.set k (takeG x.day gs[k])) ((k + 1 : Nat) : Int) = takeG x.day gs[k] := by rw [atN_get hks]; simp
    rw [hat]
    have hret : (takeG x.day gs[k]).returns = gs[k].returns := rfl
    rw [hret]
    rcases hG.refs k hkl with h0 | ⟨j, hj, h1, h2, h3, h4, h5⟩
    · rw [if_pos h0]; exact hset
    · rw [if_neg (by omega)]
      split
      · have hjs : j < (gs.set k (takeG x.day gs[k])).length := by simpa using hj
        have gj : (gs.set k (takeG x.day gs[k]))[j] = gs[j] := by rw [List.getElem_set, if_neg (fun e => h2 e.symm)]
        rw [h1, updAt_eq hjs]
        refine Ext2.trans (R := GLater) (fun _ _ _ => GLater.trans) hset (Ext2.set GLater.refl hjs ⟨rfl, rfl, rfl, rfl, fun _ => rfl, fun e => ?_⟩)
        rw [gj] at e
        omega
      · exact hset
  · have hri : (if x.g.id > (giftL es).length then (5 : Int) else if ¬ (atN (giftL es) x.g.id).state = 1 then 8 else 0) = 0 := by
      unfold refusedE at hr
      rw [if_neg (by omega), if_neg (by omega), if_neg (by omega), if_pos (.inr hk)] at hr
      exact hr
    have hid : 1 ≤ x.g.id := by
      unfold okE at hok
      rw [if_neg (by omega), if_neg (by omega), if_neg (by omega), if_neg (by omega), if_neg (by omega), if_pos (.inr hk), decide_eq_true_eq] at hok
      omega
    obtain ⟨k, hkl, he, hs⟩ := gift_answered (x := x) hid hri
    simp only [hk, Int.reduceEq, if_true, if_false, he]
    rw [updAt_eq hkl]
    exact Ext2.set GLater.refl hkl ⟨rfl, rfl, rfl, rfl, fun e => by omega, fun e => rfl⟩
theorem waivs_step {sg : Int} {es : List Entry} {x : Entry} (hx : doE sg es x = 0) : Ext2 WLater (waivL es) (waivL (es ++ [x])) := by
  obtain ⟨hf, hl, hr⟩ := do_zero hx
  obtain ⟨hok, _, _⟩ := form_okE hf
  rw [waivL_snoc]
  unfold waivS
  split
  · exact Ext2.append WLater.refl _ _
  · split
    · rename_i k3 k4
      have hri : (if x.w.id > (waivL es).length then (5 : Int) else if (atN (waivL es) x.w.id).til ≤ x.day then 8 else 0) = 0 := by
        unfold refusedE at hr
        rw [if_neg (by omega), if_pos k4] at hr
        exact hr
      have hid : 1 ≤ x.w.id := by
        unfold okE at hok
        rw [if_neg (by omega), if_neg (by omega), if_neg (by omega), if_pos k4, decide_eq_true_eq] at hok
        omega
      split at hri
      · cases hri
      rename_i r1
      obtain ⟨k, hk, he⟩ := num_of (n := (waivL es).length) (i := x.w.id) hid (by omega)
      rw [he, updAt_eq hk]
      exact Ext2.set WLater.refl hk ⟨rfl, rfl, rfl⟩
    · exact Ext2.refl WLater.refl _
theorem later_gifts : ∀ (r : List Entry) {es : List Entry}, Acc (es ++ r) → Ext2 GLater (giftL es) (giftL (es ++ r)) ∧ Ext2 WLater (waivL es) (waivL (es ++ r))
  | [], es, _ => by rw [List.append_nil]; exact ⟨Ext2.refl GLater.refl _, Ext2.refl WLater.refl _⟩
  | x :: r, es, h => by
    have e : es ++ x :: r = (es ++ [x]) ++ r := by simp
    rw [e] at h ⊢
    obtain ⟨hA, sg, hx⟩ := acc_inv (acc_take r h)
    obtain ⟨h1, h2⟩ := later_gifts r h
    exact ⟨Ext2.trans (R := GLater) (fun _ _ _ => GLater.trans) (gifts_step hA hx) h1, Ext2.trans (R := WLater) (fun _ _ _ => WLater.trans) (waivs_step hx) h2⟩
def sidesB (s : Int) (g : Gift) : Bool := decide (g.frm = s) || decide (g.to = s)
theorem sum_congr {α : Type} {f g : α → Int} {l : List α} (h : ∀ x ∈ l, f x = g x) : (l.map f).sum = (l.map g).sum := by
  rw [List.map_congr_left h]
end Go.Proofs.YtcnbpfecgokhiaaGreatDoor
namespace Go.Proofs.YtcnbpfecgokhiaaGreatDoor
open Go.Eng Go.RowKit
theorem snocInd {α : Type} {P : List α → Prop} (nil : P []) (snoc : ∀ l x, P l → P (l ++ [x])) (l : List α) : P l := by
  rw [← List.reverse_reverse l]
  induction l.reverse with
  | nil => exact nil
  | cons x r ih => rw [List.reverse_cons]; exact snoc _ _ ih
theorem pair_ne {α : Type} {R : α → α → Prop} (hs : ∀ x y, R x y → R y x) : ∀ {l : List α}, l.Pairwise (fun a b => ¬ R a b) → ∀ x ∈ l, ∀ y ∈ l, x ≠ y → ¬ R x y
  | [], _, x, hx, _, _, _ => by cases hx
  | a :: r, h, x, hx, y, hy, hne => by
    obtain ⟨h1, h2⟩ := List.pairwise_cons.1 h
    rcases List.mem_cons.1 hx with ex | hx'
    · rcases List.mem_cons.1 hy with ey | hy'
      · exact absurd (ex.trans ey.symm) hne
      · rw [ex]; exact h1 y hy'
    · rcases List.mem_cons.1 hy with ey | hy'
      · rw [ey]; exact fun e => h1 x hx' (hs _ _ e)
      · exact pair_ne hs h2 x hx' y hy' hne
theorem filterMap_same {α β : Type} {f g : α → Option β} : ∀ {l : List α}, (∀ x ∈ l, f x = g x) → l.filterMap f = l.filterMap g
  | [], _ => rfl
  | x :: r, h => by
    rw [List.filterMap_cons, List.filterMap_cons, h x (List.mem_cons_self ..), filterMap_same (fun y hy => h y (List.mem_cons_of_mem _ hy))]
def dueOf (w : Waiv) : Due := ⟨w.giver, w.taker, w.id⟩
theorem dueS_of (l : List Due) {w v : Waiv} (h : dueOf w = dueOf v) : dueS l w = dueS l v := by
  unfold dueOf at h
  injection h with h1 h2 h3
  unfold dueS
  rw [h1, h2, h3]
theorem fold_of : ∀ {a b : List Waiv} (l : List Due), a.map dueOf = b.map dueOf → a.foldl dueS l = b.foldl dueS l
  | [], [], _, _ => rfl
  | [], _ :: _, _, h => by simp at h
  | _ :: _, [], _, h => by simp at h
  | x :: a, y :: b, l, h => by
    rw [List.map_cons, List.map_cons] at h
    injection h with h1 h2
    rw [List.foldl_cons, List.foldl_cons, dueS_of l h1]
    exact fold_of _ h2
theorem waiv_grants : ∀ {es : List Entry}, (waivL es).map dueOf = (grantsL es).map dueOf := by
  intro es
  induction es using snocInd with
  | nil => rfl
  | snoc es x ih =>
    rw [waivL_snoc, grantsL_snoc]
    unfold waivS
    by_cases k3 : x.kind = 3
    · rw [if_pos k3, if_pos k3, List.map_append, List.map_append, ih]
    · rw [if_neg k3, if_neg k3, List.append_nil]
      split
      · rw [← ih]
        unfold updAt
        rw [List.map_set]
        apply List.ext_getElem?
        intro i
        rw [List.getElem?_set]
        split
        · rename_i hi
          subst hi
          split
          · rename_i hlt
            have hlt' : (x.w.id - 1).toNat < (waivL es).length := by simpa using hlt
            rw [List.getElem?_map, List.getElem?_eq_getElem hlt']
            unfold atN
            rw [List.getD_eq_getElem?_getD, List.getElem?_eq_getElem hlt']
            rfl
          · rename_i hlt
            rw [List.getElem?_eq_none (by simpa using hlt)]
        · rfl
      · exact ih
theorem owing_eq (es : List Entry) : (waivL es).foldl dueS [] = dueL es := fold_of [] waiv_grants
theorem mem_insDue {d x : Due} : ∀ {l : List Due}, x ∈ insDue d l ↔ x = d ∨ x ∈ l
  | [] => by simp [insDue]
  | y :: r => by
    unfold insDue
    split
    · simp
    · rw [List.mem_cons, mem_insDue (l := r), List.mem_cons]
      constructor
      · rintro (h | h | h)
        · exact .inr (.inl h)
        · exact .inl h
        · exact .inr (.inr h)
      · rintro (h | h | h)
        · exact .inr (.inl h)
        · exact .inl h
        · exact .inr (.inr h)
theorem insDue_perm (d : Due) : ∀ (l : List Due), (insDue d l).Perm (d :: l)
  | [] => List.Perm.refl _
  | x :: r => by
    unfold insDue
    split
    · exact List.Perm.refl _
    · exact (List.Perm.cons x (insDue_perm d r)).trans (List.Perm.swap d x r)
theorem sortDue_fold : ∀ (l acc : List Due), (l.foldl (fun acc d => insDue d acc) acc).Perm (acc ++ l)
  | [], acc => by simp
  | d :: l, acc => by
    rw [List.foldl_cons]
    refine (sortDue_fold l (insDue d acc)).trans ?_
    refine ((insDue_perm d acc).append_right l).trans ?_
    show (d :: (acc ++ l)).Perm (acc ++ d :: l)
    exact List.perm_middle.symm
theorem sortDue_perm (l : List Due) : (sortDue l).Perm l := by
  have := sortDue_fold l []
  simpa [sortDue] using this
theorem dueLt_iff {a b : Due} : dueLt a b = true ↔ a.cred < b.cred ∨ a.cred = b.cred ∧ a.debt < b.debt := by
  unfold dueLt
  simp
theorem insDue_sorted {d : Due} : ∀ {l : List Due}, l.Pairwise (fun a b => dueLt b a = false) → (insDue d l).Pairwise fun a b => dueLt b a = false
  | [], _ => by simp [insDue]
  | x :: r, h => by
    obtain ⟨h1, h2⟩ := List.pairwise_cons.1 h
    unfold insDue
    split
    · rename_i hd
      have hd' := dueLt_iff.1 hd
      refine List.pairwise_cons.2 ⟨fun y hy => ?_, h⟩
      refine Bool.eq_false_iff.2 fun hc => ?_
      have hc' := dueLt_iff.1 hc
      rcases List.mem_cons.1 hy with rfl | hy
      · omega
      · have h3 := h1 y hy
        have : ¬ (y.cred < x.cred ∨ y.cred = x.cred ∧ y.debt < x.debt) := fun hh => by rw [dueLt_iff.2 hh] at h3; cases h3
        omega
    · rename_i hd
      refine List.pairwise_cons.2 ⟨fun y hy => ?_, insDue_sorted h2⟩
      rcases mem_insDue.1 hy with rfl | hy
      · simpa using hd
      · exact h1 y hy
theorem sortDue_sorted (l : List Due) : (sortDue l).Pairwise fun a b => dueLt b a = false := by
  unfold sortDue
  suffices h : ∀ (l acc : List Due), acc.Pairwise (fun a b => dueLt b a = false) → (l.foldl (fun acc d => insDue d acc) acc).Pairwise fun a b => dueLt b a = false from h l [] List.Pairwise.nil
  intro l
  induction l with
  | nil => intro acc h; exact h
  | cons d r ih => intro acc h; exact ih _ (insDue_sorted h)
theorem sortDue_eq {l m : List Due} (hp : m.Perm l) (hs : m.Pairwise fun a b => dueLt b a = false) (hd : l.Pairwise fun a b => ¬ (a.cred = b.cred ∧ a.debt = b.debt)) : m = sortDue l := by
  have hp2 : m.Perm (sortDue l) := hp.trans (sortDue_perm l).symm
  refine List.Perm.eq_of_pairwise (le := fun a b => dueLt b a = false) (fun a b ha hb h1 h2 => ?_) hs (sortDue_sorted l) hp2
  have e1 : ¬ (b.cred < a.cred ∨ b.cred = a.cred ∧ b.debt < a.debt) := fun hh => by rw [dueLt_iff.2 hh] at h1; cases h1
  have e2 : ¬ (a.cred < b.cred ∨ a.cred = b.cred ∧ a.debt < b.debt) := fun hh => by rw [dueLt_iff.2 hh] at h2; cases h2
  have hk : a.cred = b.cred ∧ a.debt = b.debt := by omega
  have ha' := hp.mem_iff.1 ha
  have hb' := (sortDue_perm l).mem_iff.1 hb
  refine Decidable.byContradiction fun hne => ?_
  have hd' : l.Pairwise fun a b => ¬ (a.cred = b.cred ∧ a.debt = b.debt) := hd
  exact pair_ne (R := fun a b : Due => a.cred = b.cred ∧ a.debt = b.debt) (fun _ _ e => ⟨e.1.symm, e.2.symm⟩) hd' a ha' b hb' hne hk
theorem owes_sort {l : List Due} (hd : l.Pairwise fun a b => ¬ (a.cred = b.cred ∧ a.debt = b.debt)) (c d : Int) : owesL (sortDue l) c d = owesL l c d := by
  have uniq : ∀ x ∈ l, ∀ y ∈ l, x.cred = c ∧ x.debt = d → y.cred = c ∧ y.debt = d → x = y := fun x hx y hy h1 h2 => by
    refine Decidable.byContradiction fun hne => ?_
    exact pair_ne (R := fun a b : Due => a.cred = b.cred ∧ a.debt = b.debt) (fun _ _ e => ⟨e.1.symm, e.2.symm⟩) hd x hx y hy hne ⟨h1.1.trans h2.1.symm, h1.2.trans h2.2.symm⟩
  cases h1 : owesL l c d with
  | none =>
    cases h2 : owesL (sortDue l) c d with
    | none => rfl
    | some x =>
      obtain ⟨a1, a2⟩ := owes_find h2
      exact absurd a2 (owes_none h1 x ((sortDue_perm l).mem_iff.1 a1))
  | some x =>
    obtain ⟨a1, a2⟩ := owes_find h1
    cases h2 : owesL (sortDue l) c d with
    | none => exact absurd a2 (owes_none h2 x ((sortDue_perm l).mem_iff.2 a1))
    | some y =>
      obtain ⟨b1, b2⟩ := owes_find h2
      rw [uniq y ((sortDue_perm l).mem_iff.1 b1) x a1 b2 a2]
def debtR (gs : List Gift) (frm to : Int) (g : Gift) : Int := if g.frm = to ∧ g.to = frm ∧ g.returns = 0 ∧ g.state = 2 then g.worth - metL gs g.id else 0
theorem debtR_eq {gs : List Gift} (h : GiftsOk gs) (frm to : Int) : (gs.map (debtR gs frm to)).sum = debtL gs frm to := by
  unfold debtL
  refine sum_congr fun x hx => ?_
  obtain ⟨i, hi, rfl⟩ := List.getElem_of_mem hx
  unfold debtR debtW debtB
  by_cases hc : gs[i].frm = to ∧ gs[i].to = frm ∧ gs[i].returns = 0 ∧ gs[i].state = 2
  · obtain ⟨c1, c2, c3, c4⟩ := hc
    rw [if_pos ⟨c1, c2, c3, c4⟩, if_pos ⟨by rw [decide_eq_true c3, decide_eq_true c4]; rfl, c1, c2⟩]
    have hm := h.marks i hi c3
    have : ¬ gs[i].worth ≤ metL gs gs[i].id := fun hh => by have := hm.2 ⟨.inl c4, hh⟩; omega
    omega
  · rw [if_neg hc, if_neg]
    rintro ⟨d1, d2, d3⟩
    simp only [Bool.and_eq_true, decide_eq_true_eq] at d1
    exact hc ⟨d2, d3, d1.1, d1.2⟩
theorem refers {es : List Entry} (h : Acc es) : ∀ x ∈ es, ((x.kind = 3 ∨ x.kind = 4) → ∃ k, k < (waivL es).length ∧ x.w.id = ((k + 1 : Nat) : Int)) ∧ ((x.kind = 5 ∨ x.kind = 6 ∨ x.kind = 7) → ∃ k, k < (giftL es).length ∧ x.g.id = ((k + 1 : Nat) : Int)) := by
  induction h with
  | nil => intro x hx; cases hx
  | @snoc es y sg hA hy ih =>
    have hg := (gifts_step hA hy).length
    have hw := (waivs_step hy).length
    intro x hx
    rcases List.mem_append.1 hx with hx | hx
    · obtain ⟨h1, h2⟩ := ih x hx
      exact ⟨fun hk => by obtain ⟨k, hk1, hk2⟩ := h1 hk; exact ⟨k, by omega, hk2⟩, fun hk => by obtain ⟨k, hk1, hk2⟩ := h2 hk; exact ⟨k, by omega, hk2⟩⟩
    · rw [List.mem_singleton.1 hx]
      obtain ⟨hf, hl, hr⟩ := do_zero hy
      obtain ⟨hok, _, _⟩ := form_okE hf
      constructor
      · rintro (k3 | k4)
        · unfold refusedE at hr
          rw [if_pos k3] at hr
          unfold grantedE at hr
          split at hr
          · cases hr
          split at hr
          · cases hr
          rename_i r2
          refine ⟨(waivL es).length, ?_, by have := Decidable.not_not.1 r2; omega⟩
          rw [waivL_snoc]
          unfold waivS
          rw [if_pos k3]; simp
        · unfold refusedE at hr
          rw [if_neg (by omega), if_pos k4] at hr
          have hid : 1 ≤ y.w.id := by
            unfold okE at hok
            rw [if_neg (by omega), if_neg (by omega), if_neg (by omega), if_pos k4, decide_eq_true_eq] at hok
            omega
          split at hr
          · cases hr
          obtain ⟨k, hk, he⟩ := num_of (n := (waivL es).length) (i := y.w.id) hid (by omega)
          exact ⟨k, by omega, he⟩
      · rintro (k5 | k67)
        · unfold refusedE at hr
          rw [if_neg (by omega), if_neg (by omega), if_pos k5] at hr
          unfold offeredE at hr
          split at hr
          · cases hr
          split at hr
          · cases hr
          rename_i r2
          refine ⟨(giftL es).length, ?_, by have := Decidable.not_not.1 r2; omega⟩
          rw [giftL_snoc]
          unfold giftS
          rw [meetS_length]
          unfold baseS
          rw [if_pos k5]; simp
        · unfold refusedE at hr
          rw [if_neg (by omega), if_neg (by omega), if_neg (by omega), if_pos k67] at hr
          have hid : 1 ≤ y.g.id := by
            unfold okE at hok
            rw [if_neg (by omega), if_neg (by omega), if_neg (by omega), if_neg (by omega), if_neg (by omega), if_pos k67, decide_eq_true_eq] at hok
            omega
          obtain ⟨k, hk, he, _⟩ := gift_answered (x := y) hid hr
          exact ⟨k, by omega, he⟩
theorem see_same {es : List Entry} (hA : Acc es) (state day : Int) : ∀ x ∈ asOfL es day, seeX (waivL es) (giftL es) state x = seeX (waivL (asOfL es day)) (giftL (asOfL es day)) state x := by
  intro x hx
  obtain ⟨n, hn⟩ := asOf_take (acc_ok hA).days day
  have hs : es = asOfL es day ++ es.drop n := by rw [hn, List.take_append_drop]
  have hA2 := acc_asOf hA day
  have hA3 := hA
  rw [hs] at hA3
  obtain ⟨hg, hw⟩ := later_gifts _ hA3
  rw [← hs] at hg hw
  obtain ⟨r1, r2⟩ := refers hA2 x hx
  have hk := ok_kind (form_okE ((acc_ok hA2).forms x hx)).1
  unfold seeX
  by_cases k12 : x.kind = 1 ∨ x.kind = 2
  · rw [if_pos k12, if_pos k12]
  · rw [if_neg k12, if_neg k12]
    by_cases k34 : x.kind = 3 ∨ x.kind = 4
    · rw [if_pos k34, if_pos k34]
      obtain ⟨k, hk1, hk2⟩ := r1 k34
      obtain ⟨hk', hl⟩ := hw.get k hk1
      rw [hk2, atN_get hk1, atN_get hk', hl.giver, hl.taker, hl.id]
    · rw [if_neg k34, if_neg k34]
      obtain ⟨k, hk1, hk2⟩ := r2 (by omega)
      obtain ⟨hk', hl⟩ := hg.get k hk1
      rw [hk2, atN_get hk1, atN_get hk', hl.frm, hl.to, hl.worth]
theorem sight_ref {es : List Entry} (hA : Acc es) (state day : Int) : es.filterMap (fun x => if x.day ≤ day then seeX (waivL es) (giftL es) state x else none) = sightsL (asOfL es day) state := by
  unfold sightsL
  have h1 : (asOfL es day).filterMap (seeX (waivL (asOfL es day)) (giftL (asOfL es day)) state) = (asOfL es day).filterMap (seeX (waivL es) (giftL es) state) :=
    filterMap_same fun x hx => (see_same hA state day x hx).symm
  rw [h1]
  unfold asOfL
  rw [List.filterMap_filter]
  refine filterMap_same fun x _ => ?_
  by_cases h : x.day ≤ day
  · simp [h]
  · simp [h]
/-- The errors of the reference's Do but for grants: with no facts. -/
def replayB (es : List Entry) (x : Entry) : Bool := if x.kind = 3 then formX x && !decide (x.day < lastDay es) && decide (x.w.id = (((grantsL es).length + 1 : Nat) : Int)) else decide (doE 0 es x = 0)
theorem replay_law {sg : Int} {es : List Entry} {x : Entry} (hA : Acc es) (hx : doE sg es x = 0) : replayB es x = true := by
  unfold replayB
  obtain ⟨hf, hl, hr⟩ := do_zero hx
  split
  · rename_i k3
    unfold refusedE at hr
    rw [if_pos k3] at hr
    unfold grantedE at hr
    split at hr
    · cases hr
    split at hr
    · cases hr
    rename_i r2
    have := (acc_ok hA).gids.1
    have r2 := Decidable.not_not.1 r2
    rw [hf, decide_eq_false (by omega), decide_eq_true (by omega)]
    rfl
  · rename_i k3
    refine decide_eq_true ?_
    have : refusedE 0 es x = refusedE sg es x := by
      unfold refusedE
      rw [if_neg k3, if_neg k3]
    unfold doE
    rw [if_neg (by rw [hf]; decide), if_neg (by omega), this]
    exact hr
end Go.Proofs.YtcnbpfecgokhiaaGreatDoor
namespace Go.Proofs.YtcnbpfecgokhiaaGreatDoor
open Go.Eng Go.RowKit
def cntV (s : Int) (l : List Gift) : Nat := (l.filter (sidesB s)).length
/-- The number that a gift has among those that a state sees: 0, if it sees none of it. -/
def idV (s : Int) (gl : List Gift) (n : Int) : Int := if 1 ≤ n ∧ n ≤ gl.length ∧ sidesB s (atN gl n) = true then ((cntV s (gl.take (n - 1).toNat) + 1 : Nat) : Int) else 0
def renG (s : Int) (gl : List Gift) (g : Gift) : Gift := { g with id := idV s gl g.id, returns := idV s gl g.returns }
def renL (s : Int) (gl : List Gift) : List Gift := (gl.filter (sidesB s)).map (renG s gl)
def Mir (gl : List Gift) : Prop := ∀ i (hi : i < gl.length), gl[i].returns ≠ 0 → ∃ k, ∃ hk : k < gl.length, gl[i].returns = ((k + 1 : Nat) : Int) ∧ ∀ s, sidesB s gl[k] = sidesB s gl[i]
def obsL (s : Int) (es : List Entry) : List (Int × Int × Int × Int × Int) := es.filterMap (seeX (waivL es) (giftL es) s)
structure RelV (s : Int) (L M : List Entry) : Prop where
  waiv : waivL M = waivL L
  due : dueL M = dueL L
  rate : ∀ c, rateL M c = rateL L c
  ceil : ∀ c, ceilL M c = ceilL L c
  last : lastDay M ≤ lastDay L
  gifts : giftL M = renL s (giftL L)
  obs : obsL s M = obsL s L
theorem RelV.nil (s : Int) : RelV s [] [] := ⟨rfl, rfl, fun _ => rfl, fun _ => rfl, Int.le_refl _, rfl, rfl⟩
theorem gift_plain {es : List Entry} {x : Entry} (h5 : x.kind ≠ 5) (h6 : x.kind ≠ 6) (h7 : x.kind ≠ 7) : giftL (es ++ [x]) = giftL es := by
  rw [giftL_snoc]
  unfold giftS meetS baseS
  rw [if_neg h6, if_neg h5, if_neg h6, if_neg h7]
end Go.Proofs.YtcnbpfecgokhiaaGreatDoor
namespace Go.Proofs.YtcnbpfecgokhiaaGreatDoor
open Go.Eng Go.RowKit
theorem Mir.set {gl : List Gift} (h : Mir gl) {k : Nat} (hk : k < gl.length) {y : Gift} (hr : y.returns = gl[k].returns) (hs : ∀ s, sidesB s y = sidesB s gl[k]) : Mir (gl.set k y) := by
  have side : ∀ s j (hj : j < gl.length), sidesB s ((gl.set k y)[j]'(by simpa using hj)) = sidesB s gl[j] := fun s j hj => by
    rw [List.getElem_set]
    split
    · rename_i e; subst e; exact hs s
    · rfl
  intro i hi hne
  have hi' : i < gl.length := by simpa using hi
  have e : (gl.set k y)[i].returns = gl[i].returns := by
    rw [List.getElem_set]
    split
    · rename_i e; subst e; exact hr
    · rfl
  rw [e] at hne ⊢
  obtain ⟨j, hj, h1, h2⟩ := h i hi' hne
  exact ⟨j, by simpa using hj, h1, fun s => by rw [side s j hj, side s i hi']; exact h2 s⟩
/-- What an answer leaves of the gifts. -/
theorem gift_take {es : List Entry} {x : Entry} (hk : x.kind = 6) {k : Nat} (hl : k < (giftL es).length) (hid : x.g.id = ((k + 1 : Nat) : Int)) :
    giftL (es ++ [x]) = (let gs := (giftL es).set k (takeG x.day (giftL es)[k]); let r := (giftL es)[k].returns; if r = 0 then gs else if (atN gs r).worth ≤ metL gs r then updAt gs r backG else gs) := by
  rw [giftL_snoc]
  unfold giftS meetS baseS
  simp only [hk, Int.reduceEq, if_true, if_false, hid]
  rw [updAt_eq hl]
  have hks : k < ((giftL es).set k (takeG x.day (giftL es)[k])).length := by simpa using hl
  have hat : atN ((giftL es).set k (takeG x.day (giftL es)[k])) ((k + 1 : Nat) : Int) = takeG x.day (giftL es)[k] := by rw [atN_get hks]; simp
  simp only [hat]
  rfl
theorem gift_refuse {es : List Entry} {x : Entry} (hk : x.kind = 7) {k : Nat} (hl : k < (giftL es).length) (hid : x.g.id = ((k + 1 : Nat) : Int)) :
    giftL (es ++ [x]) = (giftL es).set k (refuseG x.day (giftL es)[k]) := by
  rw [giftL_snoc]
  unfold giftS baseS meetS
  rw [if_neg (by omega), if_neg (by omega), if_pos hk, if_neg (by omega), hid, updAt_eq hl]
theorem ans_parts {sg : Int} {es : List Entry} {x : Entry} (hk : x.kind = 6 ∨ x.kind = 7) (hx : doE sg es x = 0) : ∃ k, ∃ hl : k < (giftL es).length, x.g.id = ((k + 1 : Nat) : Int) ∧ (giftL es)[k].state = 1 := by
  obtain ⟨hf, hl, hr⟩ := do_zero hx
  obtain ⟨hok, _, _⟩ := form_okE hf
  unfold refusedE at hr
  rw [if_neg (by omega), if_neg (by omega), if_neg (by omega), if_pos hk] at hr
  have hid : 1 ≤ x.g.id := by
    unfold okE at hok
    rw [if_neg (by omega), if_neg (by omega), if_neg (by omega), if_neg (by omega), if_neg (by omega), if_pos hk, decide_eq_true_eq] at hok
    omega
  exact gift_answered (x := x) hid hr
theorem offer_gift {sg : Int} {es : List Entry} {x : Entry} (hk : x.kind = 5) (hx : doE sg es x = 0) : giftL (es ++ [x]) = giftL es ++ [{ x.g with worth := x.g.n * rateL es x.g.cur, state := 1 }] ∧ x.g.id = (((giftL es).length + 1 : Nat) : Int) := by
  obtain ⟨hf, hl, hr⟩ := do_zero hx
  refine ⟨?_, ?_⟩
  · rw [giftL_snoc]
    unfold giftS baseS meetS
    rw [if_pos hk, if_neg (by omega)]
  · unfold refusedE at hr
    rw [if_neg (by omega), if_neg (by omega), if_pos hk] at hr
    unfold offeredE at hr
    split at hr
    · cases hr
    split at hr
    · cases hr
    rename_i r2
    have := Decidable.not_not.1 r2
    omega
end Go.Proofs.YtcnbpfecgokhiaaGreatDoor
namespace Go.Eng
open Go.RowKit
theorem Mem.swap {w0 w : World} {a b : Nat × Obj} (h : Mem w0 w [a, b]) : Mem w0 w [b, a] := by
  refine ⟨h.ext, fun g o hm => h.own g o (by simp at hm ⊢; exact hm.symm), ?_⟩
  have := h.nodup
  simp at this ⊢
  exact fun e => this e.symm
/-- A row of one's own grows: the blocks that 'D' names are others. -/
theorem Keep.grown {D : Nat → Prop} {a b c : World} {row : Option Nat} (h : Keep D a b) (hg : b.grownBy c row) (hne : ∀ k, row = some k → ¬ D k) : Keep D a c :=
  ⟨hg.os.trans h.os, hg.tape.trans h.tape, hg.output.trans h.output, Nat.le_trans h.size hg.size, fun k hD hk => (hg.block k (Nat.lt_of_lt_of_le hk h.size) (fun e => hne k e.symm hD)).trans (h.block k hD hk)⟩
theorem Keep.below {a b : World} (h : Ext a b) : Keep (fun q => q < a.heap.size) a b := ⟨h.os, h.tape, h.output, h.size, fun k _ hk => h.block k hk⟩
theorem splice_in {a e b vs : List Value} {c : Nat} (hc : c + vs.length ≤ e.length) : splice (a ++ (e ++ b)) (a.length + c) vs = a ++ (splice e c vs ++ b) := by
  unfold splice
  have h1 : (a ++ (e ++ b)).take (a.length + c) = a ++ e.take c := by
    rw [List.take_append, List.take_of_length_le (by omega), show a.length + c - a.length = c by omega, List.take_append_of_le_length (by omega)]
  have h2 : (a ++ (e ++ b)).drop (a.length + c + vs.length) = e.drop (c + vs.length) ++ b := by
    rw [List.drop_append, List.drop_eq_nil_of_le (by omega), show a.length + c + vs.length - a.length = c + vs.length by omega, List.drop_append_of_le_length (by omega), List.nil_append]
  rw [h1, h2]
  simp
/-- A part of one element of a row is written. -/
theorem flat_field {α : Type} {enc : α → List Value} {k : Nat} (hk : ∀ x, (enc x).length = k) {l : List α} {i : Nat} (hi : i < l.length) {y : α} {c : Nat} {vs : List Value} (h : splice (enc l[i]) c vs = enc y) (hc : c + vs.length ≤ k) :
    splice (l.flatMap enc) (i * k + c) vs = (l.set i y).flatMap enc := by
  have e1 : l.flatMap enc = (l.take i).flatMap enc ++ (enc l[i] ++ (l.drop (i + 1)).flatMap enc) := by
    conv => lhs; rw [← List.take_append_drop i l, List.drop_eq_getElem_cons hi]
    rw [List.flatMap_append, List.flatMap_cons]
  have hl : ((l.take i).flatMap enc).length = i * k := by
    have : ∀ m : List α, (m.flatMap enc).length = m.length * k := by
      intro m
      induction m with
      | nil => simp
      | cons x r ih => rw [List.flatMap_cons, List.length_append, hk, ih, List.length_cons, Nat.add_mul, Nat.one_mul, Nat.add_comm]
    rw [this, List.length_take, Nat.min_eq_left (Nat.le_of_lt hi)]
  have e2 : (l.set i y).flatMap enc = (l.take i).flatMap enc ++ (enc y ++ (l.drop (i + 1)).flatMap enc) := by
    rw [List.set_eq_take_append_cons_drop, if_pos hi, List.flatMap_append, List.flatMap_cons]
  rw [e1, e2, ← hl, splice_in (by rw [hk]; exact hc), h]
end Go.Eng
namespace Go.Eng
open Go.RowKit
open Go.Maps (Keyed)
/-- A map's block holds these pairs (in whatever order). -/
def MapL (P : Program) (k : Nat) (w : World) (b : Nat) (D : List (Value × Value)) : Prop :=
  ∃ es clk, w.heap[b]? = some (.map es clk) ∧ (∀ e ∈ es.toList, ∃ l, keyOf P k e.key = some l) ∧ (es.toList.map MapEntry.key).Nodup ∧ (∀ e ∈ es.toList, e.born < clk) ∧ (es.toList.map MapEntry.born).Nodup ∧
    (es.toList.map fun e => (e.key, e.val)).Perm D
theorem MapL.ext {P : Program} {k : Nat} {w w' : World} {b : Nat} {D : List (Value × Value)} (h : MapL P k w b D) (e : Ext w w') : MapL P k w' b D :=
  let ⟨es, clk, h1, h2⟩ := h
  ⟨es, clk, e.heap h1, h2⟩
theorem MapL.same {P : Program} {k : Nat} {w w' : World} {b : Nat} {D : List (Value × Value)} (h : MapL P k w b D) (e : w'.heap[b]? = w.heap[b]?) : MapL P k w' b D :=
  let ⟨es, clk, h1, h2⟩ := h
  ⟨es, clk, e.trans h1, h2⟩
theorem MapL.empty {P : Program} {k : Nat} {w : World} {b : Nat} (h : w.heap[b]? = some (.map #[] 0)) : MapL P k w b [] :=
  ⟨#[], 0, h, fun _ h => by simp at h, by simp, fun _ h => by simp at h, by simp, by simp⟩
theorem MapL.lt {P : Program} {k : Nat} {w : World} {b : Nat} {D : List (Value × Value)} (h : MapL P k w b D) : b < w.heap.size := by
  obtain ⟨es, clk, h1, _⟩ := h
  exact lt_of_heap h1
section
variable {C : Cfg}
theorem mapLGet (hC : C.Ok) {o : Oper} {t : Nat} {m ix : Operand} {l : Env} {w : World} {b k e : Nat} {x v : Value} {lx : Lit} {ti te : TI} {D : List (Value × Value)} {ok : Bool} (hkey : keyOf C.P k x = some lx) (hM : MapL C.P k w b D) (K : Keyed C.P k)
    (ho : o.op = .lookup t m ix true) (hm : evo l m = some (.map (some b))) (hx : evo l ix = some x) (hti : C.ti t = some ti) (hd : ti.d = .map k e) (hte : C.ti e = some te)
    (hv : (ok = true ∧ (x, v) ∈ D) ∨ (ok = false ∧ v = te.zero ∧ ∀ u, (x, u) ∉ D)) : QuietRun C o l w (.tuple #[v, .bool ok]) := by
  intro ρ hρ w' hw
  obtain ⟨es, clk, hb, hgood, hnd, _, _, hp⟩ := hM.ext hw
  have hu := (hC.ti hti).isMap hd
  unfold execOp
  rw [ho]
  have hchk : ∀ em, (Instr.checkKey em 10000 k x).run C.P w' = .ok () w' := fun em => K.check w' em hkey
  rcases K.find w' hkey es.toList hgood with ⟨h1, h2⟩ | ⟨j, e0, h1, h2, h3⟩
  · have hno : ∀ u, (x, u) ∉ D := fun u hu => by
      obtain ⟨e1, he1, e2⟩ := List.mem_map.1 (hp.mem_iff.2 hu)
      injection e2 with e2 _
      exact h2 e1 he1 e2
    rcases hv with ⟨_, hv⟩ | ⟨rfl, rfl, _⟩
    · exact absurd hv (hno v)
    · simp only [hρ _ _ hm, hρ _ _ hx]
      simp [Instr.lookup, run_underlying hu, MapKept.run_getObj_map hb, hchk, h1, (hC.ti hte).run_zero]
  · have hmem : (x, e0.val) ∈ D := hp.mem_iff.1 (List.mem_map.2 ⟨e0, List.mem_of_getElem? h2, by rw [h3]⟩)
    have huniq : ∀ u, (x, u) ∈ D → u = e0.val := fun u hu => by
      obtain ⟨e1, he1, e2⟩ := List.mem_map.1 (hp.mem_iff.2 hu)
      injection e2 with e2 e2'
      obtain ⟨i, hi⟩ := List.mem_iff_getElem?.1 he1
      have a1 : (es.toList.map MapEntry.key)[i]? = some x := by rw [List.getElem?_map, hi, ← e2]; rfl
      have a2 : (es.toList.map MapEntry.key)[j]? = some x := by rw [List.getElem?_map, h2, ← h3]; rfl
      have hlt : i < (es.toList.map MapEntry.key).length := (List.getElem?_eq_some_iff.1 a1).1
      have := (List.getElem?_inj hlt hnd).1 (a1.trans a2.symm)
      subst this
      rw [hi] at h2
      injection h2 with h2
      rw [← e2', h2]
    rcases hv with ⟨rfl, hv⟩ | ⟨_, _, hv⟩
    · have := huniq v hv
      subst this
      simp only [hρ _ _ hm, hρ _ _ hx]
      simp [Instr.lookup, run_underlying hu, MapKept.run_getObj_map hb, hchk, h1]
    · exact absurd hmem (hv _)
theorem mapLPut (hC : C.Ok) {o : Oper} {t : Nat} {m ix xv : Operand} {l : Env} {w : World} {b k e : Nat} {x v : Value} {lx : Lit} {ti : TI} {D : List (Value × Value)} (hkey : keyOf C.P k x = some lx) (hM : MapL C.P k w b D) (K : Keyed C.P k)
    (ho : o.op = .mapUpdate t m ix xv) (hm : evo l m = some (.map (some b))) (hx : evo l ix = some x) (hv : evo l xv = some v) (hti : C.ti t = some ti) (hd : ti.d = .map k e) (hno : ∀ u, (x, u) ∉ D)
    {Q : Value → World → Prop} (h : ∀ o' w', Put w b o' w' → MapL C.P k w' b (D ++ [(x, v)]) → Q undef w') : LoudRun C o l w Q := by
  intro ρ hρ w₁ hs
  obtain ⟨es, clk, hb, hgood, hnd, hborn, hbn, hp⟩ := hM
  have hb1 : w₁.heap[b]? = some (.map es clk) := by rw [hs.heap]; exact hb
  have hu := (hC.ti hti).isMap hd
  have hchk : ∀ em, (Instr.checkKey em 10000 k x).run C.P w₁ = .ok () w₁ := fun em => K.check w₁ em hkey
  rcases K.find w₁ hkey es.toList hgood with ⟨h1, h2⟩ | ⟨j, e0, h1, h2, h3⟩
  · refine ⟨undef, _, _, .inr ⟨?_, rfl⟩, h _ _ (put_setObj hs (o' := .map (es.push ⟨x, v, clk⟩) (clk + 1)) hb) ?_, Same.refl _⟩
    · unfold execOp
      rw [ho]
      simp [hρ _ _ hm, hρ _ _ hx, hρ _ _ hv, Instr.mapUpdate, run_underlying hu, MapKept.run_getObj_map hb1, hchk, h1, MapKept.run_setObj_map _ hb1]
    · refine ⟨_, _, (put_setObj hs hb).here, ?_, ?_, ?_, ?_, ?_⟩
      · intro e he
        simp only [Array.toList_push, List.mem_append, List.mem_singleton] at he
        rcases he with he | rfl
        · exact hgood e he
        · exact ⟨_, hkey⟩
      · rw [Array.toList_push, List.map_append, List.nodup_append]
        refine ⟨hnd, by simp, ?_⟩
        intro a ha c hc
        obtain ⟨e, he, rfl⟩ := List.mem_map.1 ha
        have hc : c = x := by simpa using hc
        subst hc
        exact h2 e he
      · intro e he
        simp only [Array.toList_push, List.mem_append, List.mem_singleton] at he
        rcases he with he | rfl
        · exact Nat.lt_succ_of_lt (hborn e he)
        · exact Nat.lt_succ_self _
      · rw [Array.toList_push, List.map_append, List.nodup_append]
        refine ⟨hbn, by simp, ?_⟩
        intro a ha c hc
        obtain ⟨e, he, rfl⟩ := List.mem_map.1 ha
        have hc : c = clk := by simpa using hc
        subst hc
        exact Nat.ne_of_lt (hborn e he)
      · rw [Array.toList_push, List.map_append]
        exact hp.append_right _
  · exact absurd (hp.mem_iff.1 (List.mem_map.2 ⟨e0, List.mem_of_getElem? h2, by rw [h3]⟩)) (hno e0.val)
open Classical in
/-- The pairs but that of a key. -/
noncomputable def dropK (x : Value) (D : List (Value × Value)) : List (Value × Value) := D.filter fun p => !decide (p.1 = x)
theorem eraseIdx_keys {l : List MapEntry} {j : Nat} {e0 : MapEntry} {x : Value} (hnd : (l.map MapEntry.key).Nodup) (h2 : l[j]? = some e0) (h3 : e0.key = x) : ((l.eraseIdx j).map fun e => (e.key, e.val)) = dropK x (l.map fun e => (e.key, e.val)) := by
  classical
  induction l generalizing j with
  | nil => simp at h2
  | cons a r ih =>
    rw [List.map_cons, List.nodup_cons] at hnd
    cases j with
    | zero =>
      simp at h2
      subst h2
      have hr : ∀ e ∈ r, e.key ≠ x := fun e he hk => hnd.1 (List.mem_map.2 ⟨e, he, by rw [hk, h3]⟩)
      unfold dropK
      rw [List.eraseIdx_cons_zero, List.map_cons, List.filter_cons, if_neg (by simp [h3])]
      symm
      rw [List.filter_eq_self]
      intro p hp
      obtain ⟨e, he, rfl⟩ := List.mem_map.1 hp
      simpa using hr e he
    | succ j =>
      have h2' : r[j]? = some e0 := by simpa using h2
      have hak : a.key ≠ x := fun hk => hnd.1 (List.mem_map.2 ⟨e0, List.mem_of_getElem? h2', by rw [h3, hk]⟩)
      have := ih hnd.2 h2'
      unfold dropK at this ⊢
      rw [List.eraseIdx_cons_succ, List.map_cons, List.map_cons, List.filter_cons, if_pos (by simpa using hak), this]
theorem mapLDel (hC : C.Ok) {o : Oper} {t kt : Nat} {m ix : Operand} {l : Env} {w : World} {b k e : Nat} {x : Value} {lx : Lit} {ti : TI} {D : List (Value × Value)} (hkey : keyOf C.P k x = some lx) (hM : MapL C.P k w b D) (K : Keyed C.P k)
    (ho : o.op = .call ⟨.builtin .delete, #[m, ix], #[t, kt]⟩) (hm : evo l m = some (.map (some b))) (hx : evo l ix = some x) (hti : C.ti t = some ti) (hd : ti.d = .map k e)
    {Q : Value → World → Prop} (h : ∀ o' w', Put w b o' w' → MapL C.P k w' b (dropK x D) → Q (.tuple #[]) w') : LoudRun C o l w Q := by
  classical
  intro ρ hρ w₁ hs
  obtain ⟨es, clk, hb, hgood, hnd, hborn, hbn, hp⟩ := hM
  have hb1 : w₁.heap[b]? = some (.map es clk) := by rw [hs.heap]; exact hb
  have hu := (hC.ti hti).isMap hd
  have hchk : ∀ em, (Instr.checkKey em 10000 k x).run C.P w₁ = .ok () w₁ := fun em => K.check w₁ em hkey
  have hfil : (dropK x (es.toList.map fun e => (e.key, e.val))).Perm (dropK x D) := hp.filter _
  rcases K.find w₁ hkey es.toList hgood with ⟨h1, h2⟩ | ⟨j, e0, h1, h2, h3⟩
  · refine ⟨.tuple #[], _, _, .inl ?_, h _ _ (put_setObj hs (o' := .map es clk) hb) ?_, Same.refl _⟩
    · unfold execOp
      rw [ho]
      simp [resolve, invoke, builtin, hρ _ _ hm, hρ _ _ hx, Builtin.delete_, run_underlying hu, MapKept.run_getObj_map hb1, hchk, h1, MapKept.run_setObj_map _ hb1]
    · refine ⟨_, _, (put_setObj hs hb).here, hgood, hnd, hborn, hbn, ?_⟩
      refine List.Perm.trans ?_ hfil
      have : dropK x (es.toList.map fun e => (e.key, e.val)) = es.toList.map fun e => (e.key, e.val) := by
        unfold dropK
        rw [List.filter_eq_self]
        intro p hp
        obtain ⟨e, he, rfl⟩ := List.mem_map.1 hp
        simpa using h2 e he
      rw [this]
  · have hjl : j < es.toList.length := (List.getElem?_eq_some_iff.1 h2).1
    have hel : (es.eraseIdxIfInBounds j).toList = es.toList.eraseIdx j := by
      unfold Array.eraseIdxIfInBounds
      rw [dif_pos (by simpa using hjl)]
      simp
    have hsub : (es.eraseIdxIfInBounds j).toList.Sublist es.toList := by rw [hel]; exact List.eraseIdx_sublist _ _
    refine ⟨.tuple #[], _, _, .inl ?_, h _ _ (put_setObj hs (o' := .map (es.eraseIdxIfInBounds j) clk) hb) ?_, Same.refl _⟩
    · unfold execOp
      rw [ho]
      simp [resolve, invoke, builtin, hρ _ _ hm, hρ _ _ hx, Builtin.delete_, run_underlying hu, MapKept.run_getObj_map hb1, hchk, h1, MapKept.run_setObj_map _ hb1]
    · refine ⟨_, _, (put_setObj hs hb).here, fun e he => hgood e (hsub.subset he), (hsub.map _).nodup hnd, fun e he => hborn e (hsub.subset he), (hsub.map _).nodup hbn, ?_⟩
      rw [hel, eraseIdx_keys hnd h2 h3]
      exact hfil
/-- A walk over a map: 'D' are the pairs that are still to come. -/
def Walks (w : World) (b r : Nat) (D : List (Value × Value)) : Prop :=
  ∃ es clk since seen c0, w.heap[b]? = some (.map es clk) ∧ w.heap[r]? = some (.mapIter (some b) since seen c0) ∧ (∀ e ∈ es.toList, e.born < since) ∧ (es.toList.map MapEntry.born).Nodup ∧ since ≤ c0 ∧ since ≤ clk ∧
    (((es.toList.filter fun e => !seen.contains e.born).map fun e => (e.key, e.val))).Perm D
theorem Walks.keep {w w' : World} {b r : Nat} {D : List (Value × Value)} (h : Walks w b r D) (hb : w'.heap[b]? = w.heap[b]?) (hr : w'.heap[r]? = w.heap[r]?) : Walks w' b r D := by
  obtain ⟨es, clk, since, seen, c0, h1, h2, h3⟩ := h
  exact ⟨es, clk, since, seen, c0, hb.trans h1, hr.trans h2, h3⟩
theorem Walks.lt {w : World} {b r : Nat} {D : List (Value × Value)} (h : Walks w b r D) : b < w.heap.size ∧ r < w.heap.size := by
  obtain ⟨es, clk, since, seen, c0, h1, h2, h3⟩ := h
  exact ⟨lt_of_heap h1, lt_of_heap h2⟩
theorem walkStart (hC : C.Ok) {o : Oper} {t : Nat} {m : Operand} {l : Env} {w : World} {b k e : Nat} {ti : TI} {D : List (Value × Value)} (hM : MapL C.P k w b D)
    (ho : o.op = .range t m) (hm : evo l m = some (.map (some b))) (hti : C.ti t = some ti) (hd : ti.d = .map k e)
    {Q : Value → World → Prop} (h : ∀ r w', Ext w w' → w.heap.size ≤ r → Walks w' b r D → Q (.pointer (some ⟨r, 0, none⟩)) w') : LoudRun C o l w Q := by
  intro ρ hρ w₁ hs
  obtain ⟨es, clk, hb, hgood, hnd, hborn, hbn, hp⟩ := hM
  have hb1 : w₁.heap[b]? = some (.map es clk) := by rw [hs.heap]; exact hb
  have hu := (hC.ti hti).isMap hd
  have hlt : b < w₁.heap.size := lt_of_heap hb1
  have ha : Alloc w w.heap.size (.mapIter (some b) clk #[] clk) (w₁.alloc (.mapIter (some b) clk #[] clk)) := Alloc.of_same hs _
  refine ⟨.pointer (some ⟨w₁.heap.size, 0, none⟩), w₁.alloc (.mapIter (some b) clk #[] clk), _, .inl ?_, h _ _ ha.ext (by rw [hs.heap]; exact Nat.le_refl _) ?_, Same.refl _⟩
  · unfold execOp
    rw [ho]
    simp only [hρ _ _ hm]
    have := run_range_map w₁ t k e b es clk hu hb1
    simp [this]
  · refine ⟨es, clk, clk, #[], clk, ha.ext.heap hb, ?_, hborn, hbn, Nat.le_refl _, Nat.le_refl _, ?_⟩
    · rw [hs.heap]; exact ha.here
    · have : (es.toList.filter fun e => !(#[] : Array Nat).contains e.born) = es.toList := by rw [List.filter_eq_self]; simp
      rw [this]; exact hp
theorem left_toList (es : Array MapEntry) (seen : Array Nat) : (leftOf es seen).toList = es.toList.filter fun e => !seen.contains e.born := by
  unfold leftOf
  simp
theorem pick_perm (seen : Array Nat) {e : MapEntry} : ∀ {L : List MapEntry}, (L.map MapEntry.born).Nodup → e ∈ L → seen.contains e.born = false → (L.filter fun x => !seen.contains x.born).Perm (e :: L.filter fun x => !(seen.push e.born).contains x.born)
  | [], _, h, _ => by cases h
  | a :: r, hnd, hm, hs => by
    rw [List.map_cons, List.nodup_cons] at hnd
    have key : ∀ x : MapEntry, x.born ≠ e.born → (!(seen.push e.born).contains x.born) = !seen.contains x.born := fun x hx => by simp [hx]
    rcases List.mem_cons.1 hm with rfl | hm
    · have hr : (r.filter fun x => !(seen.push e.born).contains x.born) = r.filter fun x => !seen.contains x.born :=
        List.filter_congr fun x hx => key x fun hh => hnd.1 (List.mem_map.2 ⟨x, hx, hh⟩)
      rw [List.filter_cons, if_pos (by rw [hs]; rfl), List.filter_cons, if_neg (by simp), hr]
    · have hae : a.born ≠ e.born := fun hh => hnd.1 (List.mem_map.2 ⟨e, hm, hh.symm⟩)
      have ih := pick_perm seen hnd.2 hm hs
      rw [List.filter_cons, List.filter_cons, key a hae]
      split
      · exact (List.Perm.cons a ih).trans (List.Perm.swap e a _)
      · exact ih
end
end Go.Eng
namespace Go.Proofs.YtcnbpfecgokhiaaGreatDoor
open Go.Eng Go.RowKit
theorem part_agg {t : Nat} {ti : TI} (ht : C.ti t = some ti) (ha : ti.d.agg = true) (i : Nat) (cs : Array Value) (w : World) : (part t cs i).run C.P w = .ok (.agg (cs.extract i (i + ti.size))) w := by
  have h1 := (C_ok.ti ht).run_agg
  have h2 := (C_ok.ti ht).run_size
  simp [part, h1, h2, ha]
theorem Waiv.len (x : Waiv) : x.cells.length = 9 := rfl
theorem fieldsW : Tryz.prog.fieldsOf 35 = #[⟨ "Id", 3, 0, false, "", "", 0⟩, ⟨ "Day", 3, 1, false, "", "", 8⟩, ⟨ "Signer", 3, 2, false, "", "", 16⟩, ⟨ "Giver", 3, 3, false, "", "", 24⟩, ⟨ "Taker", 3, 4, false, "", "", 32⟩, ⟨ "Under", 3, 5, false, "", "", 40⟩, ⟨ "Over", 3, 6, false, "", "", 48⟩, ⟨ "Since", 3, 7, false, "", "", 56⟩, ⟨ "Until", 3, 8, false, "", "", 64⟩] := by kernel_rfl
theorem underW : Tryz.prog.underlying 35 = some (.struct #[⟨ "Id", 3, 0, false, "", "", 0⟩, ⟨ "Day", 3, 1, false, "", "", 8⟩, ⟨ "Signer", 3, 2, false, "", "", 16⟩, ⟨ "Giver", 3, 3, false, "", "", 24⟩, ⟨ "Taker", 3, 4, false, "", "", 32⟩, ⟨ "Under", 3, 5, false, "", "", 40⟩, ⟨ "Over", 3, 6, false, "", "", 48⟩, ⟨ "Since", 3, 7, false, "", "", 56⟩, ⟨ "Until", 3, 8, false, "", "", 64⟩]) := by kernel_rfl
def sameW (p q : Waiv) (o : Nat) : Bool := match o with
  | 0 => decide (p.id = q.id)
  | 1 => decide (p.day = q.day)
  | 2 => decide (p.signer = q.signer)
  | 3 => decide (p.giver = q.giver)
  | 4 => decide (p.taker = q.taker)
  | 5 => decide (p.under = q.under)
  | 6 => decide (p.over = q.over)
  | 7 => decide (p.since = q.since)
  | _ => decide (p.til = q.til)
set_option maxRecDepth 10000 in
theorem eqInW (d : Nat) (p q : Waiv) (w : World) : (Op.equalIn (d + 2) 35 p.val q.val).run C.P w = .ok (decide (p = q)) w := by
  have hs : C.P.stoodInHeld 35 = false := by kernel_rfl
  have hu : C.P.underlying 35 = some (.struct (C.P.fieldsOf 35)) := by show Tryz.prog.underlying _ = some (.struct (Tryz.prog.fieldsOf _)); rw [fieldsW]; exact underW
  have h3 : C.P.underlying 3 = some (.int .i64) := under3
  have h5 : C.P.underlying 5 = some (.int .u8) := under5
  have p3 := part_plain (t := 3) (ti := ty3) rfl rfl
  have p5 := part_plain (t := 5) (ti := ty5) rfl rfl
  rw [Waiv.val, Waiv.val, run_equalIn_struct w (d + 1) 35 _ _ hu hs]
  show ((Op.eqFields (d + 1) _ _ (Tryz.prog.fieldsOf 35).toList).run C.P w) = _
  rw [fieldsW]
  rw [eqFields_run (f := fun x => sameW p q x.offset)]
  · obtain ⟨a0, a1, a2, a3, a4, a5, a6, a7, a8⟩ := p
    obtain ⟨b0, b1, b2, b3, b4, b5, b6, b7, b8⟩ := q
    congr 1
    rw [Bool.eq_iff_iff]
    simp [sameW]
  · intro f hf
    simp only [List.mem_cons, List.not_mem_nil, or_false] at hf
    rcases hf with rfl | rfl | rfl | rfl | rfl | rfl | rfl | rfl | rfl
    · exact ⟨by decide, _, _, p3 0 _ (.int .i64 p.id) w rfl, p3 0 _ (.int .i64 q.id) w rfl, eqInt_run h3 w (d) .i64 p.id q.id⟩
    · exact ⟨by decide, _, _, p3 1 _ (.int .i64 p.day) w rfl, p3 1 _ (.int .i64 q.day) w rfl, eqInt_run h3 w (d) .i64 p.day q.day⟩
    · exact ⟨by decide, _, _, p3 2 _ (.int .i64 p.signer) w rfl, p3 2 _ (.int .i64 q.signer) w rfl, eqInt_run h3 w (d) .i64 p.signer q.signer⟩
    · exact ⟨by decide, _, _, p3 3 _ (.int .i64 p.giver) w rfl, p3 3 _ (.int .i64 q.giver) w rfl, eqInt_run h3 w (d) .i64 p.giver q.giver⟩
    · exact ⟨by decide, _, _, p3 4 _ (.int .i64 p.taker) w rfl, p3 4 _ (.int .i64 q.taker) w rfl, eqInt_run h3 w (d) .i64 p.taker q.taker⟩
    · exact ⟨by decide, _, _, p3 5 _ (.int .i64 p.under) w rfl, p3 5 _ (.int .i64 q.under) w rfl, eqInt_run h3 w (d) .i64 p.under q.under⟩
    · exact ⟨by decide, _, _, p3 6 _ (.int .i64 p.over) w rfl, p3 6 _ (.int .i64 q.over) w rfl, eqInt_run h3 w (d) .i64 p.over q.over⟩
    · exact ⟨by decide, _, _, p3 7 _ (.int .i64 p.since) w rfl, p3 7 _ (.int .i64 q.since) w rfl, eqInt_run h3 w (d) .i64 p.since q.since⟩
    · exact ⟨by decide, _, _, p3 8 _ (.int .i64 p.til) w rfl, p3 8 _ (.int .i64 q.til) w rfl, eqInt_run h3 w (d) .i64 p.til q.til⟩
theorem neqW (x y : Operand) (p q : Waiv) : EqIs C.P .neq 35 x y p.val q.val (!decide (p = q)) := by
  intro w
  have hm : C.P.eqGuardType C.P.depth 35 = false := by kernel_rfl
  rw [Sem.run_bind, Waiv.val, Waiv.val, run_eqGuard_agg w .neq 35 x y _ _ hm]
  simp only [Result.andThen_ok]
  rw [run_neq_struct]
  have := eqInW 9998 p q w
  rw [Waiv.val, Waiv.val] at this
  rw [this]
  rfl
theorem Gift.len (x : Gift) : x.cells.length = 10 := rfl
theorem fieldsG : Tryz.prog.fieldsOf 37 = #[⟨ "Id", 3, 0, false, "", "", 0⟩, ⟨ "Day", 3, 1, false, "", "", 8⟩, ⟨ "From", 3, 2, false, "", "", 16⟩, ⟨ "To", 3, 3, false, "", "", 24⟩, ⟨ "Currency", 5, 4, false, "", "", 32⟩, ⟨ "N", 3, 5, false, "", "", 40⟩, ⟨ "Worth", 3, 6, false, "", "", 48⟩, ⟨ "State", 5, 7, false, "", "", 56⟩, ⟨ "Answered", 3, 8, false, "", "", 64⟩, ⟨ "Returns", 3, 9, false, "", "", 72⟩] := by kernel_rfl
theorem underG : Tryz.prog.underlying 37 = some (.struct #[⟨ "Id", 3, 0, false, "", "", 0⟩, ⟨ "Day", 3, 1, false, "", "", 8⟩, ⟨ "From", 3, 2, false, "", "", 16⟩, ⟨ "To", 3, 3, false, "", "", 24⟩, ⟨ "Currency", 5, 4, false, "", "", 32⟩, ⟨ "N", 3, 5, false, "", "", 40⟩, ⟨ "Worth", 3, 6, false, "", "", 48⟩, ⟨ "State", 5, 7, false, "", "", 56⟩, ⟨ "Answered", 3, 8, false, "", "", 64⟩, ⟨ "Returns", 3, 9, false, "", "", 72⟩]) := by kernel_rfl
def sameG (p q : Gift) (o : Nat) : Bool := match o with
  | 0 => decide (p.id = q.id)
  | 1 => decide (p.day = q.day)
  | 2 => decide (p.frm = q.frm)
  | 3 => decide (p.to = q.to)
  | 4 => decide (p.cur = q.cur)
  | 5 => decide (p.n = q.n)
  | 6 => decide (p.worth = q.worth)
  | 7 => decide (p.state = q.state)
  | 8 => decide (p.answered = q.answered)
  | _ => decide (p.returns = q.returns)
set_option maxRecDepth 10000 in
theorem eqInG (d : Nat) (p q : Gift) (w : World) : (Op.equalIn (d + 2) 37 p.val q.val).run C.P w = .ok (decide (p = q)) w := by
  have hs : C.P.stoodInHeld 37 = false := by kernel_rfl
  have hu : C.P.underlying 37 = some (.struct (C.P.fieldsOf 37)) := by show Tryz.prog.underlying _ = some (.struct (Tryz.prog.fieldsOf _)); rw [fieldsG]; exact underG
  have h3 : C.P.underlying 3 = some (.int .i64) := under3
  have h5 : C.P.underlying 5 = some (.int .u8) := under5
  have p3 := part_plain (t := 3) (ti := ty3) rfl rfl
  have p5 := part_plain (t := 5) (ti := ty5) rfl rfl
  rw [Gift.val, Gift.val, run_equalIn_struct w (d + 1) 37 _ _ hu hs]
  show ((Op.eqFields (d + 1) _ _ (Tryz.prog.fieldsOf 37).toList).run C.P w) = _
  rw [fieldsG]
  rw [eqFields_run (f := fun x => sameG p q x.offset)]
  · obtain ⟨a0, a1, a2, a3, a4, a5, a6, a7, a8, a9⟩ := p
    obtain ⟨b0, b1, b2, b3, b4, b5, b6, b7, b8, b9⟩ := q
    congr 1
    rw [Bool.eq_iff_iff]
    simp [sameG]
  · intro f hf
    simp only [List.mem_cons, List.not_mem_nil, or_false] at hf
    rcases hf with rfl | rfl | rfl | rfl | rfl | rfl | rfl | rfl | rfl | rfl
    · exact ⟨by decide, _, _, p3 0 _ (.int .i64 p.id) w rfl, p3 0 _ (.int .i64 q.id) w rfl, eqInt_run h3 w (d) .i64 p.id q.id⟩
    · exact ⟨by decide, _, _, p3 1 _ (.int .i64 p.day) w rfl, p3 1 _ (.int .i64 q.day) w rfl, eqInt_run h3 w (d) .i64 p.day q.day⟩
    · exact ⟨by decide, _, _, p3 2 _ (.int .i64 p.frm) w rfl, p3 2 _ (.int .i64 q.frm) w rfl, eqInt_run h3 w (d) .i64 p.frm q.frm⟩
    · exact ⟨by decide, _, _, p3 3 _ (.int .i64 p.to) w rfl, p3 3 _ (.int .i64 q.to) w rfl, eqInt_run h3 w (d) .i64 p.to q.to⟩
    · exact ⟨by decide, _, _, p5 4 _ (.int .u8 p.cur) w rfl, p5 4 _ (.int .u8 q.cur) w rfl, eqInt_run h5 w (d) .u8 p.cur q.cur⟩
    · exact ⟨by decide, _, _, p3 5 _ (.int .i64 p.n) w rfl, p3 5 _ (.int .i64 q.n) w rfl, eqInt_run h3 w (d) .i64 p.n q.n⟩
    · exact ⟨by decide, _, _, p3 6 _ (.int .i64 p.worth) w rfl, p3 6 _ (.int .i64 q.worth) w rfl, eqInt_run h3 w (d) .i64 p.worth q.worth⟩
    · exact ⟨by decide, _, _, p5 7 _ (.int .u8 p.state) w rfl, p5 7 _ (.int .u8 q.state) w rfl, eqInt_run h5 w (d) .u8 p.state q.state⟩
    · exact ⟨by decide, _, _, p3 8 _ (.int .i64 p.answered) w rfl, p3 8 _ (.int .i64 q.answered) w rfl, eqInt_run h3 w (d) .i64 p.answered q.answered⟩
    · exact ⟨by decide, _, _, p3 9 _ (.int .i64 p.returns) w rfl, p3 9 _ (.int .i64 q.returns) w rfl, eqInt_run h3 w (d) .i64 p.returns q.returns⟩
theorem neqG (x y : Operand) (p q : Gift) : EqIs C.P .neq 37 x y p.val q.val (!decide (p = q)) := by
  intro w
  have hm : C.P.eqGuardType C.P.depth 37 = false := by kernel_rfl
  rw [Sem.run_bind, Gift.val, Gift.val, run_eqGuard_agg w .neq 37 x y _ _ hm]
  simp only [Result.andThen_ok]
  rw [run_neq_struct]
  have := eqInG 9998 p q w
  rw [Gift.val, Gift.val] at this
  rw [this]
  rfl
theorem Entry.len (x : Entry) : x.cells.length = 24 := rfl
theorem fieldsE : Tryz.prog.fieldsOf 39 = #[⟨ "Kind", 5, 0, false, "", "", 0⟩, ⟨ "Day", 3, 1, false, "", "", 8⟩, ⟨ "Waiver", 35, 2, false, "", "", 16⟩, ⟨ "Gift", 37, 11, false, "", "", 88⟩, ⟨ "A", 3, 21, false, "", "", 168⟩, ⟨ "B", 3, 22, false, "", "", 176⟩, ⟨ "N", 3, 23, false, "", "", 184⟩] := by kernel_rfl
theorem underE : Tryz.prog.underlying 39 = some (.struct #[⟨ "Kind", 5, 0, false, "", "", 0⟩, ⟨ "Day", 3, 1, false, "", "", 8⟩, ⟨ "Waiver", 35, 2, false, "", "", 16⟩, ⟨ "Gift", 37, 11, false, "", "", 88⟩, ⟨ "A", 3, 21, false, "", "", 168⟩, ⟨ "B", 3, 22, false, "", "", 176⟩, ⟨ "N", 3, 23, false, "", "", 184⟩]) := by kernel_rfl
def sameE (p q : Entry) (o : Nat) : Bool := match o with
  | 0 => decide (p.kind = q.kind)
  | 1 => decide (p.day = q.day)
  | 2 => decide (p.w = q.w)
  | 11 => decide (p.g = q.g)
  | 21 => decide (p.a = q.a)
  | 22 => decide (p.b = q.b)
  | _ => decide (p.n = q.n)
set_option maxRecDepth 10000 in
theorem eqInE (d : Nat) (p q : Entry) (w : World) : (Op.equalIn (d + 3) 39 p.val q.val).run C.P w = .ok (decide (p = q)) w := by
  have hs : C.P.stoodInHeld 39 = false := by kernel_rfl
  have hu : C.P.underlying 39 = some (.struct (C.P.fieldsOf 39)) := by show Tryz.prog.underlying _ = some (.struct (Tryz.prog.fieldsOf _)); rw [fieldsE]; exact underE
  have h3 : C.P.underlying 3 = some (.int .i64) := under3
  have h5 : C.P.underlying 5 = some (.int .u8) := under5
  have p3 := part_plain (t := 3) (ti := ty3) rfl rfl
  have p5 := part_plain (t := 5) (ti := ty5) rfl rfl
  rw [Entry.val, Entry.val, run_equalIn_struct w (d + 2) 39 _ _ hu hs]
  show ((Op.eqFields (d + 2) _ _ (Tryz.prog.fieldsOf 39).toList).run C.P w) = _
  rw [fieldsE]
  rw [eqFields_run (f := fun x => sameE p q x.offset)]
  · obtain ⟨a0, a1, a2, a3, a4, a5, a6⟩ := p
    obtain ⟨b0, b1, b2, b3, b4, b5, b6⟩ := q
    congr 1
    rw [Bool.eq_iff_iff]
    simp [sameE]
  · intro f hf
    simp only [List.mem_cons, List.not_mem_nil, or_false] at hf
    rcases hf with rfl | rfl | rfl | rfl | rfl | rfl | rfl
    · exact ⟨by decide, _, _, p5 0 _ (.int .u8 p.kind) w rfl, p5 0 _ (.int .u8 q.kind) w rfl, eqInt_run h5 w (d + 1) .u8 p.kind q.kind⟩
    · exact ⟨by decide, _, _, p3 1 _ (.int .i64 p.day) w rfl, p3 1 _ (.int .i64 q.day) w rfl, eqInt_run h3 w (d + 1) .i64 p.day q.day⟩
    · exact ⟨by decide, p.w.val, q.w.val, part_agg (ti := ty35) rfl rfl 2 _ w, part_agg (ti := ty35) rfl rfl 2 _ w, eqInW d p.w q.w w⟩
    · exact ⟨by decide, p.g.val, q.g.val, part_agg (ti := ty37) rfl rfl 11 _ w, part_agg (ti := ty37) rfl rfl 11 _ w, eqInG d p.g q.g w⟩
    · exact ⟨by decide, _, _, p3 21 _ (.int .i64 p.a) w rfl, p3 21 _ (.int .i64 q.a) w rfl, eqInt_run h3 w (d + 1) .i64 p.a q.a⟩
    · exact ⟨by decide, _, _, p3 22 _ (.int .i64 p.b) w rfl, p3 22 _ (.int .i64 q.b) w rfl, eqInt_run h3 w (d + 1) .i64 p.b q.b⟩
    · exact ⟨by decide, _, _, p3 23 _ (.int .i64 p.n) w rfl, p3 23 _ (.int .i64 q.n) w rfl, eqInt_run h3 w (d + 1) .i64 p.n q.n⟩
theorem eqE (x y : Operand) (p q : Entry) : EqIs C.P .eql 39 x y p.val q.val (decide (p = q)) := by
  intro w
  have hm : C.P.eqGuardType C.P.depth 39 = false := by kernel_rfl
  rw [Sem.run_bind, Entry.val, Entry.val, run_eqGuard_agg w .eql 39 x y _ _ hm]
  simp only [Result.andThen_ok]
  rw [run_eql_struct]
  have := eqInE 9997 p q w
  rw [Entry.val, Entry.val] at this
  rw [this]
  rfl
theorem Due.len (x : Due) : x.cells.length = 3 := rfl
theorem fieldsD : Tryz.prog.fieldsOf 74 = #[⟨ "Creditor", 3, 0, false, "", "", 0⟩, ⟨ "Debtor", 3, 1, false, "", "", 8⟩, ⟨ "Waiver", 3, 2, false, "", "", 16⟩] := by kernel_rfl
theorem underD : Tryz.prog.underlying 74 = some (.struct #[⟨ "Creditor", 3, 0, false, "", "", 0⟩, ⟨ "Debtor", 3, 1, false, "", "", 8⟩, ⟨ "Waiver", 3, 2, false, "", "", 16⟩]) := by kernel_rfl
def sameD (p q : Due) (o : Nat) : Bool := match o with
  | 0 => decide (p.cred = q.cred)
  | 1 => decide (p.debt = q.debt)
  | _ => decide (p.waiver = q.waiver)
set_option maxRecDepth 10000 in
theorem eqInD (d : Nat) (p q : Due) (w : World) : (Op.equalIn (d + 2) 74 p.val q.val).run C.P w = .ok (decide (p = q)) w := by
  have hs : C.P.stoodInHeld 74 = false := by kernel_rfl
  have hu : C.P.underlying 74 = some (.struct (C.P.fieldsOf 74)) := by show Tryz.prog.underlying _ = some (.struct (Tryz.prog.fieldsOf _)); rw [fieldsD]; exact underD
  have h3 : C.P.underlying 3 = some (.int .i64) := under3
  have h5 : C.P.underlying 5 = some (.int .u8) := under5
  have p3 := part_plain (t := 3) (ti := ty3) rfl rfl
  have p5 := part_plain (t := 5) (ti := ty5) rfl rfl
  rw [Due.val, Due.val, run_equalIn_struct w (d + 1) 74 _ _ hu hs]
  show ((Op.eqFields (d + 1) _ _ (Tryz.prog.fieldsOf 74).toList).run C.P w) = _
  rw [fieldsD]
  rw [eqFields_run (f := fun x => sameD p q x.offset)]
  · obtain ⟨a0, a1, a2⟩ := p
    obtain ⟨b0, b1, b2⟩ := q
    congr 1
    rw [Bool.eq_iff_iff]
    simp [sameD]
  · intro f hf
    simp only [List.mem_cons, List.not_mem_nil, or_false] at hf
    rcases hf with rfl | rfl | rfl
    · exact ⟨by decide, _, _, p3 0 _ (.int .i64 p.cred) w rfl, p3 0 _ (.int .i64 q.cred) w rfl, eqInt_run h3 w (d) .i64 p.cred q.cred⟩
    · exact ⟨by decide, _, _, p3 1 _ (.int .i64 p.debt) w rfl, p3 1 _ (.int .i64 q.debt) w rfl, eqInt_run h3 w (d) .i64 p.debt q.debt⟩
    · exact ⟨by decide, _, _, p3 2 _ (.int .i64 p.waiver) w rfl, p3 2 _ (.int .i64 q.waiver) w rfl, eqInt_run h3 w (d) .i64 p.waiver q.waiver⟩
theorem neqD (x y : Operand) (p q : Due) : EqIs C.P .neq 74 x y p.val q.val (!decide (p = q)) := by
  intro w
  have hm : C.P.eqGuardType C.P.depth 74 = false := by kernel_rfl
  rw [Sem.run_bind, Due.val, Due.val, run_eqGuard_agg w .neq 74 x y _ _ hm]
  simp only [Result.andThen_ok]
  rw [run_neq_struct]
  have := eqInD 9998 p q w
  rw [Due.val, Due.val] at this
  rw [this]
  rfl
theorem IPair.len (x : IPair) : x.cells.length = 2 := rfl
theorem fieldsP : Tryz.prog.fieldsOf 67 = #[⟨ "A", 3, 0, false, "", "", 0⟩, ⟨ "B", 3, 1, false, "", "", 8⟩] := by kernel_rfl
theorem underP : Tryz.prog.underlying 67 = some (.struct #[⟨ "A", 3, 0, false, "", "", 0⟩, ⟨ "B", 3, 1, false, "", "", 8⟩]) := by kernel_rfl
def sameP (p q : IPair) (o : Nat) : Bool := match o with
  | 0 => decide (p.a = q.a)
  | _ => decide (p.b = q.b)
set_option maxRecDepth 10000 in
theorem eqInP (d : Nat) (p q : IPair) (w : World) : (Op.equalIn (d + 2) 67 p.val q.val).run C.P w = .ok (decide (p = q)) w := by
  have hs : C.P.stoodInHeld 67 = false := by kernel_rfl
  have hu : C.P.underlying 67 = some (.struct (C.P.fieldsOf 67)) := by show Tryz.prog.underlying _ = some (.struct (Tryz.prog.fieldsOf _)); rw [fieldsP]; exact underP
  have h3 : C.P.underlying 3 = some (.int .i64) := under3
  have h5 : C.P.underlying 5 = some (.int .u8) := under5
  have p3 := part_plain (t := 3) (ti := ty3) rfl rfl
  have p5 := part_plain (t := 5) (ti := ty5) rfl rfl
  rw [IPair.val, IPair.val, run_equalIn_struct w (d + 1) 67 _ _ hu hs]
  show ((Op.eqFields (d + 1) _ _ (Tryz.prog.fieldsOf 67).toList).run C.P w) = _
  rw [fieldsP]
  rw [eqFields_run (f := fun x => sameP p q x.offset)]
  · obtain ⟨a0, a1⟩ := p
    obtain ⟨b0, b1⟩ := q
    congr 1
    rw [Bool.eq_iff_iff]
    simp [sameP]
  · intro f hf
    simp only [List.mem_cons, List.not_mem_nil, or_false] at hf
    rcases hf with rfl | rfl
    · exact ⟨by decide, _, _, p3 0 _ (.int .i64 p.a) w rfl, p3 0 _ (.int .i64 q.a) w rfl, eqInt_run h3 w (d) .i64 p.a q.a⟩
    · exact ⟨by decide, _, _, p3 1 _ (.int .i64 p.b) w rfl, p3 1 _ (.int .i64 q.b) w rfl, eqInt_run h3 w (d) .i64 p.b q.b⟩
theorem neqP (x y : Operand) (p q : IPair) : EqIs C.P .neq 67 x y p.val q.val (!decide (p = q)) := by
  intro w
  have hm : C.P.eqGuardType C.P.depth 67 = false := by kernel_rfl
  rw [Sem.run_bind, IPair.val, IPair.val, run_eqGuard_agg w .neq 67 x y _ _ hm]
  simp only [Result.andThen_ok]
  rw [run_neq_struct]
  have := eqInP 9998 p q w
  rw [IPair.val, IPair.val] at this
  rw [this]
  rfl
theorem Sight.len (x : Sight) : x.cells.length = 6 := rfl
theorem fieldsS : Tryz.prog.fieldsOf 142 = #[⟨ "Entry", 3, 0, false, "", "", 0⟩, ⟨ "Kind", 5, 1, false, "", "", 8⟩, ⟨ "Day", 3, 2, false, "", "", 16⟩, ⟨ "A", 3, 3, false, "", "", 24⟩, ⟨ "B", 3, 4, false, "", "", 32⟩, ⟨ "N", 3, 5, false, "", "", 40⟩] := by kernel_rfl
theorem underS : Tryz.prog.underlying 142 = some (.struct #[⟨ "Entry", 3, 0, false, "", "", 0⟩, ⟨ "Kind", 5, 1, false, "", "", 8⟩, ⟨ "Day", 3, 2, false, "", "", 16⟩, ⟨ "A", 3, 3, false, "", "", 24⟩, ⟨ "B", 3, 4, false, "", "", 32⟩, ⟨ "N", 3, 5, false, "", "", 40⟩]) := by kernel_rfl
def sameS (p q : Sight) (o : Nat) : Bool := match o with
  | 0 => decide (p.entry = q.entry)
  | 1 => decide (p.kind = q.kind)
  | 2 => decide (p.day = q.day)
  | 3 => decide (p.a = q.a)
  | 4 => decide (p.b = q.b)
  | _ => decide (p.n = q.n)
set_option maxRecDepth 10000 in
theorem eqInS (d : Nat) (p q : Sight) (w : World) : (Op.equalIn (d + 2) 142 p.val q.val).run C.P w = .ok (decide (p = q)) w := by
  have hs : C.P.stoodInHeld 142 = false := by kernel_rfl
  have hu : C.P.underlying 142 = some (.struct (C.P.fieldsOf 142)) := by show Tryz.prog.underlying _ = some (.struct (Tryz.prog.fieldsOf _)); rw [fieldsS]; exact underS
  have h3 : C.P.underlying 3 = some (.int .i64) := under3
  have h5 : C.P.underlying 5 = some (.int .u8) := under5
  have p3 := part_plain (t := 3) (ti := ty3) rfl rfl
  have p5 := part_plain (t := 5) (ti := ty5) rfl rfl
  rw [Sight.val, Sight.val, run_equalIn_struct w (d + 1) 142 _ _ hu hs]
  show ((Op.eqFields (d + 1) _ _ (Tryz.prog.fieldsOf 142).toList).run C.P w) = _
  rw [fieldsS]
  rw [eqFields_run (f := fun x => sameS p q x.offset)]
  · obtain ⟨a0, a1, a2, a3, a4, a5⟩ := p
    obtain ⟨b0, b1, b2, b3, b4, b5⟩ := q
    congr 1
    rw [Bool.eq_iff_iff]
    simp [sameS]
  · intro f hf
    simp only [List.mem_cons, List.not_mem_nil, or_false] at hf
    rcases hf with rfl | rfl | rfl | rfl | rfl | rfl
    · exact ⟨by decide, _, _, p3 0 _ (.int .i64 p.entry) w rfl, p3 0 _ (.int .i64 q.entry) w rfl, eqInt_run h3 w (d) .i64 p.entry q.entry⟩
    · exact ⟨by decide, _, _, p5 1 _ (.int .u8 p.kind) w rfl, p5 1 _ (.int .u8 q.kind) w rfl, eqInt_run h5 w (d) .u8 p.kind q.kind⟩
    · exact ⟨by decide, _, _, p3 2 _ (.int .i64 p.day) w rfl, p3 2 _ (.int .i64 q.day) w rfl, eqInt_run h3 w (d) .i64 p.day q.day⟩
    · exact ⟨by decide, _, _, p3 3 _ (.int .i64 p.a) w rfl, p3 3 _ (.int .i64 q.a) w rfl, eqInt_run h3 w (d) .i64 p.a q.a⟩
    · exact ⟨by decide, _, _, p3 4 _ (.int .i64 p.b) w rfl, p3 4 _ (.int .i64 q.b) w rfl, eqInt_run h3 w (d) .i64 p.b q.b⟩
    · exact ⟨by decide, _, _, p3 5 _ (.int .i64 p.n) w rfl, p3 5 _ (.int .i64 q.n) w rfl, eqInt_run h3 w (d) .i64 p.n q.n⟩
theorem neqS (x y : Operand) (p q : Sight) : EqIs C.P .neq 142 x y p.val q.val (!decide (p = q)) := by
  intro w
  have hm : C.P.eqGuardType C.P.depth 142 = false := by kernel_rfl
  rw [Sem.run_bind, Sight.val, Sight.val, run_eqGuard_agg w .neq 142 x y _ _ hm]
  simp only [Result.andThen_ok]
  rw [run_neq_struct]
  have := eqInS 9998 p q w
  rw [Sight.val, Sight.val] at this
  rw [this]
  rfl
/-- A list in memory that came in or was made. -/
structure HL {α : Type} (enc : α → List Value) (w : World) (A : Option Addr) (l : List α) (c : Nat) : Prop where
  reads : Reads w A (l.flatMap enc)
  len : l.length ≤ c
  cap : l.length ≤ 9223372036854775807
theorem HL.ext {α : Type} {enc : α → List Value} {w w' : World} {A : Option Addr} {l : List α} {c : Nat} (h : HL enc w A l c) (e : Ext w w') : HL enc w' A l c := ⟨h.reads.ext e, h.len, h.cap⟩
/-- A list of one's own. -/
def NewL {α : Type} (enc : α → List Value) (T k : Nat) (B : Nat) (w : World) (v : Value) (l : List α) : Prop := w.ownsRow B T k v l.length (l.flatMap enc)
theorem NewL.base {α : Type} {enc : α → List Value} {T k B B' : Nat} {w : World} {v : Value} {l : List α} (h : NewL enc T k B' w v l) (hb : B ≤ B') : NewL enc T k B w v l := ownsRow_base h hb
theorem NewL.ext {α : Type} {enc : α → List Value} {T k B : Nat} {w w' : World} {v : Value} {l : List α} (h : NewL enc T k B w v l) (e : Ext w w') : NewL enc T k B w' v l := ownsRow_ext h e
theorem newL_nil {α : Type} {enc : α → List Value} {T k B : Nat} {w : World} : NewL enc T k B w (.slice none 0 0) ([] : List α) := World.ownsRow_nil _ _ _ _
theorem NewL.hl {α : Type} {enc : α → List Value} {T k B : Nat} {w : World} {v : Value} {l : List α} (h : NewL enc T k B w v l) : ∃ A c, v = .slice A l.length c ∧ HL enc w A l c := by
  obtain ⟨A, c, rfl, hr, hc⟩ := reads_of_owns h
  exact ⟨A, c, rfl, hr, hc, ownsRow_len h⟩
theorem HL.at {α : Type} {enc : α → List Value} {w : World} {A : Option Addr} {l : List α} {c k : Nat} (h : HL enc w A l c) (hk : ∀ x, (enc x).length = k) (k0 : 0 < k) {i : Nat} (hi : i < l.length) : ∃ b o, A = some ⟨b, o, none⟩ ∧ Rd w b (o + i * k) (enc l[i]) := Reads.elem hk k0 h.reads hi
end Go.Proofs.YtcnbpfecgokhiaaGreatDoor
namespace Go.Proofs.YtcnbpfecgokhiaaGreatDoor
open Go.Eng Go.RowKit
theorem in_spec (n a b : Int) (w : World) : CallsV C.P 117 #[.int .i64 n, .int .i64 a, .int .i64 b] w fun v w' => v = .bool (inB n a b) ∧ w' = w := by
  refine callsV_of C_ok (args := [_, _, _]) (plans := []) Tryz.func117 rfl Tryz.ntmps117 (by kernel_rfl) (Nat.le_of_ble_eq_true rfl) ?_
  refine brE_dec (fun h1 => ?_) (fun h1 => ?_)
  · refine ⟨congrArg Value.bool ?_, rfl⟩
    have h1 : a ≤ n := h1
    rw [Bool.eq_iff_iff]; simp only [decide_eq_true_eq]; omega
  · refine ⟨congrArg Value.bool ?_, rfl⟩
    have h1 : ¬ a ≤ n := h1
    rw [inB, decide_eq_false]; omega
theorem within6_spec (n a b : Int) (w : World) : CallsV C.P 134 #[.int .i64 n, .int .i64 a, .int .i64 b] w fun v w' => v = .bool (inB n a b) ∧ w' = w := by
  refine callsV_of C_ok (args := [_, _, _]) (plans := []) Tryz.func134 rfl Tryz.ntmps134 (by kernel_rfl) (Nat.le_of_ble_eq_true rfl) ?_
  refine brE_dec (fun h1 => ?_) (fun h1 => ?_)
  · refine ⟨congrArg Value.bool ?_, rfl⟩
    have h1 : a ≤ n := h1
    rw [Bool.eq_iff_iff]; simp only [decide_eq_true_eq]; omega
  · refine ⟨congrArg Value.bool ?_, rfl⟩
    have h1 : ¬ a ≤ n := h1
    rw [inB, decide_eq_false]; omega
theorem isId_spec (n : Int) (w : World) : CallsV C.P 131 #[.int .i64 n] w fun v w' => v = .bool (idB n) ∧ w' = w := by
  refine callsV_of C_ok (args := [_]) (plans := []) Tryz.func131 rfl Tryz.ntmps131 (by kernel_rfl) (Nat.le_of_ble_eq_true rfl) ?_
  refine (in_spec n 1 1000000 w).mono ?_
  rintro _ w' ⟨rfl, rfl⟩
  exact ⟨rfl, rfl⟩
theorem id6_spec (n : Int) (w : World) : CallsV C.P 135 #[.int .i64 n] w fun v w' => v = .bool (idB n) ∧ w' = w := by
  refine callsV_of C_ok (args := [_]) (plans := []) Tryz.func135 rfl Tryz.ntmps135 (by kernel_rfl) (Nat.le_of_ble_eq_true rfl) ?_
  refine brE_dec (fun h1 => ?_) (fun h1 => ?_)
  · refine ⟨congrArg Value.bool ?_, rfl⟩
    have h1 : 1 ≤ n := h1
    rw [Bool.eq_iff_iff]; simp only [decide_eq_true_eq]; omega
  · refine ⟨congrArg Value.bool ?_, rfl⟩
    have h1 : ¬ 1 ≤ n := h1
    rw [idB, decide_eq_false]; omega
def persB (n : Int) : Bool := decide (n = 0) || idB n
theorem pers_spec (n : Int) (w : World) : CallsV C.P 130 (#[] ++ [.int .i64 n].toArray ++ #[]) w fun v w' => v = .bool (persB n) ∧ w' = w := by
  refine callsV_of C_ok (args := [_]) (plans := []) Tryz.func130 rfl Tryz.ntmps130 (by kernel_rfl) (Nat.le_of_ble_eq_true rfl) ?_
  refine brE_dec (fun h1 => ?_) (fun h1 => ?_)
  · have h1 : n = 0 := h1
    exact ⟨congrArg Value.bool (by unfold persB; rw [decide_eq_true h1]; rfl), rfl⟩
  · have h1 : ¬ n = 0 := h1
    refine (isId_spec n w).mono ?_
    rintro _ w' ⟨rfl, rfl⟩
    exact ⟨congrArg Value.bool (by unfold persB; rw [decide_eq_false h1]; rfl), rfl⟩
def idsW (x : Waiv) : Bool := inB x.id 1 500 && idB x.signer && idB x.giver && idB x.taker && !decide (x.giver = x.taker)
def guestsW (x : Waiv) : Bool := persB x.under && persB x.over && (decide (x.under = 0) || !decide (x.under = x.over))
theorem rightW_parts (x : Waiv) : rightW x = (idsW x && guestsW x && inB x.day 0 100000 && decide (x.day ≤ x.since) && decide (x.since < x.til) && decide (x.til ≤ 100000)) := by
  unfold rightW idsW guestsW persB
  simp only [Bool.and_assoc]
set_option maxRecDepth 100000 in
theorem rightW_spec (x : Waiv) (w : World) : CallsV C.P 91 #[x.val] w fun v w' => v = .bool (rightW x) ∧ Ext w w' := by
  refine callsV_ofS (args := [_]) Tryz.func91 rfl Tryz.ntmps91 C_ok (Nat.le_of_ble_eq_true rfl) ?_
  refine Snd.go C_ok [] (by kernel_rfl) ?_
  intro g1 w1 h1
  have M1 : Mem w w1 [(g1, .cells x.cells.toArray 35 (0, 0))] := (Mem.start w).alloc h1
  refine ⟨Snd.go C_ok [] (by kernel_rfl) ?_⟩
  refine ⟨Snd.join C_ok [] (fun b : Bool => [(1, .pointer (some ⟨g1, 0, none⟩)), (3, .func (.func 130) #[] #[]), (4, .bool b)]) (fun b w' => w' = w1 ∧ b = idsW x) (by kernel_rfl) ?_ ?_⟩
  · have hE : idsW x = (inB x.id 1 500 && idB x.signer && idB x.giver && idB x.taker && !decide (x.giver = x.taker)) := rfl
    refine ⟨_, M1.cell 0 rfl rfl, ?_⟩
    refine (in_spec x.id 1 500 _).mono ?_
    rintro _ w9 ⟨rfl, rfl⟩
    refine brE_mk (fun q => ?_) (fun q => ⟨false, ⟨rfl, rfl, rfl, trivial⟩, rfl, by rw [hE, show inB x.id 1 500 = false from q]; simp only [Bool.and_false, Bool.false_and]⟩)
    have q0 : inB x.id 1 500 = true := q
    refine ⟨_, M1.cell 0 rfl rfl, ?_⟩
    refine (isId_spec x.signer _).mono ?_
    rintro _ w9 ⟨rfl, rfl⟩
    refine brE_mk (fun q => ?_) (fun q => ⟨false, ⟨rfl, rfl, rfl, trivial⟩, rfl, by rw [hE, show idB x.signer = false from q]; simp only [Bool.and_false, Bool.false_and]⟩)
    have q1 : idB x.signer = true := q
    refine ⟨_, M1.cell 0 rfl rfl, ?_⟩
    refine (isId_spec x.giver _).mono ?_
    rintro _ w9 ⟨rfl, rfl⟩
    refine brE_mk (fun q => ?_) (fun q => ⟨false, ⟨rfl, rfl, rfl, trivial⟩, rfl, by rw [hE, show idB x.giver = false from q]; simp only [Bool.and_false, Bool.false_and]⟩)
    have q2 : idB x.giver = true := q
    refine ⟨_, M1.cell 0 rfl rfl, ?_⟩
    refine (isId_spec x.taker _).mono ?_
    rintro _ w9 ⟨rfl, rfl⟩
    refine brE_mk (fun q => ?_) (fun q => ⟨false, ⟨rfl, rfl, rfl, trivial⟩, rfl, by rw [hE, show idB x.taker = false from q]; simp only [Bool.and_false, Bool.false_and]⟩)
    have q3 : idB x.taker = true := q
    refine ⟨_, M1.cell 0 rfl rfl, ?_⟩
    refine ⟨_, M1.cell 0 rfl rfl, ?_⟩
    exact ⟨!decide (x.giver = x.taker), ⟨rfl, rfl, rfl, trivial⟩, rfl, by rw [hE]; simp only [q0, q1, q2, q3, Bool.true_and]⟩
  rintro b1 w1' ⟨rfl, hb1⟩
  refine Snd.join C_ok [] (fun b : Bool => [(1, .pointer (some ⟨g1, 0, none⟩)), (4, .bool b1), (5, .bool b)]) (fun b w' => w' = w1' ∧ b = guestsW x) (by kernel_rfl) ?_ ?_
  · have hE : guestsW x = (persB x.under && persB x.over && (decide (x.under = 0) || !decide (x.under = x.over))) := rfl
    refine ⟨_, M1.cell 0 rfl rfl, ?_⟩
    refine (pers_spec x.under _).mono ?_
    rintro _ w9 ⟨rfl, rfl⟩
    refine brE_mk (fun q => ?_) (fun q => ⟨false, ⟨rfl, rfl, rfl, trivial⟩, rfl, by rw [hE, show persB x.under = false from q]; simp only [Bool.and_false, Bool.false_and]⟩)
    have q0 : persB x.under = true := q
    refine ⟨_, M1.cell 0 rfl rfl, ?_⟩
    refine (pers_spec x.over _).mono ?_
    rintro _ w9 ⟨rfl, rfl⟩
    refine brE_mk (fun q => ?_) (fun q => ⟨false, ⟨rfl, rfl, rfl, trivial⟩, rfl, by rw [hE, show persB x.over = false from q]; simp only [Bool.and_false, Bool.false_and]⟩)
    have q1 : persB x.over = true := q
    refine ⟨_, M1.cell 0 rfl rfl, ?_⟩
    refine brE_dec (fun q => ?_) (fun q => ?_)
    · have q : x.under = 0 := q
      exact ⟨true, ⟨rfl, rfl, rfl, trivial⟩, rfl, by rw [hE, q0, q1, decide_eq_true q]; rfl⟩
    · have q : ¬ x.under = 0 := q
      refine ⟨_, M1.cell 0 rfl rfl, ?_⟩
      refine ⟨_, M1.cell 0 rfl rfl, ?_⟩
      exact ⟨!decide (x.under = x.over), ⟨rfl, rfl, rfl, trivial⟩, rfl, by rw [hE, q0, q1, decide_eq_false q]; rfl⟩
  rintro b2 w2 ⟨rfl, hb2⟩
  refine Snd.fin C_ok (plans := []) (by kernel_rfl) ?_
  rw [rightW_parts, ← hb1, ← hb2]
  refine brE_mk (fun q => ?_) (fun q => ⟨congrArg Value.bool (by rw [show b1 = false from q]; simp only [Bool.and_false, Bool.false_and]), M1.ext⟩)
  have q0 : b1 = true := q
  refine brE_mk (fun q => ?_) (fun q => ⟨congrArg Value.bool (by rw [show b2 = false from q]; simp only [Bool.and_false, Bool.false_and]), M1.ext⟩)
  have q1 : b2 = true := q
  refine ⟨_, M1.cell 0 rfl rfl, ?_⟩
  refine (in_spec x.day 0 100000 _).mono ?_
  rintro _ w9 ⟨rfl, rfl⟩
  refine brE_mk (fun q => ?_) (fun q => ⟨congrArg Value.bool (by rw [show inB x.day 0 100000 = false from q]; simp only [Bool.and_false, Bool.false_and]), M1.ext⟩)
  have q2 : inB x.day 0 100000 = true := q
  refine ⟨_, M1.cell 0 rfl rfl, ?_⟩
  refine ⟨_, M1.cell 0 rfl rfl, ?_⟩
  refine brE_mk (fun q => ?_) (fun q => ⟨congrArg Value.bool (by rw [show decide (x.day ≤ x.since) = false from q]; simp only [Bool.and_false, Bool.false_and]), M1.ext⟩)
  have q3 : decide (x.day ≤ x.since) = true := q
  refine ⟨_, M1.cell 0 rfl rfl, ?_⟩
  refine ⟨_, M1.cell 0 rfl rfl, ?_⟩
  refine brE_mk (fun q => ?_) (fun q => ⟨congrArg Value.bool (by rw [show decide (x.since < x.til) = false from q]; simp only [Bool.and_false, Bool.false_and]), M1.ext⟩)
  have q4 : decide (x.since < x.til) = true := q
  refine ⟨_, M1.cell 0 rfl rfl, ?_⟩
  exact ⟨congrArg Value.bool (by simp only [q0, q1, q2, q3, q4, Bool.true_and]), M1.ext⟩
structure Waiv.Nums (x : Waiv) : Prop where
  id : In64 x.id
  day : In64 x.day
  signer : In64 x.signer
  giver : In64 x.giver
  taker : In64 x.taker
  under : In64 x.under
  over : In64 x.over
  since : In64 x.since
  til : In64 x.til
structure Gift.Nums (x : Gift) : Prop where
  id : In64 x.id
  day : In64 x.day
  frm : In64 x.frm
  to : In64 x.to
  cur : 0 ≤ x.cur ∧ x.cur ≤ 255
  n : In64 x.n
  worth : In64 x.worth
  state : 0 ≤ x.state ∧ x.state ≤ 255
  answered : In64 x.answered
  returns : In64 x.returns
structure Entry.Nums (x : Entry) : Prop where
  kind : 0 ≤ x.kind ∧ x.kind ≤ 255
  day : In64 x.day
  w : x.w.Nums
  g : x.g.Nums
  a : In64 x.a
  b : In64 x.b
  n : In64 x.n
theorem Entry.w_part (x : Entry) : ∀ i v, x.w.cells[i]? = some v → x.cells[2 + i]? = some v := by
  intro i v h
  match i, h with
  | 0, h | 1, h | 2, h | 3, h | 4, h | 5, h | 6, h | 7, h | 8, h => exact h
  | n + 9, h => exact absurd (List.getElem?_eq_some_iff.1 h).1 (by rw [Waiv.len]; omega)
theorem Entry.g_part (x : Entry) : ∀ i v, x.g.cells[i]? = some v → x.cells[11 + i]? = some v := by
  intro i v h
  match i, h with
  | 0, h | 1, h | 2, h | 3, h | 4, h | 5, h | 6, h | 7, h | 8, h | 9, h => exact h
  | n + 10, h => exact absurd (List.getElem?_eq_some_iff.1 h).1 (by rw [Gift.len]; omega)
def idsG (x : Gift) : Bool := inB x.id 1 500 && idB x.frm && idB x.to && !decide (x.frm = x.to) && inB x.returns 0 500 && !decide (x.returns = x.id)
theorem rightG_day (x : Gift) (d : Int) : (rightG x && decide (x.day = d)) = (idsG x && decide (x.day = d) && inB x.cur 1 2 && inB x.n 1 1000000) := by
  unfold rightG
  have e : (inB x.id 1 500 && idB x.frm && idB x.to && !decide (x.frm = x.to) && inB x.returns 0 500 && !decide (x.returns = x.id)) = idsG x := rfl
  rw [e]
  generalize idsG x = a
  generalize decide (x.day = d) = b
  generalize inB x.cur 1 2 = c
  generalize inB x.n 1 1000000 = e
  cases a <;> cases b <;> cases c <;> cases e <;> rfl
set_option maxRecDepth 100000 in
set_option maxHeartbeats 2000000 in
theorem formed_spec (x : Entry) (hx : x.Nums) (w : World) : CallsV C.P 107 #[x.val] w fun v w' => v = .bool (formX x) ∧ Ext w w' := by
  refine callsV_ofS (args := [_]) Tryz.func107 rfl Tryz.ntmps107 C_ok (Nat.le_of_ble_eq_true rfl) ?_
  refine Snd.go C_ok plans107 (by kernel_rfl) ?_
  intro g1 w1 h1
  have M1 : Mem w w1 [(g1, .cells x.cells.toArray 39 (0, 0))] := (Mem.start w).alloc h1
  refine ⟨Snd.go C_ok plans107 (by kernel_rfl) ?_⟩
  refine ⟨_, M1.cell 0 rfl rfl, ?_⟩
  refine ⟨_, M1.cell 0 rfl rfl, ?_⟩
  intro g3 w2 h2
  have M2 := M1.alloc h2
  refine ⟨rfl, _, _, M2.get 0 rfl, Nat.le_of_ble_eq_true rfl, rfl, ?_⟩
  intro w3 h3
  have M3 : Mem w w3 [(g3, .cells (⟨x.kind, x.day, waivZ, giftZ, 0, 0, 0⟩ : Entry).cells.toArray 39 (0, 0)), (g1, .cells x.cells.toArray 39 (0, 0))] := M2.put 0 rfl h3
  have hne : g3 ≠ g1 := fun e => by
    have := M3.nodup
    simp [e] at this
  clear M1 M2 h1 h2 h3
  refine ⟨Snd.go C_ok plans107 (by kernel_rfl) ?_⟩
  refine ⟨Snd.join C_ok plans107 (fun s : Entry × Bool => [(1, .pointer (some ⟨g1, 0, none⟩)), (3, .pointer (some ⟨g3, 0, none⟩)), (4, .bool s.2)]) (fun s w' => Mem w w' [(g3, .cells s.1.cells.toArray 39 (0, 0)), (g1, .cells x.cells.toArray 39 (0, 0))] ∧ s.1 = wantE x ∧ s.2 = okE x) (by kernel_rfl) ?_ ?_⟩
  · refine ⟨_, M3.cell 1 rfl rfl, ?_⟩
    refine brE_dec (fun k1 => ?_) (fun k1 => ?_)
    · have k1 : x.kind = 1 := k1
      have hE : okE x = (inB x.a 1 2 && inB x.n 1 1000000) := by unfold okE; rw [if_pos k1]
      have hW : (⟨x.kind, x.day, waivZ, giftZ, x.a, 0, x.n⟩ : Entry) = wantE x := by unfold wantE; rw [if_pos (.inl k1)]
      refine ⟨fun q => q = g1, ?_⟩
      refine ⟨_, M3.cell 1 rfl rfl, ?_⟩
      refine ⟨.int .i64 x.n, fun u hu => ⟨_, hu.cell rfl (M3.cell 1 (i := 23) rfl rfl), rfl⟩, ?_⟩
      refine ⟨rfl, _, _, M3.get 0 rfl, Nat.le_of_ble_eq_true rfl, rfl, ?_⟩
      intro w4 h4
      have M4 := M3.put 0 rfl h4
      refine ⟨(Keep.refl _ w3).put h4 hne, ?_⟩
      refine ⟨rfl, _, _, M4.get 0 rfl, Nat.le_of_ble_eq_true rfl, rfl, ?_⟩
      intro w5 h5
      have M5 : Mem w w5 [(g3, .cells (⟨x.kind, x.day, waivZ, giftZ, x.a, 0, x.n⟩ : Entry).cells.toArray 39 (0, 0)), (g1, .cells x.cells.toArray 39 (0, 0))] := M4.put 0 rfl h5
      refine ⟨_, M5.cell 1 rfl rfl, ?_⟩
      refine (in_spec x.a 1 2 _).mono ?_
      rintro _ w9 ⟨rfl, rfl⟩
      refine brE_mk (fun q => ?_) (fun q => ⟨(_, false), ⟨rfl, rfl, rfl, trivial⟩, M5, hW, by rw [hE, show inB x.a 1 2 = false from q]; simp only [Bool.and_false, Bool.false_and]⟩)
      have q0 : inB x.a 1 2 = true := q
      refine ⟨_, M5.cell 1 rfl rfl, ?_⟩
      refine (in_spec x.n 1 1000000 _).mono ?_
      rintro _ w9 ⟨rfl, rfl⟩
      exact ⟨(_, inB x.n 1 1000000), ⟨rfl, rfl, rfl, trivial⟩, M5, hW, by rw [hE]; simp only [q0, Bool.true_and]⟩
    have k1 : ¬ x.kind = 1 := k1
    refine brE_dec (fun k2 => ?_) (fun k2 => ?_)
    · have k2 : x.kind = 2 := k2
      have hE : okE x = (idB x.a && inB x.n 1 1000000000000) := by unfold okE; rw [if_neg k1, if_pos k2]
      have hW : (⟨x.kind, x.day, waivZ, giftZ, x.a, 0, x.n⟩ : Entry) = wantE x := by unfold wantE; rw [if_pos (.inr k2)]
      refine ⟨fun q => q = g1, ?_⟩
      refine ⟨_, M3.cell 1 rfl rfl, ?_⟩
      refine ⟨.int .i64 x.n, fun u hu => ⟨_, hu.cell rfl (M3.cell 1 (i := 23) rfl rfl), rfl⟩, ?_⟩
      refine ⟨rfl, _, _, M3.get 0 rfl, Nat.le_of_ble_eq_true rfl, rfl, ?_⟩
      intro w4 h4
      have M4 := M3.put 0 rfl h4
      refine ⟨(Keep.refl _ w3).put h4 hne, ?_⟩
      refine ⟨rfl, _, _, M4.get 0 rfl, Nat.le_of_ble_eq_true rfl, rfl, ?_⟩
      intro w5 h5
      have M5 : Mem w w5 [(g3, .cells (⟨x.kind, x.day, waivZ, giftZ, x.a, 0, x.n⟩ : Entry).cells.toArray 39 (0, 0)), (g1, .cells x.cells.toArray 39 (0, 0))] := M4.put 0 rfl h5
      refine ⟨_, M5.cell 1 rfl rfl, ?_⟩
      refine (isId_spec x.a _).mono ?_
      rintro _ w9 ⟨rfl, rfl⟩
      refine brE_mk (fun q => ?_) (fun q => ⟨(_, false), ⟨rfl, rfl, rfl, trivial⟩, M5, hW, by rw [hE, show idB x.a = false from q]; simp only [Bool.and_false, Bool.false_and]⟩)
      have q0 : idB x.a = true := q
      refine ⟨_, M5.cell 1 rfl rfl, ?_⟩
      refine (in_spec x.n 1 1000000000000 _).mono ?_
      rintro _ w9 ⟨rfl, rfl⟩
      exact ⟨(_, inB x.n 1 1000000000000), ⟨rfl, rfl, rfl, trivial⟩, M5, hW, by rw [hE]; simp only [q0, Bool.true_and]⟩
    have k2 : ¬ x.kind = 2 := k2
    refine brE_dec (fun k3 => ?_) (fun k3 => ?_)
    · have k3 : x.kind = 3 := k3
      have hE : okE x = (rightW x.w && decide (x.w.day = x.day)) := by unfold okE; rw [if_neg k1, if_neg k2, if_pos k3]
      have hW : (⟨x.kind, x.day, x.w, giftZ, 0, 0, 0⟩ : Entry) = wantE x := by unfold wantE; rw [if_neg (fun e => e.elim k1 k2), if_pos k3]
      refine ⟨x.w.cells, rfl, (M3.rd 1 rfl).part x.w_part, ?_⟩
      refine ⟨rfl, _, _, M3.get 0 rfl, Nat.le_of_ble_eq_true rfl, rfl, ?_⟩
      intro w4 h4
      have M5 : Mem w w4 [(g3, .cells (⟨x.kind, x.day, x.w, giftZ, 0, 0, 0⟩ : Entry).cells.toArray 39 (0, 0)), (g1, .cells x.cells.toArray 39 (0, 0))] := M3.put 0 rfl h4
      refine ⟨x.w.cells, rfl, (M5.rd 1 rfl).part x.w_part, ?_⟩
      refine (rightW_spec x.w _).mono ?_
      rintro _ w9 ⟨rfl, e9⟩
      have M6 := M5.grow e9
      refine brE_mk (fun q => ?_) (fun q => ⟨(_, false), ⟨rfl, rfl, rfl, trivial⟩, M6, hW, by rw [hE, show rightW x.w = false from q]; simp only [Bool.and_false, Bool.false_and]⟩)
      have q0 : rightW x.w = true := q
      refine ⟨_, M6.cell 1 rfl rfl, ?_⟩
      refine ⟨_, M6.cell 1 rfl rfl, ?_⟩
      exact ⟨(_, decide (x.w.day = x.day)), ⟨rfl, rfl, rfl, trivial⟩, M6, hW, by rw [hE]; simp only [q0, Bool.true_and]⟩
    have k3 : ¬ x.kind = 3 := k3
    refine brE_dec (fun k4 => ?_) (fun k4 => ?_)
    · have k4 : x.kind = 4 := k4
      have hE : okE x = (inB x.w.id 1 500) := by unfold okE; rw [if_neg k1, if_neg k2, if_neg k3, if_pos k4]
      have hW : (⟨x.kind, x.day, { waivZ with id := x.w.id }, giftZ, 0, 0, 0⟩ : Entry) = wantE x := by unfold wantE; rw [if_neg (fun e => e.elim k1 k2), if_neg k3, if_pos k4]
      refine ⟨_, M3.cell 1 rfl rfl, ?_⟩
      refine ⟨rfl, _, _, M3.get 0 rfl, Nat.le_of_ble_eq_true rfl, rfl, ?_⟩
      intro w4 h4
      have M5 : Mem w w4 [(g3, .cells (⟨x.kind, x.day, { waivZ with id := x.w.id }, giftZ, 0, 0, 0⟩ : Entry).cells.toArray 39 (0, 0)), (g1, .cells x.cells.toArray 39 (0, 0))] := M3.put 0 rfl h4
      refine ⟨_, M5.cell 1 rfl rfl, ?_⟩
      refine (in_spec x.w.id 1 500 _).mono ?_
      rintro _ w9 ⟨rfl, rfl⟩
      exact ⟨(_, inB x.w.id 1 500), ⟨rfl, rfl, rfl, trivial⟩, M5, hW, by rw [hE]⟩
    have k4 : ¬ x.kind = 4 := k4
    refine brE_dec (fun k5 => ?_) (fun k5 => ?_)
    · have k5 : x.kind = 5 := k5
      have hE : okE x = (rightG x.g && decide (x.g.day = x.day)) := by unfold okE; rw [if_neg k1, if_neg k2, if_neg k3, if_neg k4, if_pos k5]
      have hW : (⟨x.kind, x.day, waivZ, plainG x.g, 0, 0, 0⟩ : Entry) = wantE x := by unfold wantE; rw [if_neg (fun e => e.elim k1 k2), if_neg k3, if_neg k4, if_pos k5]
      rw [rightG_day] at hE
      refine ⟨x.g.cells, rfl, (M3.rd 1 rfl).part x.g_part, ?_⟩
      intro g5 w4 h4
      have M4 := M3.alloc h4
      refine ⟨rfl, _, _, M4.get 0 rfl, Nat.le_of_ble_eq_true rfl, rfl, ?_⟩
      intro w5 h5
      have M5 : Mem w w5 [(g5, .cells x.g.cells.toArray 37 (0, 0)), (g3, .cells (⟨x.kind, x.day, waivZ, giftZ, 0, 0, 0⟩ : Entry).cells.toArray 39 (0, 0)), (g1, .cells x.cells.toArray 39 (0, 0))] := M4.put 0 rfl h5
      clear M4 h4 h5
      refine ⟨_, M5.cell 0 rfl rfl, ?_⟩
      refine ⟨_, M5.cell 0 rfl rfl, ?_⟩
      refine ⟨_, M5.cell 0 rfl rfl, ?_⟩
      refine ⟨_, M5.cell 0 rfl rfl, ?_⟩
      refine ⟨_, M5.cell 0 rfl rfl, ?_⟩
      refine ⟨_, M5.cell 0 rfl rfl, ?_⟩
      refine ⟨_, M5.cell 0 rfl rfl, ?_⟩
      refine ⟨rfl, _, _, M5.get 1 rfl, Nat.le_of_ble_eq_true rfl, rfl, ?_⟩
      intro w6 h6
      have M6 : Mem w w6 [(g5, .cells x.g.cells.toArray 37 (0, 0)), (g3, .cells (⟨x.kind, x.day, waivZ, plainG x.g, 0, 0, 0⟩ : Entry).cells.toArray 39 (0, 0)), (g1, .cells x.cells.toArray 39 (0, 0))] := M5.put 1 rfl h6
      have M7 : Mem w w6 [(g3, .cells (⟨x.kind, x.day, waivZ, plainG x.g, 0, 0, 0⟩ : Entry).cells.toArray 39 (0, 0)), (g1, .cells x.cells.toArray 39 (0, 0))] := M6.tail
      have hI : idsG x.g = (inB x.g.id 1 500 && idB x.g.frm && idB x.g.to && !decide (x.g.frm = x.g.to) && inB x.g.returns 0 500 && !decide (x.g.returns = x.g.id)) := rfl
      rw [hI] at hE
      refine ⟨_, M6.cell 0 rfl rfl, ?_⟩
      refine (in_spec x.g.id 1 500 _).mono ?_
      rintro _ w9 ⟨rfl, rfl⟩
      refine brE_mk (fun q => ?_) (fun q => ⟨(_, false), ⟨rfl, rfl, rfl, trivial⟩, M7, hW, by rw [hE, show inB x.g.id 1 500 = false from q]; simp only [Bool.and_false, Bool.false_and]⟩)
      have q0 : inB x.g.id 1 500 = true := q
      refine ⟨_, M6.cell 0 rfl rfl, ?_⟩
      refine (isId_spec x.g.frm _).mono ?_
      rintro _ w9 ⟨rfl, rfl⟩
      refine brE_mk (fun q => ?_) (fun q => ⟨(_, false), ⟨rfl, rfl, rfl, trivial⟩, M7, hW, by rw [hE, show idB x.g.frm = false from q]; simp only [Bool.and_false, Bool.false_and]⟩)
      have q1 : idB x.g.frm = true := q
      refine ⟨_, M6.cell 0 rfl rfl, ?_⟩
      refine (isId_spec x.g.to _).mono ?_
      rintro _ w9 ⟨rfl, rfl⟩
      refine brE_mk (fun q => ?_) (fun q => ⟨(_, false), ⟨rfl, rfl, rfl, trivial⟩, M7, hW, by rw [hE, show idB x.g.to = false from q]; simp only [Bool.and_false, Bool.false_and]⟩)
      have q2 : idB x.g.to = true := q
      refine ⟨_, M6.cell 0 rfl rfl, ?_⟩
      refine ⟨_, M6.cell 0 rfl rfl, ?_⟩
      refine brE_mk (fun q => ?_) (fun q => ⟨(_, false), ⟨rfl, rfl, rfl, trivial⟩, M7, hW, by rw [hE, show (!decide (x.g.frm = x.g.to)) = false from q]; simp only [Bool.and_false, Bool.false_and]⟩)
      have q3 : (!decide (x.g.frm = x.g.to)) = true := q
      refine ⟨_, M6.cell 0 rfl rfl, ?_⟩
      refine (in_spec x.g.returns 0 500 _).mono ?_
      rintro _ w9 ⟨rfl, rfl⟩
      refine brE_mk (fun q => ?_) (fun q => ⟨(_, false), ⟨rfl, rfl, rfl, trivial⟩, M7, hW, by rw [hE, show inB x.g.returns 0 500 = false from q]; simp only [Bool.and_false, Bool.false_and]⟩)
      have q4 : inB x.g.returns 0 500 = true := q
      refine ⟨_, M6.cell 0 rfl rfl, ?_⟩
      refine ⟨_, M6.cell 0 rfl rfl, ?_⟩
      refine brE_mk (fun q => ?_) (fun q => ⟨(_, false), ⟨rfl, rfl, rfl, trivial⟩, M7, hW, by rw [hE, show (!decide (x.g.returns = x.g.id)) = false from q]; simp only [Bool.and_false, Bool.false_and]⟩)
      have q5 : (!decide (x.g.returns = x.g.id)) = true := q
      refine ⟨_, M6.cell 0 rfl rfl, ?_⟩
      refine ⟨_, M6.cell 2 rfl rfl, ?_⟩
      refine brE_mk (fun q => ?_) (fun q => ⟨(_, false), ⟨rfl, rfl, rfl, trivial⟩, M7, hW, by rw [hE, show decide (x.g.day = x.day) = false from q]; simp only [Bool.and_false, Bool.false_and]⟩)
      have q6 : decide (x.g.day = x.day) = true := q
      refine ⟨_, M6.cell 0 rfl rfl, ?_⟩
      refine ⟨_, fit ⟨by have := hx.g.cur; omega, by have := hx.g.cur; omega⟩, ?_⟩
      refine (in_spec x.g.cur 1 2 _).mono ?_
      rintro _ w9 ⟨rfl, rfl⟩
      refine brE_mk (fun q => ?_) (fun q => ⟨(_, false), ⟨rfl, rfl, rfl, trivial⟩, M7, hW, by rw [hE, show inB x.g.cur 1 2 = false from q]; simp only [Bool.and_false, Bool.false_and]⟩)
      have q7 : inB x.g.cur 1 2 = true := q
      refine ⟨_, M6.cell 0 rfl rfl, ?_⟩
      refine (in_spec x.g.n 1 1000000 _).mono ?_
      rintro _ w9 ⟨rfl, rfl⟩
      exact ⟨(_, inB x.g.n 1 1000000), ⟨rfl, rfl, rfl, trivial⟩, M7, hW, by rw [hE]; simp only [q0, q1, q2, q3, q4, q5, q6, q7, Bool.true_and]⟩
    have k5 : ¬ x.kind = 5 := k5
    refine brE_dec (fun k6 => ?K6) (fun k6 => ?N6)
    case' K6 =>
      have hk : x.kind = 6 ∨ x.kind = 7 := .inl k6
      refine brE_true (decide_eq_true k6) ?_
    case' N6 =>
      have k6 : ¬ x.kind = 6 := k6
      refine brE_dec (fun k7 => ?K7) (fun k7 => ?N7)
      case' K7 =>
        have hk : x.kind = 6 ∨ x.kind = 7 := .inr k7
      case' N7 =>
        have k7 : ¬ x.kind = 7 := k7
        exact ⟨(⟨x.kind, x.day, waivZ, giftZ, 0, 0, 0⟩, false), ⟨rfl, rfl, rfl, trivial⟩, M3, by unfold wantE; rw [if_neg (fun e => e.elim k1 k2), if_neg k3, if_neg k4, if_neg k5, if_neg (fun e => e.elim k6 k7)], by unfold okE; rw [if_neg k1, if_neg k2, if_neg k3, if_neg k4, if_neg k5, if_neg (fun e => e.elim k6 k7)]⟩
    all_goals
      have hW : (⟨x.kind, x.day, waivZ, { giftZ with id := x.g.id }, 0, 0, 0⟩ : Entry) = wantE x := by unfold wantE; rw [if_neg (fun e => e.elim k1 k2), if_neg k3, if_neg k4, if_neg k5, if_pos hk]
      refine ⟨_, M3.cell 1 rfl rfl, ?_⟩
      refine ⟨rfl, _, _, M3.get 0 rfl, Nat.le_of_ble_eq_true rfl, rfl, ?_⟩
      intro w4 h4
      have M5 : Mem w w4 [(g3, .cells (⟨x.kind, x.day, waivZ, { giftZ with id := x.g.id }, 0, 0, 0⟩ : Entry).cells.toArray 39 (0, 0)), (g1, .cells x.cells.toArray 39 (0, 0))] := M3.put 0 rfl h4
      refine ⟨_, M5.cell 1 rfl rfl, ?_⟩
      refine (in_spec x.g.id 1 500 _).mono ?_
      rintro _ w9 ⟨rfl, rfl⟩
      exact ⟨(_, inB x.g.id 1 500), ⟨rfl, rfl, rfl, trivial⟩, M5, hW, by unfold okE; rw [if_neg k1, if_neg k2, if_neg k3, if_neg k4, if_neg k5, if_pos hk]⟩
  rintro ⟨y, ok⟩ w4 ⟨M4, hy, hok⟩
  have hy : y = wantE x := hy
  have hok : ok = okE x := hok
  refine Snd.fin C_ok (plans := plans107) (by kernel_rfl) ?_
  have hE : formX x = (ok && decide (x = y) && inB x.day 0 100000) := by rw [hok, hy]; rfl
  refine brE_mk (fun q => ?_) (fun q => ⟨congrArg Value.bool (by rw [hE, show ok = false from q]; rfl), M4.ext⟩)
  have q0 : ok = true := q
  refine ⟨x.cells, rfl, M4.rd 1 rfl, ?_⟩
  refine ⟨y.cells, rfl, M4.rd 0 rfl, ?_⟩
  refine ⟨_, eqE _ _ x y, ?_⟩
  refine brE_mk (fun q => ?_) (fun q => ⟨congrArg Value.bool (by rw [hE, show decide (x = y) = false from q]; simp only [Bool.and_false, Bool.false_and]), M4.ext⟩)
  have q1 : decide (x = y) = true := q
  refine ⟨_, M4.cell 1 rfl rfl, ?_⟩
  refine (in_spec x.day 0 100000 _).mono ?_
  rintro _ w9 ⟨rfl, rfl⟩
  exact ⟨congrArg Value.bool (by rw [hE, q0, q1]; rfl), M4.ext⟩
end Go.Proofs.YtcnbpfecgokhiaaGreatDoor
