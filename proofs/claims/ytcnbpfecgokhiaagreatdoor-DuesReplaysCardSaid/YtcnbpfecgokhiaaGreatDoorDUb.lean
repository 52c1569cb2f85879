/- a part of the proof: steps, walks and plain laws that the law below stands on; no condition. -/
import Derived.Test.YtcnbpfecgokhiaaGreatDoorDUa
import Derived.Test.YtcnbpfecgokhiaaGreatDoorDBb
set_option linter.unusedVariables false
set_option linter.unusedSimpArgs false
set_option linter.unnecessarySimpa false
set_option linter.unusedSectionVars false
namespace Go.Proofs.YtcnbpfecgokhiaaGreatDoor
open Go.Eng Go.RowKit

structure Opn where
  kind : Int
  x : Entry
deriving DecidableEq
def opnZ : Opn := ⟨0, entryZ⟩
instance : Inhabited Opn := ⟨opnZ⟩
def Opn.cells (o : Opn) : List Value := .int .u8 o.kind :: o.x.cells
def Opn.val (o : Opn) : Value := .agg o.cells.toArray

/-- What the facts say of a waiver that is granted: 0, or an error. -/
def sgF (f : List Fact) (w : Waiv) : Int := if (chkF f).2 ≠ 0 then (chkF f).2 else if leastL (atL w.day w.day f) w.signer w.giver ≤ 2 then 0 else 60
def doF (f : List Fact) (es : List Entry) (x : Entry) : Int := doE (sgF f x.w) es x

def rateE (day c n : Int) : Entry := ⟨1, day, waivZ, giftZ, c, 0, n⟩
def ceilE (day s n : Int) : Entry := ⟨2, day, waivZ, giftZ, s, 0, n⟩
def grantE (es : List Entry) (w : Waiv) : Entry := ⟨3, w.day, { w with id := (((waivL es).length + 1 : Nat) : Int) }, giftZ, 0, 0, 0⟩
def endE (day id : Int) : Entry := ⟨4, day, { waivZ with id := id }, giftZ, 0, 0, 0⟩
def offerE (es : List Entry) (day frm to cur n returns : Int) : Entry := ⟨5, day, waivZ, ⟨(((giftL es).length + 1 : Nat) : Int), day, frm, to, cur, n, 0, 0, 0, returns⟩, 0, 0, 0⟩
def takeE (day id : Int) : Entry := ⟨6, day, waivZ, { giftZ with id := id }, 0, 0, 0⟩
def refuseE (day id : Int) : Entry := ⟨7, day, waivZ, { giftZ with id := id }, 0, 0, 0⟩
def opK (o : Opn) : Int := o.kind % 8
/-- The entry that an operation would add. -/
def opE (es : List Entry) (o : Opn) : Entry :=
  if opK o = 1 then grantE es o.x.w else if opK o = 2 then offerE es o.x.day o.x.g.frm o.x.g.to o.x.g.cur o.x.g.n o.x.g.returns else if opK o = 3 then rateE o.x.day o.x.g.cur o.x.n
  else if opK o = 4 then ceilE o.x.day o.x.a o.x.n else if opK o = 5 then endE o.x.day o.x.w.id else if opK o = 6 then takeE o.x.day o.x.g.id else if opK o = 7 then refuseE o.x.day o.x.g.id else o.x
def didE (f : List Fact) (es : List Entry) (o : Opn) : Int := doF f es (opE es o)
def addL (e : Int) (es : List Entry) (x : Entry) : List Entry := if e = 0 then es ++ [x] else es
def didL (f : List Fact) (es : List Entry) (o : Opn) : List Entry := addL (didE f es o) es (opE es o)
def didN (f : List Fact) (es : List Entry) (o : Opn) : Int := if didE f es o = 0 then (if opK o = 1 then (((waivL es).length + 1 : Nat) : Int) else if opK o = 2 then (((giftL es).length + 1 : Nat) : Int) else 0) else 0
def builtL (f : List Fact) (s : List Opn) : List Entry := s.foldl (didL f) []

theorem acc_add {sg : Int} {es : List Entry} {x : Entry} (h : Acc es) : Acc (addL (doE sg es x) es x) := by
  unfold addL
  split
  · rename_i h0; exact .snoc sg h h0
  · exact h
theorem acc_did {f : List Fact} {es : List Entry} (h : Acc es) (o : Opn) : Acc (didL f es o) := acc_add h
theorem add_length (e : Int) (es : List Entry) (x : Entry) : (addL e es x).length ≤ es.length + 1 := by
  unfold addL; split <;> simp
theorem acc_fold {f : List Fact} : ∀ (s : List Opn) {es : List Entry}, Acc es → Acc (s.foldl (didL f) es) ∧ (s.foldl (didL f) es).length ≤ es.length + s.length
  | [], _, h => ⟨h, by simp⟩
  | o :: s, es, h => by
    obtain ⟨h1, h2⟩ := acc_fold (f := f) s (acc_did (f := f) h o)
    have := add_length (didE f es o) es (opE es o)
    refine ⟨h1, ?_⟩
    rw [List.foldl_cons, List.length_cons]
    have h3 : (didL f es o).length ≤ es.length + 1 := this
    omega
theorem acc_built (f : List Fact) (s : List Opn) : Acc (builtL f s) ∧ (builtL f s).length ≤ s.length := by
  have := acc_fold (f := f) s Acc.nil
  simpa [builtL] using this
theorem built_take {f : List Fact} {s : List Opn} {i : Nat} (hi : i < s.length) : builtL f (s.take (i + 1)) = didL f (builtL f (s.take i)) s[i] := by
  unfold builtL
  rw [List.take_succ_eq_append_getElem hi, List.foldl_append]; rfl

/-! ### lengths -/
theorem waivL_length : ∀ (es : List Entry), (waivL es).length ≤ es.length := by
  intro es
  unfold waivL
  suffices h : ∀ (es : List Entry) (l : List Waiv), (es.foldl waivS l).length ≤ l.length + es.length from by simpa using h es []
  intro es
  induction es with
  | nil => intro l; simp
  | cons x r ih =>
    intro l
    have h1 : (waivS l x).length ≤ l.length + 1 := by
      unfold waivS
      split
      · simp
      · split
        · rw [updAt_length]; omega
        · omega
    have := ih (waivS l x)
    rw [List.foldl_cons, List.length_cons]
    omega
theorem meetS_length (gs : List Gift) (x : Entry) : (meetS gs x).length = gs.length := by
  unfold meetS
  split
  · simp only
    split
    · rfl
    · split
      · rw [updAt_length]
      · rfl
  · rfl
theorem baseS_length (es : List Entry) (gs : List Gift) (x : Entry) : (baseS es gs x).length ≤ gs.length + 1 := by
  unfold baseS
  split
  · simp
  · split
    · rw [updAt_length]; omega
    · split
      · rw [updAt_length]; omega
      · omega
theorem giftL_length (es : List Entry) : (giftL es).length ≤ es.length := by
  unfold giftL
  suffices h : ∀ (es seen : List Entry) (gs : List Gift), (foldG giftS seen gs es).length ≤ gs.length + es.length from by simpa using h es [] []
  intro es
  induction es with
  | nil => intro seen gs; simp [foldG]
  | cons x r ih =>
    intro seen gs
    have h1 : (giftS seen gs x).length ≤ gs.length + 1 := by unfold giftS; rw [meetS_length]; exact baseS_length seen gs x
    have := ih (seen ++ [x]) (giftS seen gs x)
    show (foldG giftS (seen ++ [x]) (giftS seen gs x) r).length ≤ _
    rw [List.length_cons]
    omega

/-! ### as of a day -/
def asOfL (es : List Entry) (day : Int) : List Entry := es.filter fun x => decide (x.day ≤ day)
theorem asOf_take {es : List Entry} (h : es.Pairwise fun a b => a.day ≤ b.day) (day : Int) : ∃ n, asOfL es day = es.take n := by
  induction es with
  | nil => exact ⟨0, rfl⟩
  | cons x r ih =>
    obtain ⟨h1, h2⟩ := List.pairwise_cons.1 h
    unfold asOfL at ih ⊢
    by_cases hx : x.day ≤ day
    · obtain ⟨n, hn⟩ := ih h2
      exact ⟨n + 1, by rw [List.filter_cons, if_pos (decide_eq_true hx), hn]; rfl⟩
    · refine ⟨0, ?_⟩
      rw [List.filter_cons, if_neg (by simpa using hx), List.take_zero, List.filter_eq_nil_iff]
      intro y hy
      have := h1 y hy
      simp; omega
theorem acc_asOf {es : List Entry} (h : Acc es) (day : Int) : Acc (asOfL es day) := by
  obtain ⟨n, hn⟩ := asOf_take (acc_ok h).days day
  rw [hn]; exact acc_front h n
theorem asOf_split {es : List Entry} (h : Acc es) {day later : Int} (hd : day ≤ later) : ∃ r, asOfL es later = asOfL es day ++ r := by
  have e : asOfL es day = asOfL (asOfL es later) day := by
    unfold asOfL
    rw [List.filter_filter]
    refine List.filter_congr fun x _ => ?_
    by_cases hx : x.day ≤ day
    · have : x.day ≤ later := by omega
      simp [hx, this]
    · simp [hx]
  obtain ⟨n, hn⟩ := asOf_take (acc_ok (acc_asOf h later)).days day
  refine ⟨(asOfL es later).drop n, ?_⟩
  rw [e, hn, List.take_append_drop]
theorem asOf_snoc (es : List Entry) (x : Entry) (day : Int) : asOfL (es ++ [x]) day = asOfL es day ++ if x.day ≤ day then [x] else [] := by
  unfold asOfL
  rw [List.filter_append, List.filter_cons, List.filter_nil]
  by_cases h : x.day ≤ day
  · rw [if_pos (decide_eq_true h), if_pos h]
  · rw [if_neg (by simpa using h), if_neg h]
theorem asOf_all {es : List Entry} {day : Int} (h : ∀ x ∈ es, x.day ≤ day) : asOfL es day = es := by
  unfold asOfL
  rw [List.filter_eq_self]
  intro x hx
  exact decide_eq_true (h x hx)
/-- What is added on a later day makes no difference. -/
theorem asOf_add (e : Int) {es : List Entry} {x : Entry} {day : Int} (h : day < x.day) : asOfL (addL e es x) day = asOfL es day := by
  unfold addL
  split
  · rw [asOf_snoc, if_neg (by omega), List.append_nil]
  · rfl

/-! ### questions -/
def forceB (day : Int) (w : Waiv) : Bool := decide (w.since ≤ day) && decide (day < w.til)
def waiversAt (es : List Entry) (day : Int) : List Waiv := (waivL (asOfL es day)).filter (forceB day)
structure Guest where
  person : Int
  state : Int
deriving DecidableEq
def guestZ : Guest := ⟨0, 0⟩
instance : Inhabited Guest := ⟨guestZ⟩
def Guest.cells (g : Guest) : List Value := [.int .i64 g.person, .int .i64 g.state]
def Guest.val (g : Guest) : Value := .agg g.cells.toArray
def coversB (w : Waiv) (u o : Guest) : Bool := decide (w.giver = u.state) && (decide (w.taker = o.state) && ((decide (w.under = 0) || decide (w.under = u.person)) && (decide (w.over = 0) || decide (w.over = o.person))))
def coversAt (es : List Entry) (u o : Guest) (day : Int) : Bool := (waiversAt es day).any fun w => coversB w u o
structure IPair where
  a : Int
  b : Int
deriving DecidableEq
def pairZ : IPair := ⟨0, 0⟩
instance : Inhabited IPair := ⟨pairZ⟩
def IPair.cells (p : IPair) : List Value := [.int .i64 p.a, .int .i64 p.b]
def IPair.val (p : IPair) : Value := .agg p.cells.toArray
def rowPairs (ws : List Waiv) (g : List Guest) (a : Nat) : List IPair := (List.range g.length).flatMap fun b => if ws.any (fun w => coversB w (g.getD a guestZ) (g.getD b guestZ)) = true then [⟨(a : Int), (b : Int)⟩] else []
def pairsL (ws : List Waiv) (g : List Guest) : List IPair := (List.range g.length).flatMap fun a => rowPairs ws g a
def pairsAt (es : List Entry) (g : List Guest) (day : Int) : List IPair := if g.length > 24 then [] else pairsL (waiversAt es day) g
def dueLt (a b : Due) : Bool := decide (a.cred < b.cred) || (decide (a.cred = b.cred) && decide (a.debt < b.debt))
def insDue (d : Due) : List Due → List Due
  | [] => [d]
  | x :: r => if dueLt d x = true then d :: x :: r else x :: insDue d r
def sortDue (l : List Due) : List Due := l.foldl (fun acc d => insDue d acc) []
def duesAt (es : List Entry) (day : Int) : List Due := sortDue (dueL (asOfL es day))
def owesL (l : List Due) (c d : Int) : Option Due := l.find? fun x => decide (x.cred = c ∧ x.debt = d)
def owesAt (es : List Entry) (debt cred day : Int) : Due × Bool := match owesL (dueL (asOfL es day)) cred debt with
  | some d => (d, true)
  | none => (dueZ, false)
def giftsAt (es : List Entry) (s day : Int) : List Gift := (giftL (asOfL es day)).filter fun g => decide (g.frm = s) || decide (g.to = s)
def debtB (g : Gift) : Bool := decide (g.returns = 0) && decide (g.state = 2)
def debtW (gs : List Gift) (frm to : Int) (g : Gift) : Int := if debtB g = true ∧ g.frm = to ∧ g.to = frm then max 0 (g.worth - metL gs g.id) else 0
def debtL (gs : List Gift) (frm to : Int) : Int := (gs.map (debtW gs frm to)).sum
def debtAt (es : List Entry) (frm to day : Int) : Int := debtL (giftL (asOfL es day)) frm to
def overdueAt (es : List Entry) (day : Int) : List Gift := (giftL (asOfL es day)).filter fun g => debtB g && decide (day > g.answered + 365)
structure Sight where
  entry : Int
  kind : Int
  day : Int
  a : Int
  b : Int
  n : Int
deriving DecidableEq
def sightZ : Sight := ⟨0, 0, 0, 0, 0, 0⟩
instance : Inhabited Sight := ⟨sightZ⟩
def Sight.cells (s : Sight) : List Value := [.int .i64 s.entry, .int .u8 s.kind, .int .i64 s.day, .int .i64 s.a, .int .i64 s.b, .int .i64 s.n]
def Sight.val (s : Sight) : Value := .agg s.cells.toArray
/-- What a state sees of an entry: its kind, day and three numbers; nothing, if it is about a gift of others. -/
def seeX (ws : List Waiv) (gs : List Gift) (state : Int) (x : Entry) : Option (Int × Int × Int × Int × Int) :=
  if x.kind = 1 ∨ x.kind = 2 then some (x.kind, x.day, x.a, 0, x.n)
  else if x.kind = 3 ∨ x.kind = 4 then some (x.kind, x.day, (atN ws x.w.id).giver, (atN ws x.w.id).taker, (atN ws x.w.id).id)
  else if (atN gs x.g.id).frm = state ∨ (atN gs x.g.id).to = state then some (x.kind, x.day, (atN gs x.g.id).frm, (atN gs x.g.id).to, (atN gs x.g.id).worth) else none
def numS (l : List (Int × Int × Int × Int × Int)) : List Sight := l.zipIdx.map fun p => ⟨(p.2 : Int), p.1.1, p.1.2.1, p.1.2.2.1, p.1.2.2.2.1, p.1.2.2.2.2⟩
def sightsL (es : List Entry) (state : Int) : List (Int × Int × Int × Int × Int) := es.filterMap (seeX (waivL es) (giftL es) state)
def sightAt (es : List Entry) (state day : Int) : List Sight := numS (sightsL (asOfL es day) state)

end Go.Proofs.YtcnbpfecgokhiaaGreatDoor

namespace Go.Proofs.YtcnbpfecgokhiaaGreatDoor
open Go.Eng Go.RowKit

/-! ### waivers that end -/
def amongB (l : List Waiv) (id : Int) : Bool := l.any fun w => decide (w.id = id)
theorem among_iff {l : List Waiv} {id : Int} : amongB l id = true ↔ ∃ w ∈ l, w.id = id := by
  unfold amongB; rw [List.any_eq_true]; simp
theorem end_parts {sg : Int} {es : List Entry} {day id : Int} (h : doE sg es (endE day id) = 0) : lastDay es ≤ day ∧ ∃ k, ∃ hk : k < (waivL es).length, id = ((k + 1 : Nat) : Int) ∧ day < (waivL es)[k].til := by
  obtain ⟨hf, hl, hr⟩ := do_zero h
  obtain ⟨hok, _, _⟩ := form_okE hf
  have hid : 1 ≤ id := by
    unfold okE at hok
    rw [if_neg (by show ¬ (4 : Int) = 1; decide), if_neg (by show ¬ (4 : Int) = 2; decide), if_neg (by show ¬ (4 : Int) = 3; decide), if_pos (show (endE day id).kind = 4 from rfl), decide_eq_true_eq] at hok
    exact hok.1
  unfold refusedE at hr
  rw [if_neg (by show ¬ (4 : Int) = 3; decide), if_pos (show (endE day id).kind = 4 from rfl)] at hr
  have hr : (if id > (waivL es).length then (5 : Int) else if (atN (waivL es) id).til ≤ day then 8 else 0) = 0 := hr
  split at hr
  · cases hr
  rename_i r1
  split at hr
  · cases hr
  rename_i r2
  obtain ⟨k, hk, he⟩ := num_of (n := (waivL es).length) (i := id) hid (by omega)
  refine ⟨hl, k, hk, he, ?_⟩
  rw [he, atN_get hk] at r2
  omega
theorem ends_no {sg : Int} {es : List Entry} {day id at_ : Int} (h : doE sg es (endE day id) ≠ 0) : addL (doE sg es (endE day id)) es (endE day id) = es := if_neg h
theorem ends_yes {sg : Int} {es : List Entry} (hA : Acc es) {en id day : Int} (h : doE sg es (endE en id) = 0) :
    amongB (waiversAt (addL (doE sg es (endE en id)) es (endE en id)) day) id = (amongB (waiversAt es day) id && decide (day < en)) := by
  obtain ⟨hl, k, hk, he, ht⟩ := end_parts h
  have hok := acc_ok hA
  by_cases hd : day < en
  · rw [decide_eq_true hd, Bool.and_true]
    unfold waiversAt
    rw [asOf_add _ (by show day < en; exact hd)]
  · rw [decide_eq_false hd, Bool.and_false]
    have hall : asOfL es day = es := asOf_all fun x hx => by have := hok.last x hx; omega
    unfold addL
    rw [if_pos h]
    refine Bool.eq_false_iff.2 fun hc => ?_
    obtain ⟨w, hw, hid⟩ := among_iff.1 hc
    obtain ⟨hw, hf⟩ := List.mem_filter.1 hw
    rw [asOf_snoc, hall, if_pos (by show en ≤ day; omega), waivL_snoc] at hw
    have hs : waivS (waivL es) (endE en id) = (waivL es).set k (endW en (waivL es)[k]) := by
      unfold waivS
      rw [if_neg (by show ¬ (4 : Int) = 3; decide), if_pos (show (endE en id).kind = 4 from rfl)]
      show updAt (waivL es) id (endW en) = _
      rw [he, updAt_eq hk]
    rw [hs] at hw
    unfold forceB at hf
    simp only [Bool.and_eq_true, decide_eq_true_eq] at hf
    rcases mem_set_iff hw with rfl | ⟨j, hj, hjk, rfl⟩
    · unfold endW at hf
      simp only at hf
      omega
    · have := hok.wids j hj
      omega

/-! ### later days -/
def laterB (day : Int) (o : Opn) : Bool := decide (day < o.x.day) && (!decide (opK o = 1) || decide (day < o.x.w.day))
theorem op_day {es : List Entry} {o : Opn} {day : Int} (h : laterB day o = true) : day < (opE es o).day := by
  unfold laterB at h
  simp only [Bool.and_eq_true, Bool.or_eq_true, Bool.not_eq_true', decide_eq_true_eq, decide_eq_false_iff_not] at h
  obtain ⟨h1, h2⟩ := h
  unfold opE
  split
  · rename_i hq
    rcases h2 with h2 | h2
    · exact absurd hq h2
    · exact h2
  · split
    · exact h1
    · split
      · exact h1
      · split
        · exact h1
        · split
          · exact h1
          · split
            · exact h1
            · split
              · exact h1
              · exact h1
def laterS (f : List Fact) (day : Int) (es : List Entry) (o : Opn) : List Entry := if laterB day o = true then didL f es o else es
def laterFold (f : List Fact) (day : Int) (es : List Entry) (s : List Opn) : List Entry := s.foldl (laterS f day) es
theorem later_same {f : List Fact} {day : Int} : ∀ (s : List Opn) (es : List Entry), asOfL (laterFold f day es s) day = asOfL es day
  | [], es => rfl
  | o :: s, es => by
    show asOfL (laterFold f day (laterS f day es o) s) day = _
    rw [later_same s]
    unfold laterS
    split
    · rename_i h; exact asOf_add _ (op_day h)
    · rfl
theorem later_acc {f : List Fact} {day : Int} : ∀ (s : List Opn) {es : List Entry}, Acc es → Acc (laterFold f day es s) ∧ (laterFold f day es s).length ≤ es.length + s.length
  | [], es, h => ⟨h, by simp [laterFold]⟩
  | o :: s, es, h => by
    have h1 : Acc (laterS f day es o) := by
      unfold laterS
      split
      · exact acc_did h o
      · exact h
    have h2 : (laterS f day es o).length ≤ es.length + 1 := by
      unfold laterS
      split
      · exact add_length _ _ _
      · omega
    obtain ⟨a, b⟩ := later_acc (f := f) (day := day) s h1
    refine ⟨a, ?_⟩
    show (laterFold f day (laterS f day es o) s).length ≤ _
    rw [List.length_cons]
    omega
theorem later_take {f : List Fact} {day : Int} {es : List Entry} {s : List Opn} {i : Nat} (hi : i < s.length) : laterFold f day es (s.take (i + 1)) = laterS f day (laterFold f day es (s.take i)) s[i] := by
  unfold laterFold
  rw [List.take_succ_eq_append_getElem hi, List.foldl_append]; rfl

/-! ### pairs -/
theorem mem_rowPairs {ws : List Waiv} {g : List Guest} {a : Nat} {p : IPair} : p ∈ rowPairs ws g a ↔ ∃ b, ∃ hb : b < g.length, p = ⟨(a : Int), (b : Int)⟩ ∧ ws.any (fun w => coversB w (g.getD a guestZ) g[b]) = true := by
  unfold rowPairs
  rw [List.mem_flatMap]
  constructor
  · rintro ⟨b, hb, h⟩
    have hb := List.mem_range.1 hb
    split at h
    · rename_i hc
      rw [List.getD_eq_getElem?_getD (l := g) (i := b), List.getElem?_eq_getElem hb] at hc
      exact ⟨b, hb, List.mem_singleton.1 h, hc⟩
    · cases h
  · rintro ⟨b, hb, rfl, h⟩
    refine ⟨b, List.mem_range.2 hb, ?_⟩
    rw [if_pos (by rw [List.getD_eq_getElem?_getD (l := g) (i := b), List.getElem?_eq_getElem hb]; exact h)]
    simp
theorem mem_pairsL {ws : List Waiv} {g : List Guest} {p : IPair} : p ∈ pairsL ws g ↔ ∃ a, ∃ ha : a < g.length, ∃ b, ∃ hb : b < g.length, p = ⟨(a : Int), (b : Int)⟩ ∧ ws.any (fun w => coversB w g[a] g[b]) = true := by
  unfold pairsL
  rw [List.mem_flatMap]
  constructor
  · rintro ⟨a, ha, h⟩
    have ha := List.mem_range.1 ha
    obtain ⟨b, hb, e, h⟩ := mem_rowPairs.1 h
    rw [List.getD_eq_getElem?_getD, List.getElem?_eq_getElem ha] at h
    exact ⟨a, ha, b, hb, e, h⟩
  · rintro ⟨a, ha, b, hb, e, h⟩
    exact ⟨a, List.mem_range.2 ha, mem_rowPairs.2 ⟨b, hb, e, by rw [List.getD_eq_getElem?_getD, List.getElem?_eq_getElem ha]; exact h⟩⟩
theorem pairs_has {ws : List Waiv} {g : List Guest} {a b : Nat} (ha : a < g.length) (hb : b < g.length) : (pairsL ws g).any (fun p => decide (p = ⟨(a : Int), (b : Int)⟩)) = ws.any fun w => coversB w g[a] g[b] := by
  rw [Bool.eq_iff_iff, List.any_eq_true]
  constructor
  · rintro ⟨p, hp, e⟩
    have e := of_decide_eq_true e
    subst e
    obtain ⟨a', ha', b', hb', e, h⟩ := mem_pairsL.1 hp
    injection e with e1 e2
    have : a' = a := by omega
    subst this
    have : b' = b := by omega
    subst this
    exact h
  · intro h
    exact ⟨_, mem_pairsL.2 ⟨a, ha, b, hb, rfl, h⟩, decide_eq_true rfl⟩

theorem grant_parts {sg : Int} {es : List Entry} {w : Waiv} (h : doE sg es (grantE es w) = 0) : lastDay es ≤ w.day ∧ rightW { w with id := (((waivL es).length + 1 : Nat) : Int) } = true := by
  obtain ⟨hf, hl, hr⟩ := do_zero h
  obtain ⟨hok, _, _⟩ := form_okE hf
  refine ⟨hl, ?_⟩
  unfold okE at hok
  rw [if_neg (by show ¬ (3 : Int) = 1; decide), if_neg (by show ¬ (3 : Int) = 2; decide), if_pos (show (grantE es w).kind = 3 from rfl), Bool.and_eq_true] at hok
  exact hok.1
theorem grant_at {sg : Int} {es : List Entry} (hA : Acc es) {w : Waiv} {day : Int} (h : doE sg es (grantE es w) = 0) (hd : w.day ≤ day) :
    waiversAt (addL (doE sg es (grantE es w)) es (grantE es w)) day = waiversAt es day ++ if forceB day w = true then [{ w with id := (((waivL es).length + 1 : Nat) : Int) }] else [] := by
  obtain ⟨hl, _⟩ := grant_parts h
  have hall : asOfL es day = es := asOf_all fun x hx => by have := (acc_ok hA).last x hx; omega
  unfold waiversAt addL
  rw [if_pos h, asOf_snoc, hall, if_pos (by show w.day ≤ day; exact hd), waivL_snoc]
  have : waivS (waivL es) (grantE es w) = waivL es ++ [{ w with id := (((waivL es).length + 1 : Nat) : Int) }] := if_pos rfl
  rw [this, List.filter_append, List.filter_cons, List.filter_nil]
  rfl
theorem grant_sub {sg : Int} {es : List Entry} (hA : Acc es) {w : Waiv} {day : Int} : ∀ x ∈ waiversAt es day, x ∈ waiversAt (addL (doE sg es (grantE es w)) es (grantE es w)) day := by
  intro x hx
  by_cases h : doE sg es (grantE es w) = 0
  · by_cases hd : w.day ≤ day
    · rw [grant_at hA h hd]; exact List.mem_append_left _ hx
    · unfold waiversAt at hx ⊢
      rw [asOf_add _ (by show day < w.day; omega)]
      exact hx
  · unfold addL
    rw [if_neg h]; exact hx
theorem any_sub {ws vs : List Waiv} (h : ∀ x ∈ ws, x ∈ vs) {p : Waiv → Bool} (ha : ws.any p = true) : vs.any p = true := by
  obtain ⟨x, hx, hp⟩ := List.any_eq_true.1 ha
  exact List.any_eq_true.2 ⟨x, h x hx, hp⟩
theorem pairs_sub {ws vs : List Waiv} (h : ∀ x ∈ ws, x ∈ vs) {g : List Guest} : ∀ p ∈ pairsL ws g, p ∈ pairsL vs g := by
  intro p hp
  obtain ⟨a, ha, b, hb, e, h1⟩ := mem_pairsL.1 hp
  exact mem_pairsL.2 ⟨a, ha, b, hb, e, any_sub h h1⟩
theorem grant_covers {sg : Int} {es : List Entry} (hA : Acc es) {w : Waiv} {day : Int} (h : doE sg es (grantE es w) = 0) (hu : w.under = 0) (ho : w.over = 0) (hs : w.since ≤ day) (ht : day < w.til) {u o : Guest} (h1 : u.state = w.giver) (h2 : o.state = w.taker) :
    (waiversAt (addL (doE sg es (grantE es w)) es (grantE es w)) day).any (fun x => coversB x u o) = true := by
  obtain ⟨_, hr⟩ := grant_parts h
  have hd : w.day ≤ day := by
    unfold rightW at hr
    simp only [Bool.and_eq_true, decide_eq_true_eq] at hr
    have := hr.1.1.2
    have h3 : w.day ≤ w.since := this
    omega
  rw [grant_at hA h hd]
  have hf : forceB day w = true := by unfold forceB; rw [decide_eq_true hs, decide_eq_true ht]; rfl
  rw [if_pos hf, List.any_append, List.any_cons]
  have : coversB { w with id := (((waivL es).length + 1 : Nat) : Int) } u o = true := by
    unfold coversB
    simp [h1, h2, hu, ho]
  rw [this]; simp

/-! ### dues between two states -/
def pairW (a b : Int) (w : Waiv) : Bool := decide (w.giver = a ∧ w.taker = b ∨ w.giver = b ∧ w.taker = a)
def pairD (a b : Int) (d : Due) : Bool := decide (d.cred = a ∧ d.debt = b ∨ d.cred = b ∧ d.debt = a)
def openW (o : Waiv) : List Due := if o.id = 0 then [] else [⟨o.giver, o.taker, o.id⟩]
/-- The waiver that is open between two states: none any more if it does not fit. -/
def openS (a b : Int) (o : Option Waiv) (x : Entry) : Option Waiv :=
  match o with
  | none => none
  | some o => if x.kind = 3 ∧ pairW a b x.w = true then (if o.id = 0 then some x.w else if o.giver = x.w.taker then some waivZ else none) else some o
def openL (a b : Int) (es : List Entry) : Option Waiv := es.foldl (openS a b) (some waivZ)
theorem openL_snoc (a b : Int) (es : List Entry) (x : Entry) : openL a b (es ++ [x]) = openS a b (openL a b es) x := by simp [openL]
theorem open_law {a b : Int} (hab : a ≠ b) {es : List Entry} (h : Acc es) : ∃ o, openL a b es = some o ∧ (dueL es).filter (pairD a b) = openW o ∧ (o.id = 0 ∨ pairW a b o = true) := by
  induction h with
  | nil => exact ⟨waivZ, rfl, rfl, .inl rfl⟩
  | @snoc es x sg hA hx ih =>
    obtain ⟨o, ho, hd, hp⟩ := ih
    obtain ⟨hf, hl, hr⟩ := do_zero hx
    rw [openL_snoc, ho, dueL_snoc]
    unfold openS
    simp only
    by_cases k3 : x.kind = 3
    · rw [if_pos k3]
      unfold refusedE at hr
      rw [if_pos k3] at hr
      unfold grantedE at hr
      split at hr
      · cases hr
      split at hr
      · cases hr
      rename_i hid
      have hid : x.w.id = (waivL es).length + 1 := Decidable.not_not.1 hid
      split at hr
      · rename_i r3; exact absurd hr r3
      split at hr
      · cases hr
      rename_i r4
      have hno : ∀ y ∈ dueL es, ¬ (y.cred = x.w.giver ∧ y.debt = x.w.taker) := fun y hy e => r4 (owes_iff.2 ⟨y, hy, e⟩)
      by_cases hpw : pairW a b x.w = true
      · rw [if_pos ⟨k3, hpw⟩]
        have hpw' := of_decide_eq_true hpw
        have hset : ∀ d : Due, pairD a b d = true ↔ (d.cred = x.w.giver ∧ d.debt = x.w.taker) ∨ (d.cred = x.w.taker ∧ d.debt = x.w.giver) := fun d => by
          unfold pairD
          rw [decide_eq_true_eq]
          omega
        by_cases h0 : o.id = 0
        · rw [if_pos h0]
          refine ⟨x.w, rfl, ?_, .inr hpw⟩
          have hnil : (dueL es).filter (pairD a b) = [] := by rw [hd]; unfold openW; rw [if_pos h0]
          have hnone : ∀ d ∈ dueL es, ¬ pairD a b d = true := List.filter_eq_nil_iff.1 hnil
          have hnb : ¬ (dueL es).any (fun d => decide (d.cred = x.w.taker ∧ d.debt = x.w.giver)) = true := fun hc => by
            obtain ⟨d, hd1, hd2⟩ := List.any_eq_true.1 hc
            exact hnone d hd1 ((hset d).2 (.inr (of_decide_eq_true hd2)))
          unfold dueS
          rw [if_neg hnb, List.filter_append, hnil, List.nil_append, List.filter_cons, if_pos ((hset _).2 (.inl ⟨rfl, rfl⟩)), List.filter_nil]
          unfold openW
          rw [if_neg (by omega)]
        · rw [if_neg h0]
          have hone : (dueL es).filter (pairD a b) = [⟨o.giver, o.taker, o.id⟩] := by rw [hd]; unfold openW; rw [if_neg h0]
          have hmem : (⟨o.giver, o.taker, o.id⟩ : Due) ∈ (dueL es).filter (pairD a b) := by rw [hone]; simp
          obtain ⟨hm1, hm2⟩ := List.mem_filter.1 hmem
          have hgt : o.giver = x.w.taker ∧ o.taker = x.w.giver := by
            rcases (hset _).1 hm2 with hh | hh
            · exact absurd hh (hno _ hm1)
            · exact hh
          rw [if_pos hgt.1]
          refine ⟨waivZ, rfl, ?_, .inl rfl⟩
          have hb : (dueL es).any (fun d => decide (d.cred = x.w.taker ∧ d.debt = x.w.giver)) = true := List.any_eq_true.2 ⟨_, hm1, decide_eq_true hgt⟩
          unfold dueS
          rw [if_pos hb, List.filter_filter]
          show _ = []
          rw [List.filter_eq_nil_iff]
          intro d hd1 hc
          simp only [Bool.and_eq_true, Bool.not_eq_true', decide_eq_false_iff_not] at hc
          rcases (hset d).1 hc.1 with hh | hh
          · exact hno d hd1 hh
          · exact hc.2 hh
      · rw [if_neg (fun hh => hpw hh.2)]
        refine ⟨o, rfl, ?_, hp⟩
        rw [← hd]
        have hpw' : ¬ (x.w.giver = a ∧ x.w.taker = b ∨ x.w.giver = b ∧ x.w.taker = a) := fun hh => hpw (decide_eq_true hh)
        unfold dueS
        split
        · rw [List.filter_filter]
          refine List.filter_congr fun d _ => ?_
          by_cases hq : d.cred = x.w.taker ∧ d.debt = x.w.giver
          · have : pairD a b d = false := decide_eq_false (by omega)
            rw [this]; rfl
          · rw [decide_eq_false hq, Bool.not_false, Bool.and_true]
        · rw [List.filter_append, List.filter_cons, if_neg, List.filter_nil, List.append_nil]
          intro hh
          have := of_decide_eq_true hh
          exact hpw' this
    · rw [if_neg k3, if_neg (fun hh => k3 hh.1)]
      exact ⟨o, rfl, hd, hp⟩

theorem owes_find {l : List Due} {c d : Int} {x : Due} (h : owesL l c d = some x) : x ∈ l ∧ x.cred = c ∧ x.debt = d := by
  have h1 := List.find?_some h
  exact ⟨List.mem_of_find?_eq_some h, of_decide_eq_true h1⟩
theorem owes_none {l : List Due} {c d : Int} (h : owesL l c d = none) : ∀ x ∈ l, ¬ (x.cred = c ∧ x.debt = d) := by
  intro x hx
  have := List.find?_eq_none.1 h x hx
  simpa using this
/-- What is owed between two states, read off the open waiver. -/
theorem returns_law {a b : Int} (hab : a ≠ b) {l : List Due} {o : Waiv} (hd : l.filter (pairD a b) = openW o) (hp : o.id = 0 ∨ pairW a b o = true) :
    (owesL l b a = none ∨ owesL l a b = none) ∧ (o.id = 0 → owesL l b a = none ∧ owesL l a b = none) ∧
    (o.id ≠ 0 → (owesL l b a ≠ none ∨ owesL l a b ≠ none) ∧ (∀ x, owesL l b a = some x → x = ⟨o.giver, o.taker, o.id⟩) ∧ (∀ x, owesL l a b = some x → x = ⟨o.giver, o.taker, o.id⟩)) := by
  have m1 : ∀ x, owesL l b a = some x → x ∈ openW o ∧ x.cred = b ∧ x.debt = a := fun x hx => by
    obtain ⟨h1, h2, h3⟩ := owes_find hx
    rw [← hd]
    exact ⟨List.mem_filter.2 ⟨h1, decide_eq_true (.inr ⟨h2, h3⟩)⟩, h2, h3⟩
  have m2 : ∀ x, owesL l a b = some x → x ∈ openW o ∧ x.cred = a ∧ x.debt = b := fun x hx => by
    obtain ⟨h1, h2, h3⟩ := owes_find hx
    rw [← hd]
    exact ⟨List.mem_filter.2 ⟨h1, decide_eq_true (.inl ⟨h2, h3⟩)⟩, h2, h3⟩
  have only : ∀ x ∈ openW o, x = ⟨o.giver, o.taker, o.id⟩ := fun x hx => by
    unfold openW at hx
    split at hx
    · cases hx
    · exact List.mem_singleton.1 hx
  have none0 : o.id = 0 → openW o = [] := fun h => if_pos h
  refine ⟨?_, fun h0 => ⟨?_, ?_⟩, fun h0 => ⟨?_, fun x hx => only x (m1 x hx).1, fun x hx => only x (m2 x hx).1⟩⟩
  · cases h1 : owesL l b a with
    | none => exact .inl rfl
    | some x =>
      cases h2 : owesL l a b with
      | none => exact .inr rfl
      | some y =>
        obtain ⟨a1, a2, a3⟩ := m1 x h1
        obtain ⟨b1, b2, b3⟩ := m2 y h2
        have e1 := only x a1
        have e2 := only y b1
        rw [e1] at a2
        rw [e2] at b2
        exact absurd (b2.symm.trans a2) hab
  · cases h1 : owesL l b a with
    | none => rfl
    | some x => have := (m1 x h1).1; rw [none0 h0] at this; cases this
  · cases h1 : owesL l a b with
    | none => rfl
    | some x => have := (m2 x h1).1; rw [none0 h0] at this; cases this
  · rcases hp with hp | hp
    · exact absurd hp h0
    · have hmem : (⟨o.giver, o.taker, o.id⟩ : Due) ∈ l := by
        have : (⟨o.giver, o.taker, o.id⟩ : Due) ∈ openW o := by unfold openW; rw [if_neg h0]; simp
        rw [← hd] at this
        exact (List.mem_filter.1 this).1
      rcases of_decide_eq_true hp with ⟨h1, h2⟩ | ⟨h1, h2⟩
      · right
        intro hn
        exact owes_none hn _ hmem ⟨h1, h2⟩
      · left
        intro hn
        exact owes_none hn _ hmem ⟨h1, h2⟩

end Go.Proofs.YtcnbpfecgokhiaaGreatDoor

namespace Go.Proofs.YtcnbpfecgokhiaaGreatDoor
open Go.Eng Go.RowKit

/-! ### a list, and a longer one later -/
inductive Ext2 {α : Type} (R : α → α → Prop) : List α → List α → Prop
  | nil (l : List α) : Ext2 R [] l
  | cons {x y : α} {r s : List α} : R x y → Ext2 R r s → Ext2 R (x :: r) (y :: s)
theorem Ext2.refl {α : Type} {R : α → α → Prop} (h : ∀ x, R x x) : ∀ (l : List α), Ext2 R l l
  | [] => .nil _
  | x :: r => .cons (h x) (Ext2.refl h r)
theorem Ext2.trans {α : Type} {R : α → α → Prop} (h : ∀ x y z, R x y → R y z → R x z) : ∀ {a b c : List α}, Ext2 R a b → Ext2 R b c → Ext2 R a c
  | _, _, _, .nil _, _ => .nil _
  | _, _, _, .cons h1 h2, .cons h3 h4 => .cons (h _ _ _ h1 h3) (Ext2.trans h h2 h4)
theorem Ext2.append {α : Type} {R : α → α → Prop} (h : ∀ x, R x x) : ∀ (l r : List α), Ext2 R l (l ++ r)
  | [], r => .nil _
  | x :: l, r => .cons (h x) (Ext2.append h l r)
theorem Ext2.set {α : Type} {R : α → α → Prop} (h : ∀ x, R x x) : ∀ {l : List α} {k : Nat} (hk : k < l.length) {y : α}, R l[k] y → Ext2 R l (l.set k y)
  | x :: l, 0, _, y, hy => .cons hy (Ext2.refl h l)
  | x :: l, k + 1, hk, y, hy => .cons (h x) (Ext2.set h (l := l) (k := k) (by simpa using hk) hy)
theorem Ext2.filter {α : Type} {R : α → α → Prop} {p : α → Bool} (h : ∀ x y, R x y → p x = p y) : ∀ {a b : List α}, Ext2 R a b → Ext2 R (a.filter p) (b.filter p)
  | _, _, .nil _ => .nil _
  | _, _, .cons (x := x) (y := y) h1 h2 => by
    rw [List.filter_cons, List.filter_cons, ← h _ _ h1]
    split
    · exact .cons h1 (Ext2.filter h h2)
    · exact Ext2.filter h h2
theorem Ext2.get {α : Type} {R : α → α → Prop} : ∀ {a b : List α}, Ext2 R a b → ∀ i (h : i < a.length), ∃ h' : i < b.length, R a[i] b[i]
  | _, _, .nil _, i, h => absurd h (Nat.not_lt_zero _)
  | _, _, .cons h1 h2, 0, _ => ⟨by simp, h1⟩
  | _, _, .cons h1 h2, i + 1, h => by
    obtain ⟨h', hr⟩ := Ext2.get h2 i (by simpa using h)
    exact ⟨by simpa using h', hr⟩
theorem Ext2.length {α : Type} {R : α → α → Prop} : ∀ {a b : List α}, Ext2 R a b → a.length ≤ b.length
  | _, _, .nil _ => Nat.zero_le _
  | _, _, .cons _ h => by simpa using Ext2.length h

structure GLater (x y : Gift) : Prop where
  id : y.id = x.id
  frm : y.frm = x.frm
  to : y.to = x.to
  worth : y.worth = x.worth
  back : x.state = 4 → y.state = 4
  no : x.state = 3 → y.state = 3
theorem GLater.refl (x : Gift) : GLater x x := ⟨rfl, rfl, rfl, rfl, fun e => e, fun e => e⟩
theorem GLater.trans {x y z : Gift} (h : GLater x y) (k : GLater y z) : GLater x z := ⟨k.id.trans h.id, k.frm.trans h.frm, k.to.trans h.to, k.worth.trans h.worth, fun e => k.back (h.back e), fun e => k.no (h.no e)⟩
structure WLater (x y : Waiv) : Prop where
  id : y.id = x.id
  giver : y.giver = x.giver
  taker : y.taker = x.taker
theorem WLater.refl (x : Waiv) : WLater x x := ⟨rfl, rfl, rfl⟩
theorem WLater.trans {x y z : Waiv} (h : WLater x y) (k : WLater y z) : WLater x z := ⟨k.id.trans h.id, k.giver.trans h.giver, k.taker.trans h.taker⟩

theorem gifts_step {sg : Int} {es : List Entry} {x : Entry} (hA : Acc es) (hx : doE sg es x = 0) : Ext2 GLater (giftL es) (giftL (es ++ [x])) := by
  obtain ⟨hf, hl, hr⟩ := do_zero hx
  obtain ⟨hok, _, _⟩ := form_okE hf
  have hG := (acc_ok hA).gifts
  rw [giftL_snoc]
  unfold giftS meetS baseS
  rcases ok_kind hok with hk | hk | hk | hk | hk | hk | hk
  · simp only [hk, Int.reduceEq, if_false]; exact Ext2.refl GLater.refl _
  · simp only [hk, Int.reduceEq, if_false]; exact Ext2.refl GLater.refl _
  · simp only [hk, Int.reduceEq, if_false]; exact Ext2.refl GLater.refl _
  · simp only [hk, Int.reduceEq, if_false]; exact Ext2.refl GLater.refl _
  · simp only [hk, Int.reduceEq, if_true, if_false]; exact Ext2.append GLater.refl _ _
  · have hri : (if x.g.id > (giftL es).length then (5 : Int) else if ¬ (atN (giftL es) x.g.id).state = 1 then 8 else 0) = 0 := by
      unfold refusedE at hr
      rw [if_neg (by omega), if_neg (by omega), if_neg (by omega), if_pos (.inl hk)] at hr
      exact hr
    have hid : 1 ≤ x.g.id := by
      unfold okE at hok
      rw [if_neg (by omega), if_neg (by omega), if_neg (by omega), if_neg (by omega), if_neg (by omega), if_pos (.inl hk), decide_eq_true_eq] at hok
      omega
    obtain ⟨k, hkl, he, hs⟩ := gift_answered (x := x) hid hri
    simp only [hk, Int.reduceEq, if_true, if_false, he]
    rw [updAt_eq hkl]
    generalize giftL es = gs at *
    have hset : Ext2 GLater gs (gs.set k (takeG x.day gs[k])) := Ext2.set GLater.refl hkl ⟨rfl, rfl, rfl, rfl, fun e => by omega, fun e => by omega⟩
    have hks : k < (gs.set k (takeG x.day gs[k])).length := by simpa using hkl
    have hat : atN (gs.set k (takeG x.day gs[k])) ((k + 1 : Nat) : Int) = takeG x.day gs[k] := by rw [atN_get hks]; simp
    rw [hat]
    have hret : (takeG x.day gs[k]).returns = gs[k].returns := rfl
    rw [hret]
    rcases hG.refs k hkl with h0 | ⟨j, hj, h1, h2, h3, h4, h5⟩
    · rw [if_pos h0]; exact hset
    · rw [if_neg (by omega)]
      split
      · have hjs : j < (gs.set k (takeG x.day gs[k])).length := by simpa using hj
        have gj : (gs.set k (takeG x.day gs[k]))[j] = gs[j] := by rw [List.getElem_set, if_neg (fun e => h2 e.symm)]
        rw [h1, updAt_eq hjs]
        refine Ext2.trans (R := GLater) (fun _ _ _ => GLater.trans) hset (Ext2.set GLater.refl hjs ⟨rfl, rfl, rfl, rfl, fun _ => rfl, fun e => ?_⟩)
        rw [gj] at e
        omega
      · exact hset
  · have hri : (if x.g.id > (giftL es).length then (5 : Int) else if ¬ (atN (giftL es) x.g.id).state = 1 then 8 else 0) = 0 := by
      unfold refusedE at hr
      rw [if_neg (by omega), if_neg (by omega), if_neg (by omega), if_pos (.inr hk)] at hr
      exact hr
    have hid : 1 ≤ x.g.id := by
      unfold okE at hok
      rw [if_neg (by omega), if_neg (by omega), if_neg (by omega), if_neg (by omega), if_neg (by omega), if_pos (.inr hk), decide_eq_true_eq] at hok
      omega
    obtain ⟨k, hkl, he, hs⟩ := gift_answered (x := x) hid hri
    simp only [hk, Int.reduceEq, if_true, if_false, he]
    rw [updAt_eq hkl]
    exact Ext2.set GLater.refl hkl ⟨rfl, rfl, rfl, rfl, fun e => by omega, fun e => rfl⟩
theorem waivs_step {sg : Int} {es : List Entry} {x : Entry} (hx : doE sg es x = 0) : Ext2 WLater (waivL es) (waivL (es ++ [x])) := by
  obtain ⟨hf, hl, hr⟩ := do_zero hx
  obtain ⟨hok, _, _⟩ := form_okE hf
  rw [waivL_snoc]
  unfold waivS
  split
  · exact Ext2.append WLater.refl _ _
  · split
    · rename_i k3 k4
      have hri : (if x.w.id > (waivL es).length then (5 : Int) else if (atN (waivL es) x.w.id).til ≤ x.day then 8 else 0) = 0 := by
        unfold refusedE at hr
        rw [if_neg (by omega), if_pos k4] at hr
        exact hr
      have hid : 1 ≤ x.w.id := by
        unfold okE at hok
        rw [if_neg (by omega), if_neg (by omega), if_neg (by omega), if_pos k4, decide_eq_true_eq] at hok
        omega
      split at hri
      · cases hri
      rename_i r1
      obtain ⟨k, hk, he⟩ := num_of (n := (waivL es).length) (i := x.w.id) hid (by omega)
      rw [he, updAt_eq hk]
      exact Ext2.set WLater.refl hk ⟨rfl, rfl, rfl⟩
    · exact Ext2.refl WLater.refl _
theorem later_gifts : ∀ (r : List Entry) {es : List Entry}, Acc (es ++ r) → Ext2 GLater (giftL es) (giftL (es ++ r)) ∧ Ext2 WLater (waivL es) (waivL (es ++ r))
  | [], es, _ => by rw [List.append_nil]; exact ⟨Ext2.refl GLater.refl _, Ext2.refl WLater.refl _⟩
  | x :: r, es, h => by
    have e : es ++ x :: r = (es ++ [x]) ++ r := by simp
    rw [e] at h ⊢
    obtain ⟨hA, sg, hx⟩ := acc_inv (acc_take r h)
    obtain ⟨h1, h2⟩ := later_gifts r h
    exact ⟨Ext2.trans (R := GLater) (fun _ _ _ => GLater.trans) (gifts_step hA hx) h1, Ext2.trans (R := WLater) (fun _ _ _ => WLater.trans) (waivs_step hx) h2⟩

/-! ### debts -/
def sidesB (s : Int) (g : Gift) : Bool := decide (g.frm = s) || decide (g.to = s)
theorem giftsAt_eq (es : List Entry) (s day : Int) : giftsAt es s day = (giftL (asOfL es day)).filter (sidesB s) := rfl
/-- What the law counts as given back. -/
def backW (id : Int) (g : Gift) : Int := if g.returns = id ∧ g.state = 2 then g.worth else 0
def backSum (l : List Gift) (id : Int) : Int := (l.map (backW id)).sum
def owedB (a b : Int) (g : Gift) : Bool := decide (g.frm = b ∧ g.to = a ∧ g.returns = 0 ∧ g.state = 2)
def wantW (l : List Gift) (a b : Int) (g : Gift) : Int := if owedB a b g = true then g.worth - backSum l g.id else 0
def wantSum (l : List Gift) (a b : Int) (m : List Gift) : Int := (m.map (wantW l a b)).sum
theorem sum_filter {α : Type} {p : α → Bool} {f : α → Int} : ∀ {l : List α}, (∀ x ∈ l, p x = false → f x = 0) → ((l.filter p).map f).sum = (l.map f).sum
  | [], _ => rfl
  | x :: r, h => by
    have ih := sum_filter (p := p) (f := f) (l := r) fun y hy => h y (by simp [hy])
    rw [List.filter_cons]
    by_cases hp : p x = true
    · rw [if_pos hp, List.map_cons, List.sum_cons, List.map_cons, List.sum_cons, ih]
    · rw [if_neg hp, ih, List.map_cons, List.sum_cons, h x (by simp) (by simpa using hp)]; omega
theorem sum_congr {α : Type} {f g : α → Int} {l : List α} (h : ∀ x ∈ l, f x = g x) : (l.map f).sum = (l.map g).sum := by
  rw [List.map_congr_left h]
theorem back_met {gs : List Gift} (h : GiftsOk gs) {a b : Int} {i : Nat} (hi : i < gs.length) (ho : owedB a b gs[i] = true) : backSum (gs.filter (sidesB a)) gs[i].id = metL gs gs[i].id := by
  obtain ⟨h1, h2, h3, h4⟩ := of_decide_eq_true ho
  have hid := h.ids i hi
  have key : ∀ x ∈ gs, backW gs[i].id x = metW gs[i].id x ∧ (sidesB a x = false → backW gs[i].id x = 0) := fun x hx => by
    obtain ⟨j, hj, rfl⟩ := List.getElem_of_mem hx
    have hb := h.back j hj
    have hr := h.refs j hj
    refine ⟨?_, fun hs => ?_⟩
    · unfold backW metW metB
      by_cases hret : gs[j].returns = gs[i].id
      · have h5 : gs[j].state ≠ 4 := hb (by omega)
        simp [hret, h5]
      · simp [hret]
    · unfold backW
      rw [if_neg]
      rintro ⟨hret, _⟩
      rcases hr with hr | ⟨k, hk, e1, _, _, _, e2, e3⟩
      · omega
      · have : k = i := by omega
        subst this
        have hs1 : gs[j].frm = a := by omega
        unfold sidesB at hs
        rw [decide_eq_true hs1] at hs
        cases hs
  unfold backSum metL
  rw [sum_filter fun x hx hs => (key x hx).2 hs]
  exact sum_congr fun x hx => (key x hx).1
theorem debt_law {gs : List Gift} (h : GiftsOk gs) (a b : Int) : wantSum (gs.filter (sidesB a)) a b (gs.filter (sidesB a)) = debtL gs a b ∧ ∀ g ∈ gs.filter (sidesB a), owedB a b g = true → backSum (gs.filter (sidesB a)) g.id < g.worth := by
  have key : ∀ x ∈ gs, owedB a b x = true → backSum (gs.filter (sidesB a)) x.id = metL gs x.id ∧ metL gs x.id < x.worth := fun x hx ho => by
    obtain ⟨i, hi, rfl⟩ := List.getElem_of_mem hx
    refine ⟨back_met h hi ho, ?_⟩
    obtain ⟨h1, h2, h3, h4⟩ := of_decide_eq_true ho
    have hm := h.marks i hi h3
    refine Decidable.byContradiction fun hc => ?_
    have := hm.2 ⟨.inl h4, by omega⟩
    omega
  refine ⟨?_, fun g hg ho => ?_⟩
  · unfold wantSum debtL
    rw [sum_filter fun x hx hs => ?_]
    · refine sum_congr fun x hx => ?_
      unfold wantW debtW
      by_cases ho : owedB a b x = true
      · obtain ⟨k1, k2⟩ := key x hx ho
        obtain ⟨h1, h2, h3, h4⟩ := of_decide_eq_true ho
        rw [if_pos ho, if_pos ⟨by unfold debtB; rw [decide_eq_true h3, decide_eq_true h4]; rfl, h1, h2⟩, k1]
        omega
      · rw [if_neg ho, if_neg]
        rintro ⟨d1, d2, d3⟩
        unfold debtB at d1
        simp only [Bool.and_eq_true, decide_eq_true_eq] at d1
        exact ho (decide_eq_true ⟨d2, d3, d1.1, d1.2⟩)
    · unfold wantW
      rw [if_neg]
      intro ho
      have h2 : x.to = a := (of_decide_eq_true ho).2.1
      unfold sidesB at hs
      rw [decide_eq_true h2, Bool.or_true] at hs
      cases hs
  · obtain ⟨hg1, _⟩ := List.mem_filter.1 hg
    obtain ⟨k1, k2⟩ := key g hg1 ho
    omega
theorem debt_later {es : List Entry} (hA : Acc es) {day later a : Int} (hd : day ≤ later) : Ext2 GLater (giftsAt es a day) (giftsAt es a later) := by
  obtain ⟨r, hr⟩ := asOf_split hA hd
  have hA2 := acc_asOf hA later
  rw [hr] at hA2
  obtain ⟨h1, _⟩ := later_gifts r hA2
  rw [giftsAt_eq, giftsAt_eq, hr]
  refine Ext2.filter (fun x y h => ?_) h1
  unfold sidesB
  rw [h.frm, h.to]

end Go.Proofs.YtcnbpfecgokhiaaGreatDoor

namespace Go.Proofs.YtcnbpfecgokhiaaGreatDoor
open Go.Eng Go.RowKit

/-! ### lists -/
theorem snocInd {α : Type} {P : List α → Prop} (nil : P []) (snoc : ∀ l x, P l → P (l ++ [x])) (l : List α) : P l := by
  rw [← List.reverse_reverse l]
  induction l.reverse with
  | nil => exact nil
  | cons x r ih => rw [List.reverse_cons]; exact snoc _ _ ih
theorem pair_ne {α : Type} {R : α → α → Prop} (hs : ∀ x y, R x y → R y x) : ∀ {l : List α}, l.Pairwise (fun a b => ¬ R a b) → ∀ x ∈ l, ∀ y ∈ l, x ≠ y → ¬ R x y
  | [], _, x, hx, _, _, _ => by cases hx
  | a :: r, h, x, hx, y, hy, hne => by
    obtain ⟨h1, h2⟩ := List.pairwise_cons.1 h
    rcases List.mem_cons.1 hx with ex | hx'
    · rcases List.mem_cons.1 hy with ey | hy'
      · exact absurd (ex.trans ey.symm) hne
      · rw [ex]; exact h1 y hy'
    · rcases List.mem_cons.1 hy with ey | hy'
      · rw [ey]; exact fun e => h1 x hx' (hs _ _ e)
      · exact pair_ne hs h2 x hx' y hy' hne
theorem filterMap_same {α β : Type} {f g : α → Option β} : ∀ {l : List α}, (∀ x ∈ l, f x = g x) → l.filterMap f = l.filterMap g
  | [], _ => rfl
  | x :: r, h => by
    rw [List.filterMap_cons, List.filterMap_cons, h x (List.mem_cons_self ..), filterMap_same (fun y hy => h y (List.mem_cons_of_mem _ hy))]

/-! ### dues -/
def dueOf (w : Waiv) : Due := ⟨w.giver, w.taker, w.id⟩
theorem dueS_of (l : List Due) {w v : Waiv} (h : dueOf w = dueOf v) : dueS l w = dueS l v := by
  unfold dueOf at h
  injection h with h1 h2 h3
  unfold dueS
  rw [h1, h2, h3]
theorem fold_of : ∀ {a b : List Waiv} (l : List Due), a.map dueOf = b.map dueOf → a.foldl dueS l = b.foldl dueS l
  | [], [], _, _ => rfl
  | [], _ :: _, _, h => by simp at h
  | _ :: _, [], _, h => by simp at h
  | x :: a, y :: b, l, h => by
    rw [List.map_cons, List.map_cons] at h
    injection h with h1 h2
    rw [List.foldl_cons, List.foldl_cons, dueS_of l h1]
    exact fold_of _ h2
theorem waiv_grants : ∀ {es : List Entry}, (waivL es).map dueOf = (grantsL es).map dueOf := by
  intro es
  induction es using snocInd with
  | nil => rfl
  | snoc es x ih =>
    rw [waivL_snoc, grantsL_snoc]
    unfold waivS
    by_cases k3 : x.kind = 3
    · rw [if_pos k3, if_pos k3, List.map_append, List.map_append, ih]
    · rw [if_neg k3, if_neg k3, List.append_nil]
      split
      · rw [← ih]
        unfold updAt
        rw [List.map_set]
        apply List.ext_getElem?
        intro i
        rw [List.getElem?_set]
        split
        · rename_i hi
          subst hi
          split
          · rename_i hlt
            have hlt' : (x.w.id - 1).toNat < (waivL es).length := by simpa using hlt
            rw [List.getElem?_map, List.getElem?_eq_getElem hlt']
            unfold atN
            rw [List.getD_eq_getElem?_getD, List.getElem?_eq_getElem hlt']
            rfl
          · rename_i hlt
            rw [List.getElem?_eq_none (by simpa using hlt)]
        · rfl
      · exact ih
theorem owing_eq (es : List Entry) : (waivL es).foldl dueS [] = dueL es := fold_of [] waiv_grants

theorem mem_insDue {d x : Due} : ∀ {l : List Due}, x ∈ insDue d l ↔ x = d ∨ x ∈ l
  | [] => by simp [insDue]
  | y :: r => by
    unfold insDue
    split
    · simp
    · rw [List.mem_cons, mem_insDue (l := r), List.mem_cons]
      constructor
      · rintro (h | h | h)
        · exact .inr (.inl h)
        · exact .inl h
        · exact .inr (.inr h)
      · rintro (h | h | h)
        · exact .inr (.inl h)
        · exact .inl h
        · exact .inr (.inr h)
theorem insDue_perm (d : Due) : ∀ (l : List Due), (insDue d l).Perm (d :: l)
  | [] => List.Perm.refl _
  | x :: r => by
    unfold insDue
    split
    · exact List.Perm.refl _
    · exact (List.Perm.cons x (insDue_perm d r)).trans (List.Perm.swap d x r)
theorem sortDue_fold : ∀ (l acc : List Due), (l.foldl (fun acc d => insDue d acc) acc).Perm (acc ++ l)
  | [], acc => by simp
  | d :: l, acc => by
    rw [List.foldl_cons]
    refine (sortDue_fold l (insDue d acc)).trans ?_
    refine ((insDue_perm d acc).append_right l).trans ?_
    show (d :: (acc ++ l)).Perm (acc ++ d :: l)
    exact List.perm_middle.symm
theorem sortDue_perm (l : List Due) : (sortDue l).Perm l := by
  have := sortDue_fold l []
  simpa [sortDue] using this
theorem dueLt_iff {a b : Due} : dueLt a b = true ↔ a.cred < b.cred ∨ a.cred = b.cred ∧ a.debt < b.debt := by
  unfold dueLt
  simp
theorem insDue_sorted {d : Due} : ∀ {l : List Due}, l.Pairwise (fun a b => dueLt b a = false) → (insDue d l).Pairwise fun a b => dueLt b a = false
  | [], _ => by simp [insDue]
  | x :: r, h => by
    obtain ⟨h1, h2⟩ := List.pairwise_cons.1 h
    unfold insDue
    split
    · rename_i hd
      have hd' := dueLt_iff.1 hd
      refine List.pairwise_cons.2 ⟨fun y hy => ?_, h⟩
      refine Bool.eq_false_iff.2 fun hc => ?_
      have hc' := dueLt_iff.1 hc
      rcases List.mem_cons.1 hy with rfl | hy
      · omega
      · have h3 := h1 y hy
        have : ¬ (y.cred < x.cred ∨ y.cred = x.cred ∧ y.debt < x.debt) := fun hh => by rw [dueLt_iff.2 hh] at h3; cases h3
        omega
    · rename_i hd
      refine List.pairwise_cons.2 ⟨fun y hy => ?_, insDue_sorted h2⟩
      rcases mem_insDue.1 hy with rfl | hy
      · simpa using hd
      · exact h1 y hy
theorem sortDue_sorted (l : List Due) : (sortDue l).Pairwise fun a b => dueLt b a = false := by
  unfold sortDue
  suffices h : ∀ (l acc : List Due), acc.Pairwise (fun a b => dueLt b a = false) → (l.foldl (fun acc d => insDue d acc) acc).Pairwise fun a b => dueLt b a = false from h l [] List.Pairwise.nil
  intro l
  induction l with
  | nil => intro acc h; exact h
  | cons d r ih => intro acc h; exact ih _ (insDue_sorted h)
theorem sortDue_eq {l m : List Due} (hp : m.Perm l) (hs : m.Pairwise fun a b => dueLt b a = false) (hd : l.Pairwise fun a b => ¬ (a.cred = b.cred ∧ a.debt = b.debt)) : m = sortDue l := by
  have hp2 : m.Perm (sortDue l) := hp.trans (sortDue_perm l).symm
  refine List.Perm.eq_of_pairwise (le := fun a b => dueLt b a = false) (fun a b ha hb h1 h2 => ?_) hs (sortDue_sorted l) hp2
  have e1 : ¬ (b.cred < a.cred ∨ b.cred = a.cred ∧ b.debt < a.debt) := fun hh => by rw [dueLt_iff.2 hh] at h1; cases h1
  have e2 : ¬ (a.cred < b.cred ∨ a.cred = b.cred ∧ a.debt < b.debt) := fun hh => by rw [dueLt_iff.2 hh] at h2; cases h2
  have hk : a.cred = b.cred ∧ a.debt = b.debt := by omega
  have ha' := hp.mem_iff.1 ha
  have hb' := (sortDue_perm l).mem_iff.1 hb
  refine Decidable.byContradiction fun hne => ?_
  have hd' : l.Pairwise fun a b => ¬ (a.cred = b.cred ∧ a.debt = b.debt) := hd
  exact pair_ne (R := fun a b : Due => a.cred = b.cred ∧ a.debt = b.debt) (fun _ _ e => ⟨e.1.symm, e.2.symm⟩) hd' a ha' b hb' hne hk
theorem owes_sort {l : List Due} (hd : l.Pairwise fun a b => ¬ (a.cred = b.cred ∧ a.debt = b.debt)) (c d : Int) : owesL (sortDue l) c d = owesL l c d := by
  have uniq : ∀ x ∈ l, ∀ y ∈ l, x.cred = c ∧ x.debt = d → y.cred = c ∧ y.debt = d → x = y := fun x hx y hy h1 h2 => by
    refine Decidable.byContradiction fun hne => ?_
    exact pair_ne (R := fun a b : Due => a.cred = b.cred ∧ a.debt = b.debt) (fun _ _ e => ⟨e.1.symm, e.2.symm⟩) hd x hx y hy hne ⟨h1.1.trans h2.1.symm, h1.2.trans h2.2.symm⟩
  cases h1 : owesL l c d with
  | none =>
    cases h2 : owesL (sortDue l) c d with
    | none => rfl
    | some x =>
      obtain ⟨a1, a2⟩ := owes_find h2
      exact absurd a2 (owes_none h1 x ((sortDue_perm l).mem_iff.1 a1))
  | some x =>
    obtain ⟨a1, a2⟩ := owes_find h1
    cases h2 : owesL (sortDue l) c d with
    | none => exact absurd a2 (owes_none h2 x ((sortDue_perm l).mem_iff.2 a1))
    | some y =>
      obtain ⟨b1, b2⟩ := owes_find h2
      rw [uniq y ((sortDue_perm l).mem_iff.1 b1) x a1 b2 a2]

/-! ### debts without a bound below -/
def debtR (gs : List Gift) (frm to : Int) (g : Gift) : Int := if g.frm = to ∧ g.to = frm ∧ g.returns = 0 ∧ g.state = 2 then g.worth - metL gs g.id else 0
theorem debtR_eq {gs : List Gift} (h : GiftsOk gs) (frm to : Int) : (gs.map (debtR gs frm to)).sum = debtL gs frm to := by
  unfold debtL
  refine sum_congr fun x hx => ?_
  obtain ⟨i, hi, rfl⟩ := List.getElem_of_mem hx
  unfold debtR debtW debtB
  by_cases hc : gs[i].frm = to ∧ gs[i].to = frm ∧ gs[i].returns = 0 ∧ gs[i].state = 2
  · obtain ⟨c1, c2, c3, c4⟩ := hc
    rw [if_pos ⟨c1, c2, c3, c4⟩, if_pos ⟨by rw [decide_eq_true c3, decide_eq_true c4]; rfl, c1, c2⟩]
    have hm := h.marks i hi c3
    have : ¬ gs[i].worth ≤ metL gs gs[i].id := fun hh => by have := hm.2 ⟨.inl c4, hh⟩; omega
    omega
  · rw [if_neg hc, if_neg]
    rintro ⟨d1, d2, d3⟩
    simp only [Bool.and_eq_true, decide_eq_true_eq] at d1
    exact hc ⟨d2, d3, d1.1, d1.2⟩

/-! ### sights -/
theorem refers {es : List Entry} (h : Acc es) : ∀ x ∈ es, ((x.kind = 3 ∨ x.kind = 4) → ∃ k, k < (waivL es).length ∧ x.w.id = ((k + 1 : Nat) : Int)) ∧ ((x.kind = 5 ∨ x.kind = 6 ∨ x.kind = 7) → ∃ k, k < (giftL es).length ∧ x.g.id = ((k + 1 : Nat) : Int)) := by
  induction h with
  | nil => intro x hx; cases hx
  | @snoc es y sg hA hy ih =>
    have hg := (gifts_step hA hy).length
    have hw := (waivs_step hy).length
    intro x hx
    rcases List.mem_append.1 hx with hx | hx
    · obtain ⟨h1, h2⟩ := ih x hx
      exact ⟨fun hk => by obtain ⟨k, hk1, hk2⟩ := h1 hk; exact ⟨k, by omega, hk2⟩, fun hk => by obtain ⟨k, hk1, hk2⟩ := h2 hk; exact ⟨k, by omega, hk2⟩⟩
    · rw [List.mem_singleton.1 hx]
      obtain ⟨hf, hl, hr⟩ := do_zero hy
      obtain ⟨hok, _, _⟩ := form_okE hf
      constructor
      · rintro (k3 | k4)
        · unfold refusedE at hr
          rw [if_pos k3] at hr
          unfold grantedE at hr
          split at hr
          · cases hr
          split at hr
          · cases hr
          rename_i r2
          refine ⟨(waivL es).length, ?_, by have := Decidable.not_not.1 r2; omega⟩
          rw [waivL_snoc]
          unfold waivS
          rw [if_pos k3]; simp
        · unfold refusedE at hr
          rw [if_neg (by omega), if_pos k4] at hr
          have hid : 1 ≤ y.w.id := by
            unfold okE at hok
            rw [if_neg (by omega), if_neg (by omega), if_neg (by omega), if_pos k4, decide_eq_true_eq] at hok
            omega
          split at hr
          · cases hr
          obtain ⟨k, hk, he⟩ := num_of (n := (waivL es).length) (i := y.w.id) hid (by omega)
          exact ⟨k, by omega, he⟩
      · rintro (k5 | k67)
        · unfold refusedE at hr
          rw [if_neg (by omega), if_neg (by omega), if_pos k5] at hr
          unfold offeredE at hr
          split at hr
          · cases hr
          split at hr
          · cases hr
          rename_i r2
          refine ⟨(giftL es).length, ?_, by have := Decidable.not_not.1 r2; omega⟩
          rw [giftL_snoc]
          unfold giftS
          rw [meetS_length]
          unfold baseS
          rw [if_pos k5]; simp
        · unfold refusedE at hr
          rw [if_neg (by omega), if_neg (by omega), if_neg (by omega), if_pos k67] at hr
          have hid : 1 ≤ y.g.id := by
            unfold okE at hok
            rw [if_neg (by omega), if_neg (by omega), if_neg (by omega), if_neg (by omega), if_neg (by omega), if_pos k67, decide_eq_true_eq] at hok
            omega
          obtain ⟨k, hk, he, _⟩ := gift_answered (x := y) hid hr
          exact ⟨k, by omega, he⟩
theorem see_same {es : List Entry} (hA : Acc es) (state day : Int) : ∀ x ∈ asOfL es day, seeX (waivL es) (giftL es) state x = seeX (waivL (asOfL es day)) (giftL (asOfL es day)) state x := by
  intro x hx
  obtain ⟨n, hn⟩ := asOf_take (acc_ok hA).days day
  have hs : es = asOfL es day ++ es.drop n := by rw [hn, List.take_append_drop]
  have hA2 := acc_asOf hA day
  have hA3 := hA
  rw [hs] at hA3
  obtain ⟨hg, hw⟩ := later_gifts _ hA3
  rw [← hs] at hg hw
  obtain ⟨r1, r2⟩ := refers hA2 x hx
  have hk := ok_kind (form_okE ((acc_ok hA2).forms x hx)).1
  unfold seeX
  by_cases k12 : x.kind = 1 ∨ x.kind = 2
  · rw [if_pos k12, if_pos k12]
  · rw [if_neg k12, if_neg k12]
    by_cases k34 : x.kind = 3 ∨ x.kind = 4
    · rw [if_pos k34, if_pos k34]
      obtain ⟨k, hk1, hk2⟩ := r1 k34
      obtain ⟨hk', hl⟩ := hw.get k hk1
      rw [hk2, atN_get hk1, atN_get hk', hl.giver, hl.taker, hl.id]
    · rw [if_neg k34, if_neg k34]
      obtain ⟨k, hk1, hk2⟩ := r2 (by omega)
      obtain ⟨hk', hl⟩ := hg.get k hk1
      rw [hk2, atN_get hk1, atN_get hk', hl.frm, hl.to, hl.worth]
theorem sight_ref {es : List Entry} (hA : Acc es) (state day : Int) : es.filterMap (fun x => if x.day ≤ day then seeX (waivL es) (giftL es) state x else none) = sightsL (asOfL es day) state := by
  unfold sightsL
  have h1 : (asOfL es day).filterMap (seeX (waivL (asOfL es day)) (giftL (asOfL es day)) state) = (asOfL es day).filterMap (seeX (waivL es) (giftL es) state) :=
    filterMap_same fun x hx => (see_same hA state day x hx).symm
  rw [h1]
  unfold asOfL
  rw [List.filterMap_filter]
  refine filterMap_same fun x _ => ?_
  by_cases h : x.day ≤ day
  · simp [h]
  · simp [h]

/-! ### entries taken one by one by the reference -/
/-- The errors of the reference's Do but for grants: with no facts. -/
def replayB (es : List Entry) (x : Entry) : Bool := if x.kind = 3 then formX x && !decide (x.day < lastDay es) && decide (x.w.id = (((grantsL es).length + 1 : Nat) : Int)) else decide (doE 0 es x = 0)
theorem replay_law {sg : Int} {es : List Entry} {x : Entry} (hA : Acc es) (hx : doE sg es x = 0) : replayB es x = true := by
  unfold replayB
  obtain ⟨hf, hl, hr⟩ := do_zero hx
  split
  · rename_i k3
    unfold refusedE at hr
    rw [if_pos k3] at hr
    unfold grantedE at hr
    split at hr
    · cases hr
    split at hr
    · cases hr
    rename_i r2
    have := (acc_ok hA).gids.1
    have r2 := Decidable.not_not.1 r2
    rw [hf, decide_eq_false (by omega), decide_eq_true (by omega)]
    rfl
  · rename_i k3
    refine decide_eq_true ?_
    have : refusedE 0 es x = refusedE sg es x := by
      unfold refusedE
      rw [if_neg k3, if_neg k3]
    unfold doE
    rw [if_neg (by rw [hf]; decide), if_neg (by omega), this]
    exact hr

end Go.Proofs.YtcnbpfecgokhiaaGreatDoor
