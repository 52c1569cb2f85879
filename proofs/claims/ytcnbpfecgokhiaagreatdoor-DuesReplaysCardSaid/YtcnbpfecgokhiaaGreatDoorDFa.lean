/- a part of the proof: steps, walks and plain laws that the law below stands on; no condition. -/
import Derived.Test.YtcnbpfecgokhiaaGreatDoorDBb
import Derived.Test.YtcnbpfecgokhiaaGreatDoorDBe
set_option linter.unusedVariables false
set_option linter.unusedSimpArgs false
set_option linter.unnecessarySimpa false
set_option linter.unusedSectionVars false
namespace Go.Proofs.YtcnbpfecgokhiaaGreatDoor
open Go.Eng Go.RowKit

def endsL (l : List Fact) : List Int := l.flatMap fun x => [x.since, x.til]
def turnB (k : Int) (l : List Fact) (d : Int) : Bool := dayB d && !decide (atL k d l = atL k (d - 1) l)
def learnB (day : Int) (l : List Fact) (k : Int) : Bool := dayB k && !decide (atL k day l = atL (k - 1) day l)
def turnsL (k : Int) (l : List Fact) : List Int := (sortD (endsL l)).filter (turnB k l)
def learnedL (day : Int) (l : List Fact) : List Int := (sortD (l.map Fact.known)).filter (learnB day l)

theorem holds_still {x : Fact} {d : Int} (h1 : x.since ≠ d) (h2 : x.til ≠ d) : holdsB d x = holdsB (d - 1) x := by
  unfold holdsB
  rw [Bool.eq_iff_iff, decide_eq_true_eq, decide_eq_true_eq]
  omega
theorem at_still {k d : Int} {l : List Fact} (h : d ∉ endsL l) : atL k d l = atL k (d - 1) l := by
  unfold atL
  refine List.filter_congr fun x hx => ?_
  have hl := countL_sub hx
  have h1 : x.since ≠ d := fun e => h (List.mem_flatMap.2 ⟨x, hl, by simp [e]⟩)
  have h2 : x.til ≠ d := fun e => h (List.mem_flatMap.2 ⟨x, hl, by simp [e]⟩)
  rw [holds_still h1 h2]
theorem known_still {k : Int} : ∀ {l : List Fact}, k ∉ l.map Fact.known → knownL k l = knownL (k - 1) l
  | [], _ => rfl
  | x :: r, h => by
    have h1 : x.known ≠ k := fun e => h (by simp [e])
    have h2 : k ∉ r.map Fact.known := fun e => h (by simp at e ⊢; exact .inr e)
    have ih : knownL k r = knownL (k - 1) r := known_still h2
    unfold knownL at *
    rw [List.takeWhile_cons, List.takeWhile_cons, ih]
    have : decide (x.known ≤ k) = decide (x.known ≤ k - 1) := by rw [Bool.eq_iff_iff, decide_eq_true_eq, decide_eq_true_eq]; omega
    rw [this]
theorem learn_still {k day : Int} {l : List Fact} (h : k ∉ l.map Fact.known) : atL k day l = atL (k - 1) day l := by
  unfold atL countL; rw [known_still h]

theorem sort_zero {p : Int → Bool} {l : List Int} (h : ∀ d, d ∉ l → p d = false) : (sortD (0 :: l)).filter p = (sortD l).filter p := by
  refine asc_eq ((sortD_asc _).filter _) ((sortD_asc _).filter _) fun x => ?_
  rw [List.mem_filter, List.mem_filter, mem_sortD, mem_sortD, List.mem_cons]
  constructor
  · rintro ⟨rfl | h1, h2⟩
    · by_cases hx : (0 : Int) ∈ l
      · exact ⟨hx, h2⟩
      · rw [h 0 hx] at h2; cases h2
    · exact ⟨h1, h2⟩
  · rintro ⟨h1, h2⟩
    exact ⟨.inr h1, h2⟩
theorem turns_zero (k : Int) (l : List Fact) : (sortD (0 :: endsL l)).filter (turnB k l) = turnsL k l := sort_zero fun d hd => by
  unfold turnB
  rw [at_still hd]
  simp
theorem learned_zero (day : Int) (l : List Fact) : (sortD (0 :: l.map Fact.known)).filter (learnB day l) = learnedL day l := sort_zero fun d hd => by
  unfold learnB
  rw [learn_still hd]
  simp

/-- On a day that is not named nothing is otherwise than the day before. -/
theorem turns_not {k d : Int} {l : List Fact} (hd : dayB d = true) (h : d ∉ turnsL k l) : atL k d l = atL k (d - 1) l := by
  by_cases he : d ∈ endsL l
  · by_cases e : atL k d l = atL k (d - 1) l
    · exact e
    · exact absurd (List.mem_filter.2 ⟨mem_sortD.2 he, by unfold turnB; rw [hd, decide_eq_false e]; rfl⟩) h
  · exact at_still he
theorem learned_not {k day : Int} {l : List Fact} (hk : dayB k = true) (h : k ∉ learnedL day l) : atL k day l = atL (k - 1) day l := by
  by_cases he : k ∈ l.map Fact.known
  · by_cases e : atL k day l = atL (k - 1) day l
    · exact e
    · exact absurd (List.mem_filter.2 ⟨mem_sortD.2 he, by unfold learnB; rw [hk, decide_eq_false e]; rfl⟩) h
  · exact learn_still he

/-! ### facts that are entered later -/
theorem known_later {k : Int} {m : List Fact} (h : ∀ x ∈ m, k < x.known) : ∀ (l : List Fact), knownL k (l ++ m) = knownL k l
  | [] => by
    cases m with
    | nil => rfl
    | cons x r =>
      have := h x (by simp)
      unfold knownL
      rw [List.nil_append, List.takeWhile_cons, if_neg (by simpa using this)]; rfl
  | x :: r => by
    have ih := known_later h r
    unfold knownL at *
    rw [List.cons_append, List.takeWhile_cons, List.takeWhile_cons, ih]
theorem at_later {k day : Int} {l m : List Fact} (h : ∀ x ∈ m, k < x.known) : atL k day (l ++ m) = atL k day l := by
  unfold atL countL; rw [known_later h]

/-! ### voids -/
theorem voidedBy_cons (v : Fact) (acc : List Fact) (n : Int) : voidedBy (v :: acc) n = (decide (v.kind = 11 ∧ v.what = n) || voidedBy acc n) := rfl
theorem back_void {v : Fact} (hv : v.kind = 11) : ∀ (K acc : List Fact), backL (v :: acc) K = v :: backL acc (K.filter fun x => !decide (x.id = v.what))
  | [], _ => rfl
  | x :: r, acc => by
    rw [backL, voidedBy_cons, List.filter_cons]
    by_cases h : x.id = v.what
    · rw [if_pos (by simp [h, hv]), if_neg (by simp [h])]
      exact back_void hv r acc
    · have h' : ¬ v.what = x.id := fun e => h e.symm
      rw [if_pos (show (!decide (x.id = v.what)) = true by simp [h])]
      simp only [hv, h', and_false, decide_false, Bool.false_or]
      rw [backL]
      split
      · exact back_void hv r acc
      · rw [← back_void hv r (acc ++ [x]), List.cons_append]
/-- A void at the end of what is known. -/
theorem count_void {k : Int} {l : List Fact} {v : Fact} (hk : ∀ x ∈ l, x.known ≤ k) (hv : v.known ≤ k) (h11 : v.kind = 11) : countL k (l ++ [v]) = countL k (l.filter fun x => !decide (x.id = v.what)) ++ [v] := by
  have all : ∀ (m : List Fact), (∀ x ∈ m, x.known ≤ k) → knownL k m = m := fun m h => knownL_all fun j hj => h _ (List.getElem_mem hj)
  unfold countL
  rw [all (l ++ [v]) (fun x hx => by
    rcases List.mem_append.1 hx with h | h
    · exact hk x h
    · rw [List.mem_singleton.1 h]; exact hv), all _ fun x hx => hk x (List.mem_filter.1 hx).1]
  rw [List.reverse_append, List.reverse_singleton, List.singleton_append, backL]
  have : voidedBy [] v.id = false := rfl
  rw [this, if_neg (by decide), List.nil_append, back_void h11, List.reverse_cons, List.filter_reverse]

end Go.Proofs.YtcnbpfecgokhiaaGreatDoor

namespace Go.Proofs.YtcnbpfecgokhiaaGreatDoor
open Go.Eng Go.RowKit

def sampleL : List Fact := [
  ⟨1, 0, 1, 1, 0, 1, 0, 0, ⟨#[97, 118, 105, 97]⟩⟩,
  ⟨2, 0, 1, 2, 0, 1, 0, 0, ⟨#[98, 111, 114, 100, 117, 114, 105, 97]⟩⟩,
  ⟨3, 0, 2, 11, 1, 1, 0, 0, ⟨#[]⟩⟩,
  ⟨4, 0, 2, 12, 1, 1, 5, 0, ⟨#[]⟩⟩,
  ⟨5, 10, 4, 2, 1, 12, 0, 0, ⟨#[]⟩⟩,
  ⟨6, 20, 11, 0, 4, 0, 0, 0, ⟨#[]⟩⟩,
  ⟨7, 30, 11, 0, 6, 0, 0, 0, ⟨#[]⟩⟩,
  ⟨8, 30, 10, 11, 0, 0, 25, 0, ⟨#[]⟩⟩,
  ⟨9, 30, 9, 13, 0, 12, 0, 40, ⟨#[]⟩⟩,
  ⟨10, 30, 5, 12, 2, 0, 7, 0, ⟨#[]⟩⟩]
def fact11 : Fact := ⟨11, 30, 2, 14, 3, 1, 0, 0, ⟨#[]⟩⟩

/-! ### small numbers, told plainly -/
def itoaQ (n : Int) : List UInt8 := if n < 10 then [UInt8.ofNat (48 + n.toNat)] else [UInt8.ofNat (48 + n.toNat / 10), UInt8.ofNat (48 + n.toNat % 10)]
theorem itoaQ_eq {n : Int} (h : 0 ≤ n ∧ n < 100) : Lib.itoa n = itoaQ n := by
  unfold Lib.itoa itoaQ
  rw [if_neg (by omega)]
  by_cases h1 : n < 10
  · rw [if_pos h1, Lib.decDigits_one (by omega)]
  · rw [if_neg h1, Lib.decDigits_two (by omega) (by omega)]
def wordsQ (x : Fact) : List (List UInt8) := [itoaQ x.id, itoaQ x.known, (wordA x.kind.toNat).data.toList] ++ (offs x.kind).map (fun o => itoaQ (fieldI x o)) ++ if x.kind = 1 then [x.name.data.toList] else []
def smallB (x : Fact) : Bool := decide (0 ≤ x.id ∧ x.id < 100) && decide (0 ≤ x.known ∧ x.known < 100) && (offs x.kind).all fun o => decide (0 ≤ fieldI x o ∧ fieldI x o < 100)
theorem wordsQ_eq {x : Fact} (h : smallB x = true) : wordsL x = wordsQ x := by
  unfold smallB at h
  simp only [Bool.and_eq_true, decide_eq_true_eq, List.all_eq_true] at h
  obtain ⟨⟨h1, h2⟩, h3⟩ := h
  unfold wordsL wordsQ
  rw [itoaQ_eq h1, itoaQ_eq h2, List.map_congr_left fun o ho => itoaQ_eq (h3 o ho)]
def joinQ : List (List UInt8) → List UInt8
  | [] => []
  | [w] => w
  | w :: v :: r => w ++ 32 :: joinQ (v :: r)
theorem joinQ_eq : ∀ (ws : List (List UInt8)), Lib.join ws [32] = joinQ ws
  | [] => rfl
  | [w] => Lib.join_one _ _
  | w :: v :: r => by rw [join_two, joinQ, joinQ_eq (v :: r)]
theorem lineQ {x : Fact} (h : smallB x = true) : lineL x = joinQ (wordsQ x) := by
  unfold lineL
  rw [wordsQ_eq h, joinQ_eq]

def linesL : List (List UInt8) := [
  [49, 32, 48, 32, 110, 97, 109, 101, 32, 49, 32, 49, 32, 48, 32, 48, 32, 97, 118, 105, 97],
  [50, 32, 48, 32, 110, 97, 109, 101, 32, 50, 32, 49, 32, 48, 32, 48, 32, 98, 111, 114, 100, 117, 114, 105, 97],
  [51, 32, 48, 32, 111, 102, 102, 105, 99, 101, 32, 49, 49, 32, 49, 32, 49, 32, 48, 32, 48],
  [52, 32, 48, 32, 111, 102, 102, 105, 99, 101, 32, 49, 50, 32, 49, 32, 49, 32, 53, 32, 48],
  [53, 32, 49, 48, 32, 114, 101, 99, 111, 103, 110, 105, 115, 101, 32, 50, 32, 49, 32, 49, 50, 32, 48, 32, 48],
  [54, 32, 50, 48, 32, 118, 111, 105, 100, 32, 52],
  [55, 32, 51, 48, 32, 118, 111, 105, 100, 32, 54],
  [56, 32, 51, 48, 32, 100, 101, 97, 116, 104, 32, 49, 49, 32, 50, 53],
  [57, 32, 51, 48, 32, 100, 101, 112, 117, 116, 121, 32, 49, 51, 32, 49, 50, 32, 48, 32, 52, 48],
  [49, 48, 32, 51, 48, 32, 99, 114, 101, 100, 101, 110, 116, 105, 97, 108, 115, 32, 49, 50, 32, 50, 32, 55, 32, 48]]

theorem sample_small : sampleL.all smallB = true := by decide +kernel
theorem sample_lines : sampleL.map (fun x => joinQ (wordsQ x)) = linesL := by decide +kernel
theorem sample_formed : sampleL.all (fun x => decide (formE x = 0)) = true := by decide +kernel
theorem sample_app : (List.range 10).all (fun i => decide (appE (sampleL.take i) (sampleL.getD i factZ) = 0)) = true := by decide +kernel
theorem sample_length : sampleL.length = 10 := by decide +kernel

theorem sample_read {i : Nat} (hi : i < 10) : readF ⟨(linesL.getD i []).toArray⟩ = (sampleL.getD i factZ, 0) := by
  have hl := sample_length
  have hx : sampleL.getD i factZ ∈ sampleL := by
    rw [List.getD_eq_getElem?_getD, List.getElem?_eq_getElem (by omega)]
    exact List.getElem_mem _
  have h1 := List.all_eq_true.1 sample_small _ hx
  have h2 := of_decide_eq_true (List.all_eq_true.1 sample_formed _ hx)
  have h3 : linesL.getD i [] = lineL (sampleL.getD i factZ) := by
    rw [lineQ h1, ← sample_lines]
    simp only [List.getD_eq_getElem?_getD, List.getElem?_map, List.getElem?_eq_getElem (show i < sampleL.length by omega)]
    rfl
  rw [h3]
  exact readF_line h2
theorem sample_append {i : Nat} (hi : i < 10) : appE (sampleL.take i) (sampleL.getD i factZ) = 0 := of_decide_eq_true (List.all_eq_true.1 sample_app i (List.mem_range.2 hi))

theorem al_app : appE sampleL fact11 = 5 := by decide +kernel
theorem al_rec : recogL (atL 10 9 sampleL) 2 1 = (12, true) := by decide +kernel
theorem al_class : classL (atL 10 9 sampleL) 2 11 1 = (5, false) := by decide +kernel
theorem al_princ : princL (atL 30 39 sampleL) 13 = (12, true) := by decide +kernel
theorem al_letter : letterL (atL 0 0 sampleL) 1 1 1 = (1, true) := by decide +kernel
theorem al_turns : turnsL 30 sampleL = [0, 5, 7, 25, 40] := by decide +kernel
theorem al_learned : learnedL 30 sampleL = [0, 10, 20, 30] := by decide +kernel
theorem al_hold1 : livingL (atL 20 5 sampleL) 2 1 1 = [11] := by decide +kernel
theorem al_hold2 : livingL (atL 30 25 sampleL) 2 1 1 = [12] := by decide +kernel
theorem al_alpha : alphaL (atL 0 0 sampleL) 1 1 = [2, 1] := by decide +kernel
theorem al_least : leastL (atL 10 9 sampleL) 11 1 = 1 := by decide +kernel
theorem al_cred : credL (atL 30 6 sampleL) 12 2 = 100001 := by decide +kernel

end Go.Proofs.YtcnbpfecgokhiaaGreatDoor

namespace Go.Proofs.YtcnbpfecgokhiaaGreatDoor
open Go.Eng Go.RowKit

theorem mem_living {X : List Fact} {k s cl p : Int} : p ∈ livingL X k s cl ↔ ∃ x ∈ X, livesB X k s cl x = true ∧ x.who = p := by
  unfold livingL
  rw [mem_sortD, List.mem_map]
  constructor
  · rintro ⟨x, hx, rfl⟩
    exact ⟨x, (List.mem_filter.1 hx).1, (List.mem_filter.1 hx).2, rfl⟩
  · rintro ⟨x, hx, h, rfl⟩
    exact ⟨x, List.mem_filter.2 ⟨hx, h⟩, rfl⟩
theorem living_alive {X : List Fact} {k s cl p : Int} (h : p ∈ livingL X k s cl) : deadB X p = false := by
  obtain ⟨x, _, hl, rfl⟩ := mem_living.1 h
  unfold livesB at hl
  simpa using (Bool.and_eq_true_iff.1 hl).2
theorem chosen_sub {X : List Fact} {host s p : Int} (h : p ∈ chosenL X host s) : p ∈ livingL X 2 s 1 := by
  unfold chosenL at h
  split at h
  · exact (List.mem_filter.1 h).1
  · exact h
theorem recog_holds {X : List Fact} {host s p : Int} (h : recogL X host s = (p, true)) : p ∈ livingL X 2 s 1 := by
  unfold recogL at h
  split at h
  · rename_i q hq
    have : q = p := congrArg Prod.fst h
    subst this
    exact chosen_sub (by rw [hq]; simp)
  · cases h
theorem recog_one {X : List Fact} {host s : Int} (h : (livingL X 2 s 1).length = 1) : (recogL X host s).2 = true := by
  unfold recogL chosenL
  rw [if_neg (by omega)]
  obtain ⟨a, ha⟩ := List.length_eq_one_iff.1 h
  rw [ha]
theorem contested_iff {X : List Fact} {s : Int} : s ∈ contestedL X ↔ 1 < (livingL X 2 s 1).length := by
  unfold contestedL
  rw [mem_sortD, List.mem_map]
  constructor
  · rintro ⟨x, hx, rfl⟩
    have := (List.mem_filter.1 hx).2
    simpa using (Bool.and_eq_true_iff.1 this).2
  · intro h
    have hne : livingL X 2 s 1 ≠ [] := fun e => by rw [e] at h; simp at h
    obtain ⟨p, hp⟩ := List.exists_mem_of_ne_nil _ hne
    obtain ⟨x, hx, hl, _⟩ := mem_living.1 hp
    unfold livesB at hl
    have h1 : x.kind = 2 ∧ x.what = s ∧ x.other = 1 := of_decide_eq_true (Bool.and_eq_true_iff.1 hl).1
    refine ⟨x, List.mem_filter.2 ⟨hx, ?_⟩, h1.2.1⟩
    rw [h1.2.1]
    exact Bool.and_eq_true_iff.2 ⟨decide_eq_true ⟨h1.1, h1.2.2⟩, decide_eq_true h⟩

theorem held_one {X : List Fact} {host p s : Int} : heldB X host p s 1 = decide (recogL X host s = (p, true)) := rfl
theorem held_more {X : List Fact} {host p s cl : Int} (h : cl ≠ 1) : heldB X host p s cl = decide (p ∈ livingL X 2 s cl) := by unfold heldB; rw [if_neg h]
theorem held_mem {X : List Fact} {host p s cl : Int} (h : heldB X host p s cl = true) : p ∈ livingL X 2 s cl := by
  by_cases h1 : cl = 1
  · subst h1; rw [held_one] at h; exact recog_holds (of_decide_eq_true h)
  · rw [held_more h1] at h; exact of_decide_eq_true h

theorem class_cases (X : List Fact) (host p s : Int) : (classL X host p s = (5, false) ∧ heldB X host p s 1 = false) ∨
    ∃ cl : Int, (cl = 1 ∨ cl = 2 ∨ cl = 3 ∨ cl = 4) ∧ ((heldB X host p s cl = true ∧ classL X host p s = (cl, false)) ∨ (heldB X host p s cl = false ∧ actsB X p s cl = true ∧ classL X host p s = (cl, true))) ∧ (cl ≠ 1 → heldB X host p s 1 = false) := by
  unfold classL
  simp only [classAt]
  cases h1 : heldB X host p s 1 with
  | true => exact .inr ⟨1, .inl rfl, .inl ⟨h1, by simp⟩, fun h => absurd rfl h⟩
  | false =>
  cases a1 : actsB X p s 1 with
  | true => exact .inr ⟨1, .inl rfl, .inr ⟨h1, a1, by simp⟩, fun h => absurd rfl h⟩
  | false =>
  cases h2 : heldB X host p s 2 with
  | true => exact .inr ⟨2, .inr (.inl rfl), .inl ⟨h2, by simp⟩, fun _ => rfl⟩
  | false =>
  cases a2 : actsB X p s 2 with
  | true => exact .inr ⟨2, .inr (.inl rfl), .inr ⟨h2, a2, by simp⟩, fun _ => rfl⟩
  | false =>
  cases h3 : heldB X host p s 3 with
  | true => exact .inr ⟨3, .inr (.inr (.inl rfl)), .inl ⟨h3, by simp⟩, fun _ => rfl⟩
  | false =>
  cases a3 : actsB X p s 3 with
  | true => exact .inr ⟨3, .inr (.inr (.inl rfl)), .inr ⟨h3, a3, by simp⟩, fun _ => rfl⟩
  | false =>
  cases h4 : heldB X host p s 4 with
  | true => exact .inr ⟨4, .inr (.inr (.inr rfl)), .inl ⟨h4, by simp⟩, fun _ => rfl⟩
  | false =>
  cases a4 : actsB X p s 4 with
  | true => exact .inr ⟨4, .inr (.inr (.inr rfl)), .inr ⟨h4, a4, by simp⟩, fun _ => rfl⟩
  | false => exact .inl ⟨by simp, rfl⟩

theorem least_le {X : List Fact} {p s cl : Int} (hcl : cl = 1 ∨ cl = 2 ∨ cl = 3 ∨ cl = 4) (h : p ∈ livingL X 2 s cl ∨ p ∈ livingL X 3 s cl) : leastL X p s ≤ cl := by
  have hb : (decide (p ∈ livingL X 2 s cl) || actsB X p s cl) = true := by
    rcases h with h | h
    · rw [decide_eq_true h]; rfl
    · unfold actsB; rw [decide_eq_true h, Bool.or_true]
  unfold leastL
  simp only [leastAt]
  generalize hb1 : (decide (p ∈ livingL X 2 s 1) || actsB X p s 1) = b1
  generalize hb2 : (decide (p ∈ livingL X 2 s 2) || actsB X p s 2) = b2
  generalize hb3 : (decide (p ∈ livingL X 2 s 3) || actsB X p s 3) = b3
  generalize hb4 : (decide (p ∈ livingL X 2 s 4) || actsB X p s 4) = b4
  rcases hcl with rfl | rfl | rfl | rfl
  · rw [hb] at hb1; subst hb1; simp
  · rw [hb] at hb2; subst hb2; cases b1 <;> simp
  · rw [hb] at hb3; subst hb3; cases b1 <;> cases b2 <;> simp
  · rw [hb] at hb4; subst hb4; cases b1 <;> cases b2 <;> cases b3 <;> simp
theorem least_five (X : List Fact) (p s : Int) : leastL X p s ≤ 5 := by
  unfold leastL
  simp only [leastAt]
  generalize (decide (p ∈ livingL X 2 s 1) || actsB X p s 1) = b1
  generalize (decide (p ∈ livingL X 2 s 2) || actsB X p s 2) = b2
  generalize (decide (p ∈ livingL X 2 s 3) || actsB X p s 3) = b3
  generalize (decide (p ∈ livingL X 2 s 4) || actsB X p s 4) = b4
  cases b1 <;> cases b2 <;> cases b3 <;> cases b4 <;> simp

/-- All that FactsClasses asks, in numbers. -/
structure ClassFacts (X : List Fact) (host person s : Int) (p : Int) (is : Bool) (c : Int) (a : Bool) : Prop where
  f1 : is = true → p ∈ livingL X 2 s 1
  f2 : (livingL X 2 s 1).length = 1 → is = true
  f5 : c = 1 → a = false → is = true ∧ p = person
  f6 : is = true → p = person → c = 1 ∧ a = false
  f7 : deadB X person = true → c = 5 ∧ person ∉ livingL X 2 s 1
  f8 : (c = 1 ∨ c = 2 ∨ c = 3 ∨ c = 4) ∨ (c = 5 ∧ a = false)
  f9 : a = true → person ∈ livingL X 3 s c
  f10 : a = false → c < 5 → person ∈ livingL X 2 s c
  f11 : leastL X person s ≤ c

theorem class_facts (X : List Fact) (host person s : Int) : ClassFacts X host person s (recogL X host s).1 (recogL X host s).2 (classL X host person s).1 (classL X host person s).2 := by
  have hr : ∀ q, recogL X host s = (q, true) ↔ (recogL X host s).2 = true ∧ (recogL X host s).1 = q := fun q => by
    constructor
    · intro h; rw [h]; exact ⟨rfl, rfl⟩
    · rintro ⟨h1, h2⟩; exact Prod.ext h2 h1
  have h1 : (recogL X host s).2 = true → (recogL X host s).1 ∈ livingL X 2 s 1 := fun h => recog_holds ((hr _).2 ⟨h, rfl⟩)
  rcases class_cases X host person s with ⟨hc, h0⟩ | ⟨cl, hcl, hh, h0⟩
  · rw [hc]
    rw [held_one] at h0
    have h0 := of_decide_eq_false h0
    exact ⟨h1, recog_one, fun h => (by cases h), fun ha hb => absurd ((hr _).2 ⟨ha, hb⟩) h0, fun hd => ⟨rfl, fun hm => (by rw [living_alive hm] at hd; cases hd)⟩, .inr ⟨rfl, rfl⟩, fun h => (by cases h), fun _ h => absurd h (by decide), least_five X person s⟩
  · have hmem : person ∈ livingL X 2 s cl ∨ person ∈ livingL X 3 s cl := by
      rcases hh with ⟨h, _⟩ | ⟨_, h, _⟩
      · exact .inl (held_mem h)
      · exact .inr (of_decide_eq_true h)
    have hal : deadB X person = false := hmem.elim living_alive living_alive
    have hle := least_le hcl hmem
    rcases hh with ⟨h, hc⟩ | ⟨h, ha, hc⟩
    · rw [hc]
      refine ⟨h1, recog_one, fun e _ => ?_, fun ha hb => ?_, fun hd => (by rw [hal] at hd; cases hd), .inl hcl, fun e => (by cases e), fun _ _ => held_mem h, hle⟩
      · have e : cl = 1 := e
        subst e
        rw [held_one] at h
        exact (hr _).1 (of_decide_eq_true h)
      · refine ⟨?_, rfl⟩
        show cl = 1
        refine Decidable.byContradiction fun hne => ?_
        have := h0 hne
        rw [held_one] at this
        exact of_decide_eq_false this ((hr _).2 ⟨ha, hb⟩)
    · rw [hc]
      have hno : heldB X host person s 1 = false := by
        by_cases e : cl = 1
        · rw [← e]; exact h
        · exact h0 e
      rw [held_one] at hno
      exact ⟨h1, recog_one, fun _ e => (by cases e), fun ha hb => absurd ((hr _).2 ⟨ha, hb⟩) (of_decide_eq_false hno), fun hd => (by rw [hal] at hd; cases hd), .inl hcl, fun _ => of_decide_eq_true ha, fun e => (by cases e), hle⟩

end Go.Proofs.YtcnbpfecgokhiaaGreatDoor

namespace Go.Proofs.YtcnbpfecgokhiaaGreatDoor
open Go.Eng Go.RowKit

theorem behind_zero {l : List Fact} {x : Fact} (h : behindE l x = 0) : formE x = 0 ∧ l.length < 300 ∧ l.getLast?.any (fun y => decide (x.known < y.known)) = false ∧ idIn l x.id = false ∧ (speaks x).all (namedIn l) = true ∧ ¬ (x.kind = 11 ∧ idIn l x.what = false) ∧ ¬ (x.kind = 1 ∧ namedIn l x.who = false ∧ 200 ≤ statesN l) := by
  unfold behindE at h
  split at h
  · rename_i h0; exact absurd h h0
  rename_i h0
  split at h
  · cases h
  rename_i h1
  split at h
  · cases h
  rename_i h2
  split at h
  · cases h
  rename_i h3
  split at h
  · cases h
  rename_i h4
  split at h
  · cases h
  rename_i h5
  split at h
  · cases h
  rename_i h6
  exact ⟨Decidable.not_not.1 h0, by omega, by simpa using h2, by simpa using h3, by simpa using h4, h5, h6⟩

theorem behind_mk {l : List Fact} {x : Fact} (h0 : formE x = 0) (h1 : l.length < 300) (h2 : l.getLast?.any (fun y => decide (x.known < y.known)) = false) (h3 : idIn l x.id = false) (h4 : (speaks x).all (namedIn l) = true) (h5 : ¬ (x.kind = 11 ∧ idIn l x.what = false)) (h6 : ¬ (x.kind = 1 ∧ namedIn l x.who = false ∧ 200 ≤ statesN l)) : behindE l x = 0 := by
  unfold behindE
  rw [if_neg (by simpa using h0), if_neg (by omega), if_neg (by simpa using h2), if_neg (by simpa using h3), if_neg (by simpa using h4), if_neg h5, if_neg h6]

theorem chkG_cons {seen : List Fact} {x : Fact} {r : List Fact} : (chkG seen (x :: r)).2 = 0 ↔ behindE seen x = 0 ∧ (chkG (seen ++ [x]) r).2 = 0 := by
  constructor
  · intro h
    unfold chkG at h
    split at h
    · rename_i hb; exact absurd h hb
    · rename_i hb; exact ⟨Decidable.not_not.1 hb, h⟩
  · rintro ⟨h1, h2⟩
    unfold chkG
    rw [if_neg (fun hb => hb h1)]; exact h2
theorem chkG_app : ∀ (l r seen : List Fact), (chkG seen (l ++ r)).2 = 0 ↔ (chkG seen l).2 = 0 ∧ (chkG (seen ++ l) r).2 = 0
  | [], r, seen => by simp [chkG]
  | x :: l, r, seen => by
    rw [List.cons_append, chkG_cons, chkG_cons, chkG_app l r, List.append_assoc, and_assoc]; rfl
theorem chk_snoc {l : List Fact} {x : Fact} : (chkF (l ++ [x])).2 = 0 ↔ (chkF l).2 = 0 ∧ behindE l x = 0 := by
  unfold chkF
  rw [chkG_app, chkG_cons, List.nil_append]
  simp [chkG]

theorem chkG_ids : ∀ (l seen : List Fact), seen.Pairwise (fun a b => a.id ≠ b.id) → (chkG seen l).2 = 0 → (seen ++ l).Pairwise fun a b => a.id ≠ b.id
  | [], seen, hs, _ => by rw [List.append_nil]; exact hs
  | x :: r, seen, hs, h => by
    obtain ⟨hb, h⟩ := chkG_cons.1 h
    have hid := (behind_zero hb).2.2.2.1
    have := chkG_ids r (seen ++ [x]) (List.pairwise_append.2 ⟨hs, List.pairwise_singleton _ _, fun a ha b hb' => ?_⟩) h
    · rw [List.append_assoc] at this; exact this
    · rw [List.mem_singleton.1 hb']
      have := List.any_eq_false.1 hid a ha
      simpa using this
theorem chkG_known : ∀ (l seen : List Fact), seen.Pairwise (fun a b => a.known ≤ b.known) → (chkG seen l).2 = 0 → (seen ++ l).Pairwise fun a b => a.known ≤ b.known
  | [], seen, hs, _ => by rw [List.append_nil]; exact hs
  | x :: r, seen, hs, h => by
    obtain ⟨hb, h⟩ := chkG_cons.1 h
    have hk := (behind_zero hb).2.2.1
    have := chkG_known r (seen ++ [x]) (List.pairwise_append.2 ⟨hs, List.pairwise_singleton _ _, fun a ha b hb' => ?_⟩) h
    · rw [List.append_assoc] at this; exact this
    · rw [List.mem_singleton.1 hb']
      rcases List.eq_nil_or_concat seen with rfl | ⟨s, y, rfl⟩
      · cases ha
      · rw [List.concat_eq_append] at *
        rw [List.getLast?_append] at hk
        have hy : y.known ≤ x.known := by simpa using hk
        rcases List.mem_append.1 ha with ha | ha
        · exact Int.le_trans ((List.pairwise_append.1 hs).2.2 a ha y (by simp)) hy
        · rw [List.mem_singleton.1 ha]; exact hy
theorem valid_ids {l : List Fact} (h : (chkF l).2 = 0) : l.Pairwise fun a b => a.id ≠ b.id := chkG_ids l [] List.Pairwise.nil h
theorem valid_known {l : List Fact} (h : (chkF l).2 = 0) : l.Pairwise fun a b => a.known ≤ b.known := chkG_known l [] List.Pairwise.nil h

/-- A list without the fact at a place. -/
def wo (l : List Fact) (i : Nat) : List Fact := l.take i ++ l.drop (i + 1)
theorem filter_id {l : List Fact} (hp : l.Pairwise fun a b => a.id ≠ b.id) {i : Nat} (hi : i < l.length) : l.filter (fun x => !decide (x.id = l[i].id)) = wo l i := by
  have hl : l = l.take i ++ l[i] :: l.drop (i + 1) := by rw [← List.drop_eq_getElem_cons hi, List.take_append_drop]
  generalize l[i] = y at hl
  unfold wo
  generalize l.take i = a at hl
  generalize l.drop (i + 1) = b at hl
  subst hl
  obtain ⟨_, h2, h3⟩ := List.pairwise_append.1 hp
  obtain ⟨h4, _⟩ := List.pairwise_cons.1 h2
  rw [List.filter_append, List.filter_cons, if_neg (by simp)]
  congr 1
  · rw [List.filter_eq_self]
    intro x hx
    simpa using h3 x hx y (by simp)
  · rw [List.filter_eq_self]
    intro x hx
    have := h4 x hx
    simpa using fun e : x.id = y.id => this e.symm
theorem wo_last {l : List Fact} {v : Fact} : wo (l ++ [v]) l.length = l := by
  unfold wo
  rw [List.take_left', List.drop_eq_nil_of_le (by simp), List.append_nil]
  rfl

/-- A void that is entered now: all is known then. -/
theorem valid_now {l : List Fact} {v : Fact} (h : (chkF (l ++ [v])).2 = 0) : ∀ x ∈ l, x.known ≤ v.known := fun x hx =>
  (List.pairwise_append.1 (valid_known h)).2.2 x hx v (by simp)
theorem void_once {k : Int} {l : List Fact} {v : Fact} {i : Nat} (h : (chkF (l ++ [v])).2 = 0) (hi : i < l.length) (h11 : v.kind = 11) (hw : v.what = l[i].id) (hk : v.known = k) :
    countL k (l ++ [v]) = countL k (wo l i) ++ [v] := by
  rw [count_void (fun x hx => by rw [← hk]; exact valid_now h x hx) (by omega) h11, hw, filter_id (List.pairwise_append.1 (valid_ids h)).1 hi]
theorem void_twice {k : Int} {l : List Fact} {v u : Fact} (h : (chkF ((l ++ [v]) ++ [u])).2 = 0) (h11 : u.kind = 11) (hw : u.what = v.id) (hk : u.known = k) :
    countL k ((l ++ [v]) ++ [u]) = countL k l ++ [u] := by
  have hi : l.length < (l ++ [v]).length := by simp
  rw [void_once (i := l.length) h hi h11 (by rw [hw]; simp) hk, wo_last]

/-- The void of a fact. -/
def voidF (n id k : Int) : Fact := ⟨id, k, 11, 0, n, 0, 0, 0, ⟨#[]⟩⟩

end Go.Proofs.YtcnbpfecgokhiaaGreatDoor
