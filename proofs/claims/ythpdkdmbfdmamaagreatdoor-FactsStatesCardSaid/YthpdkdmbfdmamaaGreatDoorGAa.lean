/- Facts: who is taken as a holder, and of which class somebody is, plainly. -/
import Derived.Test.YthpdkdmbfdmamaaGreatDoorGBb
set_option linter.unusedVariables false
set_option linter.unusedSimpArgs false
set_option linter.unnecessarySimpa false
set_option linter.unusedSectionVars false
namespace Go.Proofs.YthpdkdmbfdmamaaGreatDoor
open Go.Eng Go.RowKit

theorem mem_living {X : List Fact} {k s cl p : Int} : p ∈ livingL X k s cl ↔ ∃ x ∈ X, livesB X k s cl x = true ∧ x.who = p := by
  unfold livingL
  rw [mem_sortD, List.mem_map]
  constructor
  · rintro ⟨x, hx, rfl⟩
    exact ⟨x, (List.mem_filter.1 hx).1, (List.mem_filter.1 hx).2, rfl⟩
  · rintro ⟨x, hx, h, rfl⟩
    exact ⟨x, List.mem_filter.2 ⟨hx, h⟩, rfl⟩
theorem living_alive {X : List Fact} {k s cl p : Int} (h : p ∈ livingL X k s cl) : deadB X p = false := by
  obtain ⟨x, _, hl, rfl⟩ := mem_living.1 h
  unfold livesB at hl
  simpa using (Bool.and_eq_true_iff.1 hl).2
theorem chosen_sub {X : List Fact} {host s p : Int} (h : p ∈ chosenL X host s) : p ∈ livingL X 2 s 1 := by
  unfold chosenL at h
  split at h
  · exact (List.mem_filter.1 h).1
  · exact h
theorem recog_holds {X : List Fact} {host s p : Int} (h : recogL X host s = (p, true)) : p ∈ livingL X 2 s 1 := by
  unfold recogL at h
  split at h
  · rename_i q hq
    have : q = p := congrArg Prod.fst h
    subst this
    exact chosen_sub (by rw [hq]; simp)
  · cases h
theorem recog_one {X : List Fact} {host s : Int} (h : (livingL X 2 s 1).length = 1) : (recogL X host s).2 = true := by
  unfold recogL chosenL
  rw [if_neg (by omega)]
  obtain ⟨a, ha⟩ := List.length_eq_one_iff.1 h
  rw [ha]
theorem contested_iff {X : List Fact} {s : Int} : s ∈ contestedL X ↔ 1 < (livingL X 2 s 1).length := by
  unfold contestedL
  rw [mem_sortD, List.mem_map]
  constructor
  · rintro ⟨x, hx, rfl⟩
    have := (List.mem_filter.1 hx).2
    simpa using (Bool.and_eq_true_iff.1 this).2
  · intro h
    have hne : livingL X 2 s 1 ≠ [] := fun e => by rw [e] at h; simp at h
    obtain ⟨p, hp⟩ := List.exists_mem_of_ne_nil _ hne
    obtain ⟨x, hx, hl, _⟩ := mem_living.1 hp
    unfold livesB at hl
    have h1 : x.kind = 2 ∧ x.what = s ∧ x.other = 1 := of_decide_eq_true (Bool.and_eq_true_iff.1 hl).1
    refine ⟨x, List.mem_filter.2 ⟨hx, ?_⟩, h1.2.1⟩
    rw [h1.2.1]
    exact Bool.and_eq_true_iff.2 ⟨decide_eq_true ⟨h1.1, h1.2.2⟩, decide_eq_true h⟩

theorem held_one {X : List Fact} {host p s : Int} : heldB X host p s 1 = decide (recogL X host s = (p, true)) := rfl
theorem held_more {X : List Fact} {host p s cl : Int} (h : cl ≠ 1) : heldB X host p s cl = decide (p ∈ livingL X 2 s cl) := by unfold heldB; rw [if_neg h]
theorem held_mem {X : List Fact} {host p s cl : Int} (h : heldB X host p s cl = true) : p ∈ livingL X 2 s cl := by
  by_cases h1 : cl = 1
  · subst h1; rw [held_one] at h; exact recog_holds (of_decide_eq_true h)
  · rw [held_more h1] at h; exact of_decide_eq_true h

theorem class_cases (X : List Fact) (host p s : Int) : (classL X host p s = (5, false) ∧ heldB X host p s 1 = false) ∨
    ∃ cl : Int, (cl = 1 ∨ cl = 2 ∨ cl = 3 ∨ cl = 4) ∧ ((heldB X host p s cl = true ∧ classL X host p s = (cl, false)) ∨ (heldB X host p s cl = false ∧ actsB X p s cl = true ∧ classL X host p s = (cl, true))) ∧ (cl ≠ 1 → heldB X host p s 1 = false) := by
  unfold classL
  simp only [classAt]
  cases h1 : heldB X host p s 1 with
  | true => exact .inr ⟨1, .inl rfl, .inl ⟨h1, by simp⟩, fun h => absurd rfl h⟩
  | false =>
  cases a1 : actsB X p s 1 with
  | true => exact .inr ⟨1, .inl rfl, .inr ⟨h1, a1, by simp⟩, fun h => absurd rfl h⟩
  | false =>
  cases h2 : heldB X host p s 2 with
  | true => exact .inr ⟨2, .inr (.inl rfl), .inl ⟨h2, by simp⟩, fun _ => rfl⟩
  | false =>
  cases a2 : actsB X p s 2 with
  | true => exact .inr ⟨2, .inr (.inl rfl), .inr ⟨h2, a2, by simp⟩, fun _ => rfl⟩
  | false =>
  cases h3 : heldB X host p s 3 with
  | true => exact .inr ⟨3, .inr (.inr (.inl rfl)), .inl ⟨h3, by simp⟩, fun _ => rfl⟩
  | false =>
  cases a3 : actsB X p s 3 with
  | true => exact .inr ⟨3, .inr (.inr (.inl rfl)), .inr ⟨h3, a3, by simp⟩, fun _ => rfl⟩
  | false =>
  cases h4 : heldB X host p s 4 with
  | true => exact .inr ⟨4, .inr (.inr (.inr rfl)), .inl ⟨h4, by simp⟩, fun _ => rfl⟩
  | false =>
  cases a4 : actsB X p s 4 with
  | true => exact .inr ⟨4, .inr (.inr (.inr rfl)), .inr ⟨h4, a4, by simp⟩, fun _ => rfl⟩
  | false => exact .inl ⟨by simp, rfl⟩

theorem least_le {X : List Fact} {p s cl : Int} (hcl : cl = 1 ∨ cl = 2 ∨ cl = 3 ∨ cl = 4) (h : p ∈ livingL X 2 s cl ∨ p ∈ livingL X 3 s cl) : leastL X p s ≤ cl := by
  have hb : (decide (p ∈ livingL X 2 s cl) || actsB X p s cl) = true := by
    rcases h with h | h
    · rw [decide_eq_true h]; rfl
    · unfold actsB; rw [decide_eq_true h, Bool.or_true]
  unfold leastL
  simp only [leastAt]
  generalize hb1 : (decide (p ∈ livingL X 2 s 1) || actsB X p s 1) = b1
  generalize hb2 : (decide (p ∈ livingL X 2 s 2) || actsB X p s 2) = b2
  generalize hb3 : (decide (p ∈ livingL X 2 s 3) || actsB X p s 3) = b3
  generalize hb4 : (decide (p ∈ livingL X 2 s 4) || actsB X p s 4) = b4
  rcases hcl with rfl | rfl | rfl | rfl
  · rw [hb] at hb1; subst hb1; simp
  · rw [hb] at hb2; subst hb2; cases b1 <;> simp
  · rw [hb] at hb3; subst hb3; cases b1 <;> cases b2 <;> simp
  · rw [hb] at hb4; subst hb4; cases b1 <;> cases b2 <;> cases b3 <;> simp
theorem least_five (X : List Fact) (p s : Int) : leastL X p s ≤ 5 := by
  unfold leastL
  simp only [leastAt]
  generalize (decide (p ∈ livingL X 2 s 1) || actsB X p s 1) = b1
  generalize (decide (p ∈ livingL X 2 s 2) || actsB X p s 2) = b2
  generalize (decide (p ∈ livingL X 2 s 3) || actsB X p s 3) = b3
  generalize (decide (p ∈ livingL X 2 s 4) || actsB X p s 4) = b4
  cases b1 <;> cases b2 <;> cases b3 <;> cases b4 <;> simp

/-- All that FactsClasses asks, in numbers. -/
structure ClassFacts (X : List Fact) (host person s : Int) (p : Int) (is : Bool) (c : Int) (a : Bool) : Prop where
  f1 : is = true → p ∈ livingL X 2 s 1
  f2 : (livingL X 2 s 1).length = 1 → is = true
  f5 : c = 1 → a = false → is = true ∧ p = person
  f6 : is = true → p = person → c = 1 ∧ a = false
  f7 : deadB X person = true → c = 5 ∧ person ∉ livingL X 2 s 1
  f8 : (c = 1 ∨ c = 2 ∨ c = 3 ∨ c = 4) ∨ (c = 5 ∧ a = false)
  f9 : a = true → person ∈ livingL X 3 s c
  f10 : a = false → c < 5 → person ∈ livingL X 2 s c
  f11 : leastL X person s ≤ c

theorem class_facts (X : List Fact) (host person s : Int) : ClassFacts X host person s (recogL X host s).1 (recogL X host s).2 (classL X host person s).1 (classL X host person s).2 := by
  have hr : ∀ q, recogL X host s = (q, true) ↔ (recogL X host s).2 = true ∧ (recogL X host s).1 = q := fun q => by
    constructor
    · intro h; rw [h]; exact ⟨rfl, rfl⟩
    · rintro ⟨h1, h2⟩; exact Prod.ext h2 h1
  have h1 : (recogL X host s).2 = true → (recogL X host s).1 ∈ livingL X 2 s 1 := fun h => recog_holds ((hr _).2 ⟨h, rfl⟩)
  rcases class_cases X host person s with ⟨hc, h0⟩ | ⟨cl, hcl, hh, h0⟩
  · rw [hc]
    rw [held_one] at h0
    have h0 := of_decide_eq_false h0
    exact ⟨h1, recog_one, fun h => (by cases h), fun ha hb => absurd ((hr _).2 ⟨ha, hb⟩) h0, fun hd => ⟨rfl, fun hm => (by rw [living_alive hm] at hd; cases hd)⟩, .inr ⟨rfl, rfl⟩, fun h => (by cases h), fun _ h => absurd h (by decide), least_five X person s⟩
  · have hmem : person ∈ livingL X 2 s cl ∨ person ∈ livingL X 3 s cl := by
      rcases hh with ⟨h, _⟩ | ⟨_, h, _⟩
      · exact .inl (held_mem h)
      · exact .inr (of_decide_eq_true h)
    have hal : deadB X person = false := hmem.elim living_alive living_alive
    have hle := least_le hcl hmem
    rcases hh with ⟨h, hc⟩ | ⟨h, ha, hc⟩
    · rw [hc]
      refine ⟨h1, recog_one, fun e _ => ?_, fun ha hb => ?_, fun hd => (by rw [hal] at hd; cases hd), .inl hcl, fun e => (by cases e), fun _ _ => held_mem h, hle⟩
      · have e : cl = 1 := e
        subst e
        rw [held_one] at h
        exact (hr _).1 (of_decide_eq_true h)
      · refine ⟨?_, rfl⟩
        show cl = 1
        refine Decidable.byContradiction fun hne => ?_
        have := h0 hne
        rw [held_one] at this
        exact of_decide_eq_false this ((hr _).2 ⟨ha, hb⟩)
    · rw [hc]
      have hno : heldB X host person s 1 = false := by
        by_cases e : cl = 1
        · rw [← e]; exact h
        · exact h0 e
      rw [held_one] at hno
      exact ⟨h1, recog_one, fun _ e => (by cases e), fun ha hb => absurd ((hr _).2 ⟨ha, hb⟩) (of_decide_eq_false hno), fun hd => (by rw [hal] at hd; cases hd), .inl hcl, fun _ => of_decide_eq_true ha, fun e => (by cases e), hle⟩

end Go.Proofs.YthpdkdmbfdmamaaGreatDoor
