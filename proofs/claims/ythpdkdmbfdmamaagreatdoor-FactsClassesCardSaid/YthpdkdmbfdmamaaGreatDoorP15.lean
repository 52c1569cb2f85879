/- Proved: for every list of facts and five numbers the law FactsClasses returns true, and its arguments read behind the call as they did before; what the library's variables hold is tied to the program's text. No further condition. -/
import Derived.Test.YthpdkdmbfdmamaaGreatDoorGDf
import Derived.Test.YthpdkdmbfdmamaaGreatDoorGAa
import Derived.Test.YthpdkdmbfdmamaaGreatDoorGDd
import Derived.Test.YthpdkdmbfdmamaaGreatDoorGDe
set_option linter.unusedVariables false
set_option linter.unusedSimpArgs false
set_option linter.unnecessarySimpa false
set_option linter.unusedSectionVars false
namespace Go.Proofs.YthpdkdmbfdmamaaGreatDoor
open Go.Eng Go.RowKit

set_option maxRecDepth 100000 in
set_option maxHeartbeats 8000000 in
theorem FactsClasses_spec {w : World} {A : Option Addr} {l : List Fact} {c0 : Nat} (h : HF w A l c0) (T : Tabs w) (k day host n s : Int) :
    CallsW C.P 15 #[.slice A l.length c0, .int .i64 k, .int .i64 day, .int .i64 host, .int .i64 n, .int .i64 s] w fun v w' => v = .bool true ∧ Ext w w' := by
  refine callsV_of Cw_ok (args := [_, _, _, _, _, _]) (plans := []) Tryz.func15 rfl Tryz.ntmps15 (by kernel_rfl) (Nat.le_of_ble_eq_true rfl) ?_
  have hcap := h.cap
  refine brE_dec (fun ha => ?_) (fun ha => ?_)
  · refine (alive_spec w T).mono ?_
    rintro v w2 ⟨rfl, e2⟩
    exact ⟨rfl, e2⟩
  have ha : ¬ (l.length : Int) > 30 := ha
  have hl : l.length ≤ 2 ^ 20 := by omega
  have F := class_facts (atL k day l) host n s
  have hcont := contested_iff (X := atL k day l) (s := s)
  have hlen : ∀ kk cl, (livingL (atL k day l) kk s cl).length ≤ 2 ^ 40 := fun kk cl => by
    have h1 := sortD_length (((atL k day l).filter (livesB (atL k day l) kk s cl)).map Fact.who)
    have h2 := List.length_filter_le (livesB (atL k day l) kk s cl) (atL k day l)
    have h3 := atL_length k day l
    rw [List.length_map] at h1
    unfold livingL; omega
  have hclen : (contestedL (atL k day l)).length ≤ 2 ^ 40 := by
    have h1 := sortD_length (((atL k day l).filter fun x => decide (x.kind = 2 ∧ x.other = 1) && decide (1 < (livingL (atL k day l) 2 x.what 1).length)).map Fact.what)
    have h2 := List.length_filter_le (fun x => decide (x.kind = 2 ∧ x.other = 1) && decide (1 < (livingL (atL k day l) 2 x.what 1).length)) (atL k day l)
    have h3 := atL_length k day l
    rw [List.length_map] at h1
    unfold contestedL; omega
  refine (Holders_spec h hl k day s 1).weak.mono ?_
  rintro v w1 ⟨ho1, e1⟩
  obtain ⟨AH, cH, rfl, hrH, _⟩ := ho1.slice
  refine (Recognised_spec (h.ext e1) hl k day host s).weak.mono ?_
  rintro _ w2 ⟨rfl, e2⟩
  have e12 := e1.trans e2
  refine (Class_spec (h.ext e12) hl k day host n s).weak.mono ?_
  rintro _ w3 ⟨rfl, e3⟩
  have E := e12.trans e3
  have eH : Ext w1 w3 := e2.trans e3
  have hhas : ∀ {w' : World} (x : Int), Ext w1 w' → CallsV C.P 72 #[.slice AH (livingL (atL k day l) 2 s 1).length cH, .int .i64 x] w' fun v w'' => v = .bool (decide (x ∈ livingL (atL k day l) 2 s 1)) ∧ Ext w' w'' := fun x e => has_spec (hrH.ext e) (hlen 2 1) x
  obtain ⟨f1, f2, f5, f6, f7, f8, f9, f10, f11⟩ := F
  generalize (recogL (atL k day l) host s).1 = p at *
  generalize (recogL (atL k day l) host s).2 = is at *
  generalize (classL (atL k day l) host n s).1 = c at *
  generalize (classL (atL k day l) host n s).2 = a at *
  have hL2 : (livingL (atL k day l) 2 s 1).length < 2 ^ 41 := by have := hlen 2 1; omega
  have hmemL : ∀ x, x ∈ livingL (atL k day l) 2 s 1 → 0 < (livingL (atL k day l) 2 s 1).length := fun x hx => List.length_pos_of_mem hx
  generalize hHg : (livingL (atL k day l) 2 s 1).length = L at *
  clear ho1 hrH e2 e3 e12
  rcases f8 with (rfl | rfl | rfl | rfl) | ⟨rfl, rfl⟩
  ·
    cases a with
    | false =>
      obtain ⟨rfl, hpn⟩ := f5 rfl rfl
      have hpn := hpn.symm
      subst hpn
      have hpm := f1 rfl
      have hLp := hmemL _ hpm
      by_cases hL : L = 1
      ·
        clear f2
        have hdead : deadB (atL k day l) n = false := by
          cases hd : deadB (atL k day l) n with
          | false => rfl
          | true => exact absurd (f7 hd).1 (by decide)
        have s1 := hhas n eH
        rw [decide_eq_true hpm] at s1
        refine s1.weak.mono ?_
        rintro _ wz ⟨rfl, ez⟩
        have E := E.trans ez
        have eH := eH.trans ez
        refine brE_dec (fun hh => ?_) (fun hh => (hh (show (L : Int) = 1 by omega)).elim)
        refine brE_dec (fun hh => absurd hh (show ¬ (L : Int) = 0 by omega)) (fun hh => ?_)
        refine (Contested_spec (h.ext E) hl k day).weak.mono ?_
        rintro _ wz ⟨hoz, ez⟩
        have E := E.trans ez
        have eH := eH.trans ez
        obtain ⟨Az, cz, rfl, hrz, _⟩ := NewInts.slice hoz
        have s1 := has_spec (c := cz) hrz hclen s
        rw [decide_eq_false (fun hh => absurd (hcont.1 hh) (by omega))] at s1
        refine s1.weak.mono ?_
        rintro _ wz ⟨rfl, ez⟩
        have E := E.trans ez
        have eH := eH.trans ez
        refine ⟨_, neqBool _ _ _ _, ?_⟩
        refine brE_false (by rw [decide_eq_false (show ¬ (L : Int) > 1 by omega)]; rfl) ?_
        refine brE_false (by simp) ?_
        refine brE_true (by simp) ?_
        refine (Dead_spec (h.ext E) hl k day n).weak.mono ?_
        rintro _ wz ⟨rfl, ez⟩
        have E := E.trans ez
        have eH := eH.trans ez
        rw [hdead]
        refine (alive_spec _ (T.ext E)).mono ?_
        rintro _ wz ⟨rfl, ez⟩
        have E := E.trans ez
        refine (HoldsClass_spec (h.ext E) hl k day n s).weak.mono ?_
        rintro _ wz ⟨rfl, ez⟩
        exact ⟨by rw [decide_eq_true f11], E.trans ez⟩
      ·
        clear f2
        have hdead : deadB (atL k day l) n = false := by
          cases hd : deadB (atL k day l) n with
          | false => rfl
          | true => exact absurd (f7 hd).1 (by decide)
        have s1 := hhas n eH
        rw [decide_eq_true hpm] at s1
        refine s1.weak.mono ?_
        rintro _ wz ⟨rfl, ez⟩
        have E := E.trans ez
        have eH := eH.trans ez
        refine brE_dec (fun hh => absurd hh (show ¬ (L : Int) = 1 by omega)) (fun hh => ?_)
        refine brE_dec (fun hh => absurd hh (show ¬ (L : Int) = 0 by omega)) (fun hh => ?_)
        refine (Contested_spec (h.ext E) hl k day).weak.mono ?_
        rintro _ wz ⟨hoz, ez⟩
        have E := E.trans ez
        have eH := eH.trans ez
        obtain ⟨Az, cz, rfl, hrz, _⟩ := NewInts.slice hoz
        have s1 := has_spec (c := cz) hrz hclen s
        rw [decide_eq_true (hcont.2 (by omega))] at s1
        refine s1.weak.mono ?_
        rintro _ wz ⟨rfl, ez⟩
        have E := E.trans ez
        have eH := eH.trans ez
        refine ⟨_, neqBool _ _ _ _, ?_⟩
        refine brE_false (by rw [decide_eq_true (show (L : Int) > 1 by omega)]; rfl) ?_
        refine brE_false (by simp) ?_
        refine brE_true (by simp) ?_
        refine (Dead_spec (h.ext E) hl k day n).weak.mono ?_
        rintro _ wz ⟨rfl, ez⟩
        have E := E.trans ez
        have eH := eH.trans ez
        rw [hdead]
        refine (alive_spec _ (T.ext E)).mono ?_
        rintro _ wz ⟨rfl, ez⟩
        have E := E.trans ez
        refine (HoldsClass_spec (h.ext E) hl k day n s).weak.mono ?_
        rintro _ wz ⟨rfl, ez⟩
        exact ⟨by rw [decide_eq_true f11], E.trans ez⟩
    | true =>
      cases is with
      | false =>
        have hL1 : L ≠ 1 := fun e => by have := f2 e; cases this
        by_cases hL : L = 0
        ·
          have hdead : deadB (atL k day l) n = false := by
            cases hd : deadB (atL k day l) n with
            | false => rfl
            | true => exact absurd (f7 hd).1 (by decide)
          refine brE_dec (fun hh => absurd hh (show ¬ (L : Int) = 1 by omega)) (fun hh => ?_)
          refine brE_dec (fun hh => ?_) (fun hh => (hh (show (L : Int) = 0 by omega)).elim)
          refine (Contested_spec (h.ext E) hl k day).weak.mono ?_
          rintro _ wz ⟨hoz, ez⟩
          have E := E.trans ez
          have eH := eH.trans ez
          obtain ⟨Az, cz, rfl, hrz, _⟩ := NewInts.slice hoz
          have s1 := has_spec (c := cz) hrz hclen s
          rw [decide_eq_false (fun hh => absurd (hcont.1 hh) (by omega))] at s1
          refine s1.weak.mono ?_
          rintro _ wz ⟨rfl, ez⟩
          have E := E.trans ez
          have eH := eH.trans ez
          refine ⟨_, neqBool _ _ _ _, ?_⟩
          refine brE_false (by rw [decide_eq_false (show ¬ (L : Int) > 1 by omega)]; rfl) ?_
          refine (Dead_spec (h.ext E) hl k day n).weak.mono ?_
          rintro _ wz ⟨rfl, ez⟩
          have E := E.trans ez
          have eH := eH.trans ez
          rw [hdead]
          refine (Acting_spec (h.ext E) hl k day s 1).weak.mono ?_
          rintro _ wz ⟨hoz, ez⟩
          have E := E.trans ez
          have eH := eH.trans ez
          obtain ⟨Az, cz, rfl, hrz, _⟩ := NewInts.slice hoz
          have s1 := has_spec (c := cz) hrz (hlen 3 1) n
          rw [decide_eq_true (f9 rfl)] at s1
          refine s1.weak.mono ?_
          rintro _ wz ⟨rfl, ez⟩
          have E := E.trans ez
          have eH := eH.trans ez
          refine (alive_spec _ (T.ext E)).mono ?_
          rintro _ wz ⟨rfl, ez⟩
          have E := E.trans ez
          refine (HoldsClass_spec (h.ext E) hl k day n s).weak.mono ?_
          rintro _ wz ⟨rfl, ez⟩
          exact ⟨by rw [decide_eq_true f11], E.trans ez⟩
        ·
          have hdead : deadB (atL k day l) n = false := by
            cases hd : deadB (atL k day l) n with
            | false => rfl
            | true => exact absurd (f7 hd).1 (by decide)
          refine brE_dec (fun hh => absurd hh (show ¬ (L : Int) = 1 by omega)) (fun hh => ?_)
          refine brE_dec (fun hh => absurd hh (show ¬ (L : Int) = 0 by omega)) (fun hh => ?_)
          refine (Contested_spec (h.ext E) hl k day).weak.mono ?_
          rintro _ wz ⟨hoz, ez⟩
          have E := E.trans ez
          have eH := eH.trans ez
          obtain ⟨Az, cz, rfl, hrz, _⟩ := NewInts.slice hoz
          have s1 := has_spec (c := cz) hrz hclen s
          rw [decide_eq_true (hcont.2 (by omega))] at s1
          refine s1.weak.mono ?_
          rintro _ wz ⟨rfl, ez⟩
          have E := E.trans ez
          have eH := eH.trans ez
          refine ⟨_, neqBool _ _ _ _, ?_⟩
          refine brE_false (by rw [decide_eq_true (show (L : Int) > 1 by omega)]; rfl) ?_
          refine (Dead_spec (h.ext E) hl k day n).weak.mono ?_
          rintro _ wz ⟨rfl, ez⟩
          have E := E.trans ez
          have eH := eH.trans ez
          rw [hdead]
          refine (Acting_spec (h.ext E) hl k day s 1).weak.mono ?_
          rintro _ wz ⟨hoz, ez⟩
          have E := E.trans ez
          have eH := eH.trans ez
          obtain ⟨Az, cz, rfl, hrz, _⟩ := NewInts.slice hoz
          have s1 := has_spec (c := cz) hrz (hlen 3 1) n
          rw [decide_eq_true (f9 rfl)] at s1
          refine s1.weak.mono ?_
          rintro _ wz ⟨rfl, ez⟩
          have E := E.trans ez
          have eH := eH.trans ez
          refine (alive_spec _ (T.ext E)).mono ?_
          rintro _ wz ⟨rfl, ez⟩
          have E := E.trans ez
          refine (HoldsClass_spec (h.ext E) hl k day n s).weak.mono ?_
          rintro _ wz ⟨rfl, ez⟩
          exact ⟨by rw [decide_eq_true f11], E.trans ez⟩
      | true =>
        have hne : ¬ p = n := fun e => by have hh := f6 rfl e; cases hh.2
        have hpm := f1 rfl
        have hLp := hmemL _ hpm
        by_cases hL : L = 1
        ·
          clear f2
          have hdead : deadB (atL k day l) n = false := by
            cases hd : deadB (atL k day l) n with
            | false => rfl
            | true => exact absurd (f7 hd).1 (by decide)
          have s1 := hhas p eH
          rw [decide_eq_true hpm] at s1
          refine s1.weak.mono ?_
          rintro _ wz ⟨rfl, ez⟩
          have E := E.trans ez
          have eH := eH.trans ez
          refine brE_dec (fun hh => ?_) (fun hh => (hh (show (L : Int) = 1 by omega)).elim)
          refine brE_dec (fun hh => absurd hh (show ¬ (L : Int) = 0 by omega)) (fun hh => ?_)
          refine (Contested_spec (h.ext E) hl k day).weak.mono ?_
          rintro _ wz ⟨hoz, ez⟩
          have E := E.trans ez
          have eH := eH.trans ez
          obtain ⟨Az, cz, rfl, hrz, _⟩ := NewInts.slice hoz
          have s1 := has_spec (c := cz) hrz hclen s
          rw [decide_eq_false (fun hh => absurd (hcont.1 hh) (by omega))] at s1
          refine s1.weak.mono ?_
          rintro _ wz ⟨rfl, ez⟩
          have E := E.trans ez
          have eH := eH.trans ez
          refine ⟨_, neqBool _ _ _ _, ?_⟩
          refine brE_false (by rw [decide_eq_false (show ¬ (L : Int) > 1 by omega)]; rfl) ?_
          refine brE_false (decide_eq_false hne) ?_
          refine (Dead_spec (h.ext E) hl k day n).weak.mono ?_
          rintro _ wz ⟨rfl, ez⟩
          have E := E.trans ez
          have eH := eH.trans ez
          rw [hdead]
          refine (Acting_spec (h.ext E) hl k day s 1).weak.mono ?_
          rintro _ wz ⟨hoz, ez⟩
          have E := E.trans ez
          have eH := eH.trans ez
          obtain ⟨Az, cz, rfl, hrz, _⟩ := NewInts.slice hoz
          have s1 := has_spec (c := cz) hrz (hlen 3 1) n
          rw [decide_eq_true (f9 rfl)] at s1
          refine s1.weak.mono ?_
          rintro _ wz ⟨rfl, ez⟩
          have E := E.trans ez
          have eH := eH.trans ez
          refine (alive_spec _ (T.ext E)).mono ?_
          rintro _ wz ⟨rfl, ez⟩
          have E := E.trans ez
          refine (HoldsClass_spec (h.ext E) hl k day n s).weak.mono ?_
          rintro _ wz ⟨rfl, ez⟩
          exact ⟨by rw [decide_eq_true f11], E.trans ez⟩
        ·
          clear f2
          have hdead : deadB (atL k day l) n = false := by
            cases hd : deadB (atL k day l) n with
            | false => rfl
            | true => exact absurd (f7 hd).1 (by decide)
          have s1 := hhas p eH
          rw [decide_eq_true hpm] at s1
          refine s1.weak.mono ?_
          rintro _ wz ⟨rfl, ez⟩
          have E := E.trans ez
          have eH := eH.trans ez
          refine brE_dec (fun hh => absurd hh (show ¬ (L : Int) = 1 by omega)) (fun hh => ?_)
          refine brE_dec (fun hh => absurd hh (show ¬ (L : Int) = 0 by omega)) (fun hh => ?_)
          refine (Contested_spec (h.ext E) hl k day).weak.mono ?_
          rintro _ wz ⟨hoz, ez⟩
          have E := E.trans ez
          have eH := eH.trans ez
          obtain ⟨Az, cz, rfl, hrz, _⟩ := NewInts.slice hoz
          have s1 := has_spec (c := cz) hrz hclen s
          rw [decide_eq_true (hcont.2 (by omega))] at s1
          refine s1.weak.mono ?_
          rintro _ wz ⟨rfl, ez⟩
          have E := E.trans ez
          have eH := eH.trans ez
          refine ⟨_, neqBool _ _ _ _, ?_⟩
          refine brE_false (by rw [decide_eq_true (show (L : Int) > 1 by omega)]; rfl) ?_
          refine brE_false (decide_eq_false hne) ?_
          refine (Dead_spec (h.ext E) hl k day n).weak.mono ?_
          rintro _ wz ⟨rfl, ez⟩
          have E := E.trans ez
          have eH := eH.trans ez
          rw [hdead]
          refine (Acting_spec (h.ext E) hl k day s 1).weak.mono ?_
          rintro _ wz ⟨hoz, ez⟩
          have E := E.trans ez
          have eH := eH.trans ez
          obtain ⟨Az, cz, rfl, hrz, _⟩ := NewInts.slice hoz
          have s1 := has_spec (c := cz) hrz (hlen 3 1) n
          rw [decide_eq_true (f9 rfl)] at s1
          refine s1.weak.mono ?_
          rintro _ wz ⟨rfl, ez⟩
          have E := E.trans ez
          have eH := eH.trans ez
          refine (alive_spec _ (T.ext E)).mono ?_
          rintro _ wz ⟨rfl, ez⟩
          have E := E.trans ez
          refine (HoldsClass_spec (h.ext E) hl k day n s).weak.mono ?_
          rintro _ wz ⟨rfl, ez⟩
          exact ⟨by rw [decide_eq_true f11], E.trans ez⟩
  ·
    cases a with
    | false =>
      cases is with
      | false =>
        have hL1 : L ≠ 1 := fun e => by have := f2 e; cases this
        by_cases hL : L = 0
        ·
          have hdead : deadB (atL k day l) n = false := by
            cases hd : deadB (atL k day l) n with
            | false => rfl
            | true => exact absurd (f7 hd).1 (by decide)
          refine brE_dec (fun hh => absurd hh (show ¬ (L : Int) = 1 by omega)) (fun hh => ?_)
          refine brE_dec (fun hh => ?_) (fun hh => (hh (show (L : Int) = 0 by omega)).elim)
          refine (Contested_spec (h.ext E) hl k day).weak.mono ?_
          rintro _ wz ⟨hoz, ez⟩
          have E := E.trans ez
          have eH := eH.trans ez
          obtain ⟨Az, cz, rfl, hrz, _⟩ := NewInts.slice hoz
          have s1 := has_spec (c := cz) hrz hclen s
          rw [decide_eq_false (fun hh => absurd (hcont.1 hh) (by omega))] at s1
          refine s1.weak.mono ?_
          rintro _ wz ⟨rfl, ez⟩
          have E := E.trans ez
          have eH := eH.trans ez
          refine ⟨_, neqBool _ _ _ _, ?_⟩
          refine brE_false (by rw [decide_eq_false (show ¬ (L : Int) > 1 by omega)]; rfl) ?_
          refine (Dead_spec (h.ext E) hl k day n).weak.mono ?_
          rintro _ wz ⟨rfl, ez⟩
          have E := E.trans ez
          have eH := eH.trans ez
          rw [hdead]
          refine (Holders_spec (h.ext E) hl k day s 2).weak.mono ?_
          rintro _ wz ⟨hoz, ez⟩
          have E := E.trans ez
          have eH := eH.trans ez
          obtain ⟨Az, cz, rfl, hrz, _⟩ := NewInts.slice hoz
          have s1 := has_spec (c := cz) hrz (hlen 2 2) n
          rw [decide_eq_true (f10 rfl (by decide))] at s1
          refine s1.weak.mono ?_
          rintro _ wz ⟨rfl, ez⟩
          have E := E.trans ez
          have eH := eH.trans ez
          refine (alive_spec _ (T.ext E)).mono ?_
          rintro _ wz ⟨rfl, ez⟩
          have E := E.trans ez
          refine (HoldsClass_spec (h.ext E) hl k day n s).weak.mono ?_
          rintro _ wz ⟨rfl, ez⟩
          exact ⟨by rw [decide_eq_true f11], E.trans ez⟩
        ·
          have hdead : deadB (atL k day l) n = false := by
            cases hd : deadB (atL k day l) n with
            | false => rfl
            | true => exact absurd (f7 hd).1 (by decide)
          refine brE_dec (fun hh => absurd hh (show ¬ (L : Int) = 1 by omega)) (fun hh => ?_)
          refine brE_dec (fun hh => absurd hh (show ¬ (L : Int) = 0 by omega)) (fun hh => ?_)
          refine (Contested_spec (h.ext E) hl k day).weak.mono ?_
          rintro _ wz ⟨hoz, ez⟩
          have E := E.trans ez
          have eH := eH.trans ez
          obtain ⟨Az, cz, rfl, hrz, _⟩ := NewInts.slice hoz
          have s1 := has_spec (c := cz) hrz hclen s
          rw [decide_eq_true (hcont.2 (by omega))] at s1
          refine s1.weak.mono ?_
          rintro _ wz ⟨rfl, ez⟩
          have E := E.trans ez
          have eH := eH.trans ez
          refine ⟨_, neqBool _ _ _ _, ?_⟩
          refine brE_false (by rw [decide_eq_true (show (L : Int) > 1 by omega)]; rfl) ?_
          refine (Dead_spec (h.ext E) hl k day n).weak.mono ?_
          rintro _ wz ⟨rfl, ez⟩
          have E := E.trans ez
          have eH := eH.trans ez
          rw [hdead]
          refine (Holders_spec (h.ext E) hl k day s 2).weak.mono ?_
          rintro _ wz ⟨hoz, ez⟩
          have E := E.trans ez
          have eH := eH.trans ez
          obtain ⟨Az, cz, rfl, hrz, _⟩ := NewInts.slice hoz
          have s1 := has_spec (c := cz) hrz (hlen 2 2) n
          rw [decide_eq_true (f10 rfl (by decide))] at s1
          refine s1.weak.mono ?_
          rintro _ wz ⟨rfl, ez⟩
          have E := E.trans ez
          have eH := eH.trans ez
          refine (alive_spec _ (T.ext E)).mono ?_
          rintro _ wz ⟨rfl, ez⟩
          have E := E.trans ez
          refine (HoldsClass_spec (h.ext E) hl k day n s).weak.mono ?_
          rintro _ wz ⟨rfl, ez⟩
          exact ⟨by rw [decide_eq_true f11], E.trans ez⟩
      | true =>
        have hne : ¬ p = n := fun e => by have hh := f6 rfl e; exact absurd hh.1 (by decide)
        have hpm := f1 rfl
        have hLp := hmemL _ hpm
        by_cases hL : L = 1
        ·
          clear f2
          have hdead : deadB (atL k day l) n = false := by
            cases hd : deadB (atL k day l) n with
            | false => rfl
            | true => exact absurd (f7 hd).1 (by decide)
          have s1 := hhas p eH
          rw [decide_eq_true hpm] at s1
          refine s1.weak.mono ?_
          rintro _ wz ⟨rfl, ez⟩
          have E := E.trans ez
          have eH := eH.trans ez
          refine brE_dec (fun hh => ?_) (fun hh => (hh (show (L : Int) = 1 by omega)).elim)
          refine brE_dec (fun hh => absurd hh (show ¬ (L : Int) = 0 by omega)) (fun hh => ?_)
          refine (Contested_spec (h.ext E) hl k day).weak.mono ?_
          rintro _ wz ⟨hoz, ez⟩
          have E := E.trans ez
          have eH := eH.trans ez
          obtain ⟨Az, cz, rfl, hrz, _⟩ := NewInts.slice hoz
          have s1 := has_spec (c := cz) hrz hclen s
          rw [decide_eq_false (fun hh => absurd (hcont.1 hh) (by omega))] at s1
          refine s1.weak.mono ?_
          rintro _ wz ⟨rfl, ez⟩
          have E := E.trans ez
          have eH := eH.trans ez
          refine ⟨_, neqBool _ _ _ _, ?_⟩
          refine brE_false (by rw [decide_eq_false (show ¬ (L : Int) > 1 by omega)]; rfl) ?_
          refine brE_false (decide_eq_false hne) ?_
          refine (Dead_spec (h.ext E) hl k day n).weak.mono ?_
          rintro _ wz ⟨rfl, ez⟩
          have E := E.trans ez
          have eH := eH.trans ez
          rw [hdead]
          refine (Holders_spec (h.ext E) hl k day s 2).weak.mono ?_
          rintro _ wz ⟨hoz, ez⟩
          have E := E.trans ez
          have eH := eH.trans ez
          obtain ⟨Az, cz, rfl, hrz, _⟩ := NewInts.slice hoz
          have s1 := has_spec (c := cz) hrz (hlen 2 2) n
          rw [decide_eq_true (f10 rfl (by decide))] at s1
          refine s1.weak.mono ?_
          rintro _ wz ⟨rfl, ez⟩
          have E := E.trans ez
          have eH := eH.trans ez
          refine (alive_spec _ (T.ext E)).mono ?_
          rintro _ wz ⟨rfl, ez⟩
          have E := E.trans ez
          refine (HoldsClass_spec (h.ext E) hl k day n s).weak.mono ?_
          rintro _ wz ⟨rfl, ez⟩
          exact ⟨by rw [decide_eq_true f11], E.trans ez⟩
        ·
          clear f2
          have hdead : deadB (atL k day l) n = false := by
            cases hd : deadB (atL k day l) n with
            | false => rfl
            | true => exact absurd (f7 hd).1 (by decide)
          have s1 := hhas p eH
          rw [decide_eq_true hpm] at s1
          refine s1.weak.mono ?_
          rintro _ wz ⟨rfl, ez⟩
          have E := E.trans ez
          have eH := eH.trans ez
          refine brE_dec (fun hh => absurd hh (show ¬ (L : Int) = 1 by omega)) (fun hh => ?_)
          refine brE_dec (fun hh => absurd hh (show ¬ (L : Int) = 0 by omega)) (fun hh => ?_)
          refine (Contested_spec (h.ext E) hl k day).weak.mono ?_
          rintro _ wz ⟨hoz, ez⟩
          have E := E.trans ez
          have eH := eH.trans ez
          obtain ⟨Az, cz, rfl, hrz, _⟩ := NewInts.slice hoz
          have s1 := has_spec (c := cz) hrz hclen s
          rw [decide_eq_true (hcont.2 (by omega))] at s1
          refine s1.weak.mono ?_
          rintro _ wz ⟨rfl, ez⟩
          have E := E.trans ez
          have eH := eH.trans ez
          refine ⟨_, neqBool _ _ _ _, ?_⟩
          refine brE_false (by rw [decide_eq_true (show (L : Int) > 1 by omega)]; rfl) ?_
          refine brE_false (decide_eq_false hne) ?_
          refine (Dead_spec (h.ext E) hl k day n).weak.mono ?_
          rintro _ wz ⟨rfl, ez⟩
          have E := E.trans ez
          have eH := eH.trans ez
          rw [hdead]
          refine (Holders_spec (h.ext E) hl k day s 2).weak.mono ?_
          rintro _ wz ⟨hoz, ez⟩
          have E := E.trans ez
          have eH := eH.trans ez
          obtain ⟨Az, cz, rfl, hrz, _⟩ := NewInts.slice hoz
          have s1 := has_spec (c := cz) hrz (hlen 2 2) n
          rw [decide_eq_true (f10 rfl (by decide))] at s1
          refine s1.weak.mono ?_
          rintro _ wz ⟨rfl, ez⟩
          have E := E.trans ez
          have eH := eH.trans ez
          refine (alive_spec _ (T.ext E)).mono ?_
          rintro _ wz ⟨rfl, ez⟩
          have E := E.trans ez
          refine (HoldsClass_spec (h.ext E) hl k day n s).weak.mono ?_
          rintro _ wz ⟨rfl, ez⟩
          exact ⟨by rw [decide_eq_true f11], E.trans ez⟩
    | true =>
      cases is with
      | false =>
        have hL1 : L ≠ 1 := fun e => by have := f2 e; cases this
        by_cases hL : L = 0
        ·
          have hdead : deadB (atL k day l) n = false := by
            cases hd : deadB (atL k day l) n with
            | false => rfl
            | true => exact absurd (f7 hd).1 (by decide)
          refine brE_dec (fun hh => absurd hh (show ¬ (L : Int) = 1 by omega)) (fun hh => ?_)
          refine brE_dec (fun hh => ?_) (fun hh => (hh (show (L : Int) = 0 by omega)).elim)
          refine (Contested_spec (h.ext E) hl k day).weak.mono ?_
          rintro _ wz ⟨hoz, ez⟩
          have E := E.trans ez
          have eH := eH.trans ez
          obtain ⟨Az, cz, rfl, hrz, _⟩ := NewInts.slice hoz
          have s1 := has_spec (c := cz) hrz hclen s
          rw [decide_eq_false (fun hh => absurd (hcont.1 hh) (by omega))] at s1
          refine s1.weak.mono ?_
          rintro _ wz ⟨rfl, ez⟩
          have E := E.trans ez
          have eH := eH.trans ez
          refine ⟨_, neqBool _ _ _ _, ?_⟩
          refine brE_false (by rw [decide_eq_false (show ¬ (L : Int) > 1 by omega)]; rfl) ?_
          refine (Dead_spec (h.ext E) hl k day n).weak.mono ?_
          rintro _ wz ⟨rfl, ez⟩
          have E := E.trans ez
          have eH := eH.trans ez
          rw [hdead]
          refine (Acting_spec (h.ext E) hl k day s 2).weak.mono ?_
          rintro _ wz ⟨hoz, ez⟩
          have E := E.trans ez
          have eH := eH.trans ez
          obtain ⟨Az, cz, rfl, hrz, _⟩ := NewInts.slice hoz
          have s1 := has_spec (c := cz) hrz (hlen 3 2) n
          rw [decide_eq_true (f9 rfl)] at s1
          refine s1.weak.mono ?_
          rintro _ wz ⟨rfl, ez⟩
          have E := E.trans ez
          have eH := eH.trans ez
          refine (alive_spec _ (T.ext E)).mono ?_
          rintro _ wz ⟨rfl, ez⟩
          have E := E.trans ez
          refine (HoldsClass_spec (h.ext E) hl k day n s).weak.mono ?_
          rintro _ wz ⟨rfl, ez⟩
          exact ⟨by rw [decide_eq_true f11], E.trans ez⟩
        ·
          have hdead : deadB (atL k day l) n = false := by
            cases hd : deadB (atL k day l) n with
            | false => rfl
            | true => exact absurd (f7 hd).1 (by decide)
          refine brE_dec (fun hh => absurd hh (show ¬ (L : Int) = 1 by omega)) (fun hh => ?_)
          refine brE_dec (fun hh => absurd hh (show ¬ (L : Int) = 0 by omega)) (fun hh => ?_)
          refine (Contested_spec (h.ext E) hl k day).weak.mono ?_
          rintro _ wz ⟨hoz, ez⟩
          have E := E.trans ez
          have eH := eH.trans ez
          obtain ⟨Az, cz, rfl, hrz, _⟩ := NewInts.slice hoz
          have s1 := has_spec (c := cz) hrz hclen s
          rw [decide_eq_true (hcont.2 (by omega))] at s1
          refine s1.weak.mono ?_
          rintro _ wz ⟨rfl, ez⟩
          have E := E.trans ez
          have eH := eH.trans ez
          refine ⟨_, neqBool _ _ _ _, ?_⟩
          refine brE_false (by rw [decide_eq_true (show (L : Int) > 1 by omega)]; rfl) ?_
          refine (Dead_spec (h.ext E) hl k day n).weak.mono ?_
          rintro _ wz ⟨rfl, ez⟩
          have E := E.trans ez
          have eH := eH.trans ez
          rw [hdead]
          refine (Acting_spec (h.ext E) hl k day s 2).weak.mono ?_
          rintro _ wz ⟨hoz, ez⟩
          have E := E.trans ez
          have eH := eH.trans ez
          obtain ⟨Az, cz, rfl, hrz, _⟩ := NewInts.slice hoz
          have s1 := has_spec (c := cz) hrz (hlen 3 2) n
          rw [decide_eq_true (f9 rfl)] at s1
          refine s1.weak.mono ?_
          rintro _ wz ⟨rfl, ez⟩
          have E := E.trans ez
          have eH := eH.trans ez
          refine (alive_spec _ (T.ext E)).mono ?_
          rintro _ wz ⟨rfl, ez⟩
          have E := E.trans ez
          refine (HoldsClass_spec (h.ext E) hl k day n s).weak.mono ?_
          rintro _ wz ⟨rfl, ez⟩
          exact ⟨by rw [decide_eq_true f11], E.trans ez⟩
      | true =>
        have hne : ¬ p = n := fun e => by have hh := f6 rfl e; cases hh.2
        have hpm := f1 rfl
        have hLp := hmemL _ hpm
        by_cases hL : L = 1
        ·
          clear f2
          have hdead : deadB (atL k day l) n = false := by
            cases hd : deadB (atL k day l) n with
            | false => rfl
            | true => exact absurd (f7 hd).1 (by decide)
          have s1 := hhas p eH
          rw [decide_eq_true hpm] at s1
          refine s1.weak.mono ?_
          rintro _ wz ⟨rfl, ez⟩
          have E := E.trans ez
          have eH := eH.trans ez
          refine brE_dec (fun hh => ?_) (fun hh => (hh (show (L : Int) = 1 by omega)).elim)
          refine brE_dec (fun hh => absurd hh (show ¬ (L : Int) = 0 by omega)) (fun hh => ?_)
          refine (Contested_spec (h.ext E) hl k day).weak.mono ?_
          rintro _ wz ⟨hoz, ez⟩
          have E := E.trans ez
          have eH := eH.trans ez
          obtain ⟨Az, cz, rfl, hrz, _⟩ := NewInts.slice hoz
          have s1 := has_spec (c := cz) hrz hclen s
          rw [decide_eq_false (fun hh => absurd (hcont.1 hh) (by omega))] at s1
          refine s1.weak.mono ?_
          rintro _ wz ⟨rfl, ez⟩
          have E := E.trans ez
          have eH := eH.trans ez
          refine ⟨_, neqBool _ _ _ _, ?_⟩
          refine brE_false (by rw [decide_eq_false (show ¬ (L : Int) > 1 by omega)]; rfl) ?_
          refine brE_false (decide_eq_false hne) ?_
          refine (Dead_spec (h.ext E) hl k day n).weak.mono ?_
          rintro _ wz ⟨rfl, ez⟩
          have E := E.trans ez
          have eH := eH.trans ez
          rw [hdead]
          refine (Acting_spec (h.ext E) hl k day s 2).weak.mono ?_
          rintro _ wz ⟨hoz, ez⟩
          have E := E.trans ez
          have eH := eH.trans ez
          obtain ⟨Az, cz, rfl, hrz, _⟩ := NewInts.slice hoz
          have s1 := has_spec (c := cz) hrz (hlen 3 2) n
          rw [decide_eq_true (f9 rfl)] at s1
          refine s1.weak.mono ?_
          rintro _ wz ⟨rfl, ez⟩
          have E := E.trans ez
          have eH := eH.trans ez
          refine (alive_spec _ (T.ext E)).mono ?_
          rintro _ wz ⟨rfl, ez⟩
          have E := E.trans ez
          refine (HoldsClass_spec (h.ext E) hl k day n s).weak.mono ?_
          rintro _ wz ⟨rfl, ez⟩
          exact ⟨by rw [decide_eq_true f11], E.trans ez⟩
        ·
          clear f2
          have hdead : deadB (atL k day l) n = false := by
            cases hd : deadB (atL k day l) n with
            | false => rfl
            | true => exact absurd (f7 hd).1 (by decide)
          have s1 := hhas p eH
          rw [decide_eq_true hpm] at s1
          refine s1.weak.mono ?_
          rintro _ wz ⟨rfl, ez⟩
          have E := E.trans ez
          have eH := eH.trans ez
          refine brE_dec (fun hh => absurd hh (show ¬ (L : Int) = 1 by omega)) (fun hh => ?_)
          refine brE_dec (fun hh => absurd hh (show ¬ (L : Int) = 0 by omega)) (fun hh => ?_)
          refine (Contested_spec (h.ext E) hl k day).weak.mono ?_
          rintro _ wz ⟨hoz, ez⟩
          have E := E.trans ez
          have eH := eH.trans ez
          obtain ⟨Az, cz, rfl, hrz, _⟩ := NewInts.slice hoz
          have s1 := has_spec (c := cz) hrz hclen s
          rw [decide_eq_true (hcont.2 (by omega))] at s1
          refine s1.weak.mono ?_
          rintro _ wz ⟨rfl, ez⟩
          have E := E.trans ez
          have eH := eH.trans ez
          refine ⟨_, neqBool _ _ _ _, ?_⟩
          refine brE_false (by rw [decide_eq_true (show (L : Int) > 1 by omega)]; rfl) ?_
          refine brE_false (decide_eq_false hne) ?_
          refine (Dead_spec (h.ext E) hl k day n).weak.mono ?_
          rintro _ wz ⟨rfl, ez⟩
          have E := E.trans ez
          have eH := eH.trans ez
          rw [hdead]
          refine (Acting_spec (h.ext E) hl k day s 2).weak.mono ?_
          rintro _ wz ⟨hoz, ez⟩
          have E := E.trans ez
          have eH := eH.trans ez
          obtain ⟨Az, cz, rfl, hrz, _⟩ := NewInts.slice hoz
          have s1 := has_spec (c := cz) hrz (hlen 3 2) n
          rw [decide_eq_true (f9 rfl)] at s1
          refine s1.weak.mono ?_
          rintro _ wz ⟨rfl, ez⟩
          have E := E.trans ez
          have eH := eH.trans ez
          refine (alive_spec _ (T.ext E)).mono ?_
          rintro _ wz ⟨rfl, ez⟩
          have E := E.trans ez
          refine (HoldsClass_spec (h.ext E) hl k day n s).weak.mono ?_
          rintro _ wz ⟨rfl, ez⟩
          exact ⟨by rw [decide_eq_true f11], E.trans ez⟩
  ·
    cases a with
    | false =>
      cases is with
      | false =>
        have hL1 : L ≠ 1 := fun e => by have := f2 e; cases this
        by_cases hL : L = 0
        ·
          have hdead : deadB (atL k day l) n = false := by
            cases hd : deadB (atL k day l) n with
            | false => rfl
            | true => exact absurd (f7 hd).1 (by decide)
          refine brE_dec (fun hh => absurd hh (show ¬ (L : Int) = 1 by omega)) (fun hh => ?_)
          refine brE_dec (fun hh => ?_) (fun hh => (hh (show (L : Int) = 0 by omega)).elim)
          refine (Contested_spec (h.ext E) hl k day).weak.mono ?_
          rintro _ wz ⟨hoz, ez⟩
          have E := E.trans ez
          have eH := eH.trans ez
          obtain ⟨Az, cz, rfl, hrz, _⟩ := NewInts.slice hoz
          have s1 := has_spec (c := cz) hrz hclen s
          rw [decide_eq_false (fun hh => absurd (hcont.1 hh) (by omega))] at s1
          refine s1.weak.mono ?_
          rintro _ wz ⟨rfl, ez⟩
          have E := E.trans ez
          have eH := eH.trans ez
          refine ⟨_, neqBool _ _ _ _, ?_⟩
          refine brE_false (by rw [decide_eq_false (show ¬ (L : Int) > 1 by omega)]; rfl) ?_
          refine (Dead_spec (h.ext E) hl k day n).weak.mono ?_
          rintro _ wz ⟨rfl, ez⟩
          have E := E.trans ez
          have eH := eH.trans ez
          rw [hdead]
          refine (Holders_spec (h.ext E) hl k day s 3).weak.mono ?_
          rintro _ wz ⟨hoz, ez⟩
          have E := E.trans ez
          have eH := eH.trans ez
          obtain ⟨Az, cz, rfl, hrz, _⟩ := NewInts.slice hoz
          have s1 := has_spec (c := cz) hrz (hlen 2 3) n
          rw [decide_eq_true (f10 rfl (by decide))] at s1
          refine s1.weak.mono ?_
          rintro _ wz ⟨rfl, ez⟩
          have E := E.trans ez
          have eH := eH.trans ez
          refine (alive_spec _ (T.ext E)).mono ?_
          rintro _ wz ⟨rfl, ez⟩
          have E := E.trans ez
          refine (HoldsClass_spec (h.ext E) hl k day n s).weak.mono ?_
          rintro _ wz ⟨rfl, ez⟩
          exact ⟨by rw [decide_eq_true f11], E.trans ez⟩
        ·
          have hdead : deadB (atL k day l) n = false := by
            cases hd : deadB (atL k day l) n with
            | false => rfl
            | true => exact absurd (f7 hd).1 (by decide)
          refine brE_dec (fun hh => absurd hh (show ¬ (L : Int) = 1 by omega)) (fun hh => ?_)
          refine brE_dec (fun hh => absurd hh (show ¬ (L : Int) = 0 by omega)) (fun hh => ?_)
          refine (Contested_spec (h.ext E) hl k day).weak.mono ?_
          rintro _ wz ⟨hoz, ez⟩
          have E := E.trans ez
          have eH := eH.trans ez
          obtain ⟨Az, cz, rfl, hrz, _⟩ := NewInts.slice hoz
          have s1 := has_spec (c := cz) hrz hclen s
          rw [decide_eq_true (hcont.2 (by omega))] at s1
          refine s1.weak.mono ?_
          rintro _ wz ⟨rfl, ez⟩
          have E := E.trans ez
          have eH := eH.trans ez
          refine ⟨_, neqBool _ _ _ _, ?_⟩
          refine brE_false (by rw [decide_eq_true (show (L : Int) > 1 by omega)]; rfl) ?_
          refine (Dead_spec (h.ext E) hl k day n).weak.mono ?_
          rintro _ wz ⟨rfl, ez⟩
          have E := E.trans ez
          have eH := eH.trans ez
          rw [hdead]
          refine (Holders_spec (h.ext E) hl k day s 3).weak.mono ?_
          rintro _ wz ⟨hoz, ez⟩
          have E := E.trans ez
          have eH := eH.trans ez
          obtain ⟨Az, cz, rfl, hrz, _⟩ := NewInts.slice hoz
          have s1 := has_spec (c := cz) hrz (hlen 2 3) n
          rw [decide_eq_true (f10 rfl (by decide))] at s1
          refine s1.weak.mono ?_
          rintro _ wz ⟨rfl, ez⟩
          have E := E.trans ez
          have eH := eH.trans ez
          refine (alive_spec _ (T.ext E)).mono ?_
          rintro _ wz ⟨rfl, ez⟩
          have E := E.trans ez
          refine (HoldsClass_spec (h.ext E) hl k day n s).weak.mono ?_
          rintro _ wz ⟨rfl, ez⟩
          exact ⟨by rw [decide_eq_true f11], E.trans ez⟩
      | true =>
        have hne : ¬ p = n := fun e => by have hh := f6 rfl e; exact absurd hh.1 (by decide)
        have hpm := f1 rfl
        have hLp := hmemL _ hpm
        by_cases hL : L = 1
        ·
          clear f2
          have hdead : deadB (atL k day l) n = false := by
            cases hd : deadB (atL k day l) n with
            | false => rfl
            | true => exact absurd (f7 hd).1 (by decide)
          have s1 := hhas p eH
          rw [decide_eq_true hpm] at s1
          refine s1.weak.mono ?_
          rintro _ wz ⟨rfl, ez⟩
          have E := E.trans ez
          have eH := eH.trans ez
          refine brE_dec (fun hh => ?_) (fun hh => (hh (show (L : Int) = 1 by omega)).elim)
          refine brE_dec (fun hh => absurd hh (show ¬ (L : Int) = 0 by omega)) (fun hh => ?_)
          refine (Contested_spec (h.ext E) hl k day).weak.mono ?_
          rintro _ wz ⟨hoz, ez⟩
          have E := E.trans ez
          have eH := eH.trans ez
          obtain ⟨Az, cz, rfl, hrz, _⟩ := NewInts.slice hoz
          have s1 := has_spec (c := cz) hrz hclen s
          rw [decide_eq_false (fun hh => absurd (hcont.1 hh) (by omega))] at s1
          refine s1.weak.mono ?_
          rintro _ wz ⟨rfl, ez⟩
          have E := E.trans ez
          have eH := eH.trans ez
          refine ⟨_, neqBool _ _ _ _, ?_⟩
          refine brE_false (by rw [decide_eq_false (show ¬ (L : Int) > 1 by omega)]; rfl) ?_
          refine brE_false (decide_eq_false hne) ?_
          refine (Dead_spec (h.ext E) hl k day n).weak.mono ?_
          rintro _ wz ⟨rfl, ez⟩
          have E := E.trans ez
          have eH := eH.trans ez
          rw [hdead]
          refine (Holders_spec (h.ext E) hl k day s 3).weak.mono ?_
          rintro _ wz ⟨hoz, ez⟩
          have E := E.trans ez
          have eH := eH.trans ez
          obtain ⟨Az, cz, rfl, hrz, _⟩ := NewInts.slice hoz
          have s1 := has_spec (c := cz) hrz (hlen 2 3) n
          rw [decide_eq_true (f10 rfl (by decide))] at s1
          refine s1.weak.mono ?_
          rintro _ wz ⟨rfl, ez⟩
          have E := E.trans ez
          have eH := eH.trans ez
          refine (alive_spec _ (T.ext E)).mono ?_
          rintro _ wz ⟨rfl, ez⟩
          have E := E.trans ez
          refine (HoldsClass_spec (h.ext E) hl k day n s).weak.mono ?_
          rintro _ wz ⟨rfl, ez⟩
          exact ⟨by rw [decide_eq_true f11], E.trans ez⟩
        ·
          clear f2
          have hdead : deadB (atL k day l) n = false := by
            cases hd : deadB (atL k day l) n with
            | false => rfl
            | true => exact absurd (f7 hd).1 (by decide)
          have s1 := hhas p eH
          rw [decide_eq_true hpm] at s1
          refine s1.weak.mono ?_
          rintro _ wz ⟨rfl, ez⟩
          have E := E.trans ez
          have eH := eH.trans ez
          refine brE_dec (fun hh => absurd hh (show ¬ (L : Int) = 1 by omega)) (fun hh => ?_)
          refine brE_dec (fun hh => absurd hh (show ¬ (L : Int) = 0 by omega)) (fun hh => ?_)
          refine (Contested_spec (h.ext E) hl k day).weak.mono ?_
          rintro _ wz ⟨hoz, ez⟩
          have E := E.trans ez
          have eH := eH.trans ez
          obtain ⟨Az, cz, rfl, hrz, _⟩ := NewInts.slice hoz
          have s1 := has_spec (c := cz) hrz hclen s
          rw [decide_eq_true (hcont.2 (by omega))] at s1
          refine s1.weak.mono ?_
          rintro _ wz ⟨rfl, ez⟩
          have E := E.trans ez
          have eH := eH.trans ez
          refine ⟨_, neqBool _ _ _ _, ?_⟩
          refine brE_false (by rw [decide_eq_true (show (L : Int) > 1 by omega)]; rfl) ?_
          refine brE_false (decide_eq_false hne) ?_
          refine (Dead_spec (h.ext E) hl k day n).weak.mono ?_
          rintro _ wz ⟨rfl, ez⟩
          have E := E.trans ez
          have eH := eH.trans ez
          rw [hdead]
          refine (Holders_spec (h.ext E) hl k day s 3).weak.mono ?_
          rintro _ wz ⟨hoz, ez⟩
          have E := E.trans ez
          have eH := eH.trans ez
          obtain ⟨Az, cz, rfl, hrz, _⟩ := NewInts.slice hoz
          have s1 := has_spec (c := cz) hrz (hlen 2 3) n
          rw [decide_eq_true (f10 rfl (by decide))] at s1
          refine s1.weak.mono ?_
          rintro _ wz ⟨rfl, ez⟩
          have E := E.trans ez
          have eH := eH.trans ez
          refine (alive_spec _ (T.ext E)).mono ?_
          rintro _ wz ⟨rfl, ez⟩
          have E := E.trans ez
          refine (HoldsClass_spec (h.ext E) hl k day n s).weak.mono ?_
          rintro _ wz ⟨rfl, ez⟩
          exact ⟨by rw [decide_eq_true f11], E.trans ez⟩
    | true =>
      cases is with
      | false =>
        have hL1 : L ≠ 1 := fun e => by have := f2 e; cases this
        by_cases hL : L = 0
        ·
          have hdead : deadB (atL k day l) n = false := by
            cases hd : deadB (atL k day l) n with
            | false => rfl
            | true => exact absurd (f7 hd).1 (by decide)
          refine brE_dec (fun hh => absurd hh (show ¬ (L : Int) = 1 by omega)) (fun hh => ?_)
          refine brE_dec (fun hh => ?_) (fun hh => (hh (show (L : Int) = 0 by omega)).elim)
          refine (Contested_spec (h.ext E) hl k day).weak.mono ?_
          rintro _ wz ⟨hoz, ez⟩
          have E := E.trans ez
          have eH := eH.trans ez
          obtain ⟨Az, cz, rfl, hrz, _⟩ := NewInts.slice hoz
          have s1 := has_spec (c := cz) hrz hclen s
          rw [decide_eq_false (fun hh => absurd (hcont.1 hh) (by omega))] at s1
          refine s1.weak.mono ?_
          rintro _ wz ⟨rfl, ez⟩
          have E := E.trans ez
          have eH := eH.trans ez
          refine ⟨_, neqBool _ _ _ _, ?_⟩
          refine brE_false (by rw [decide_eq_false (show ¬ (L : Int) > 1 by omega)]; rfl) ?_
          refine (Dead_spec (h.ext E) hl k day n).weak.mono ?_
          rintro _ wz ⟨rfl, ez⟩
          have E := E.trans ez
          have eH := eH.trans ez
          rw [hdead]
          refine (Acting_spec (h.ext E) hl k day s 3).weak.mono ?_
          rintro _ wz ⟨hoz, ez⟩
          have E := E.trans ez
          have eH := eH.trans ez
          obtain ⟨Az, cz, rfl, hrz, _⟩ := NewInts.slice hoz
          have s1 := has_spec (c := cz) hrz (hlen 3 3) n
          rw [decide_eq_true (f9 rfl)] at s1
          refine s1.weak.mono ?_
          rintro _ wz ⟨rfl, ez⟩
          have E := E.trans ez
          have eH := eH.trans ez
          refine (alive_spec _ (T.ext E)).mono ?_
          rintro _ wz ⟨rfl, ez⟩
          have E := E.trans ez
          refine (HoldsClass_spec (h.ext E) hl k day n s).weak.mono ?_
          rintro _ wz ⟨rfl, ez⟩
          exact ⟨by rw [decide_eq_true f11], E.trans ez⟩
        ·
          have hdead : deadB (atL k day l) n = false := by
            cases hd : deadB (atL k day l) n with
            | false => rfl
            | true => exact absurd (f7 hd).1 (by decide)
          refine brE_dec (fun hh => absurd hh (show ¬ (L : Int) = 1 by omega)) (fun hh => ?_)
          refine brE_dec (fun hh => absurd hh (show ¬ (L : Int) = 0 by omega)) (fun hh => ?_)
          refine (Contested_spec (h.ext E) hl k day).weak.mono ?_
          rintro _ wz ⟨hoz, ez⟩
          have E := E.trans ez
          have eH := eH.trans ez
          obtain ⟨Az, cz, rfl, hrz, _⟩ := NewInts.slice hoz
          have s1 := has_spec (c := cz) hrz hclen s
          rw [decide_eq_true (hcont.2 (by omega))] at s1
          refine s1.weak.mono ?_
          rintro _ wz ⟨rfl, ez⟩
          have E := E.trans ez
          have eH := eH.trans ez
          refine ⟨_, neqBool _ _ _ _, ?_⟩
          refine brE_false (by rw [decide_eq_true (show (L : Int) > 1 by omega)]; rfl) ?_
          refine (Dead_spec (h.ext E) hl k day n).weak.mono ?_
          rintro _ wz ⟨rfl, ez⟩
          have E := E.trans ez
          have eH := eH.trans ez
          rw [hdead]
          refine (Acting_spec (h.ext E) hl k day s 3).weak.mono ?_
          rintro _ wz ⟨hoz, ez⟩
          have E := E.trans ez
          have eH := eH.trans ez
          obtain ⟨Az, cz, rfl, hrz, _⟩ := NewInts.slice hoz
          have s1 := has_spec (c := cz) hrz (hlen 3 3) n
          rw [decide_eq_true (f9 rfl)] at s1
          refine s1.weak.mono ?_
          rintro _ wz ⟨rfl, ez⟩
          have E := E.trans ez
          have eH := eH.trans ez
          refine (alive_spec _ (T.ext E)).mono ?_
          rintro _ wz ⟨rfl, ez⟩
          have E := E.trans ez
          refine (HoldsClass_spec (h.ext E) hl k day n s).weak.mono ?_
          rintro _ wz ⟨rfl, ez⟩
          exact ⟨by rw [decide_eq_true f11], E.trans ez⟩
      | true =>
        have hne : ¬ p = n := fun e => by have hh := f6 rfl e; cases hh.2
        have hpm := f1 rfl
        have hLp := hmemL _ hpm
        by_cases hL : L = 1
        ·
          clear f2
          have hdead : deadB (atL k day l) n = false := by
            cases hd : deadB (atL k day l) n with
            | false => rfl
            | true => exact absurd (f7 hd).1 (by decide)
          have s1 := hhas p eH
          rw [decide_eq_true hpm] at s1
          refine s1.weak.mono ?_
          rintro _ wz ⟨rfl, ez⟩
          have E := E.trans ez
          have eH := eH.trans ez
          refine brE_dec (fun hh => ?_) (fun hh => (hh (show (L : Int) = 1 by omega)).elim)
          refine brE_dec (fun hh => absurd hh (show ¬ (L : Int) = 0 by omega)) (fun hh => ?_)
          refine (Contested_spec (h.ext E) hl k day).weak.mono ?_
          rintro _ wz ⟨hoz, ez⟩
          have E := E.trans ez
          have eH := eH.trans ez
          obtain ⟨Az, cz, rfl, hrz, _⟩ := NewInts.slice hoz
          have s1 := has_spec (c := cz) hrz hclen s
          rw [decide_eq_false (fun hh => absurd (hcont.1 hh) (by omega))] at s1
          refine s1.weak.mono ?_
          rintro _ wz ⟨rfl, ez⟩
          have E := E.trans ez
          have eH := eH.trans ez
          refine ⟨_, neqBool _ _ _ _, ?_⟩
          refine brE_false (by rw [decide_eq_false (show ¬ (L : Int) > 1 by omega)]; rfl) ?_
          refine brE_false (decide_eq_false hne) ?_
          refine (Dead_spec (h.ext E) hl k day n).weak.mono ?_
          rintro _ wz ⟨rfl, ez⟩
          have E := E.trans ez
          have eH := eH.trans ez
          rw [hdead]
          refine (Acting_spec (h.ext E) hl k day s 3).weak.mono ?_
          rintro _ wz ⟨hoz, ez⟩
          have E := E.trans ez
          have eH := eH.trans ez
          obtain ⟨Az, cz, rfl, hrz, _⟩ := NewInts.slice hoz
          have s1 := has_spec (c := cz) hrz (hlen 3 3) n
          rw [decide_eq_true (f9 rfl)] at s1
          refine s1.weak.mono ?_
          rintro _ wz ⟨rfl, ez⟩
          have E := E.trans ez
          have eH := eH.trans ez
          refine (alive_spec _ (T.ext E)).mono ?_
          rintro _ wz ⟨rfl, ez⟩
          have E := E.trans ez
          refine (HoldsClass_spec (h.ext E) hl k day n s).weak.mono ?_
          rintro _ wz ⟨rfl, ez⟩
          exact ⟨by rw [decide_eq_true f11], E.trans ez⟩
        ·
          clear f2
          have hdead : deadB (atL k day l) n = false := by
            cases hd : deadB (atL k day l) n with
            | false => rfl
            | true => exact absurd (f7 hd).1 (by decide)
          have s1 := hhas p eH
          rw [decide_eq_true hpm] at s1
          refine s1.weak.mono ?_
          rintro _ wz ⟨rfl, ez⟩
          have E := E.trans ez
          have eH := eH.trans ez
          refine brE_dec (fun hh => absurd hh (show ¬ (L : Int) = 1 by omega)) (fun hh => ?_)
          refine brE_dec (fun hh => absurd hh (show ¬ (L : Int) = 0 by omega)) (fun hh => ?_)
          refine (Contested_spec (h.ext E) hl k day).weak.mono ?_
          rintro _ wz ⟨hoz, ez⟩
          have E := E.trans ez
          have eH := eH.trans ez
          obtain ⟨Az, cz, rfl, hrz, _⟩ := NewInts.slice hoz
          have s1 := has_spec (c := cz) hrz hclen s
          rw [decide_eq_true (hcont.2 (by omega))] at s1
          refine s1.weak.mono ?_
          rintro _ wz ⟨rfl, ez⟩
          have E := E.trans ez
          have eH := eH.trans ez
          refine ⟨_, neqBool _ _ _ _, ?_⟩
          refine brE_false (by rw [decide_eq_true (show (L : Int) > 1 by omega)]; rfl) ?_
          refine brE_false (decide_eq_false hne) ?_
          refine (Dead_spec (h.ext E) hl k day n).weak.mono ?_
          rintro _ wz ⟨rfl, ez⟩
          have E := E.trans ez
          have eH := eH.trans ez
          rw [hdead]
          refine (Acting_spec (h.ext E) hl k day s 3).weak.mono ?_
          rintro _ wz ⟨hoz, ez⟩
          have E := E.trans ez
          have eH := eH.trans ez
          obtain ⟨Az, cz, rfl, hrz, _⟩ := NewInts.slice hoz
          have s1 := has_spec (c := cz) hrz (hlen 3 3) n
          rw [decide_eq_true (f9 rfl)] at s1
          refine s1.weak.mono ?_
          rintro _ wz ⟨rfl, ez⟩
          have E := E.trans ez
          have eH := eH.trans ez
          refine (alive_spec _ (T.ext E)).mono ?_
          rintro _ wz ⟨rfl, ez⟩
          have E := E.trans ez
          refine (HoldsClass_spec (h.ext E) hl k day n s).weak.mono ?_
          rintro _ wz ⟨rfl, ez⟩
          exact ⟨by rw [decide_eq_true f11], E.trans ez⟩
  ·
    cases a with
    | false =>
      cases is with
      | false =>
        have hL1 : L ≠ 1 := fun e => by have := f2 e; cases this
        by_cases hL : L = 0
        ·
          have hdead : deadB (atL k day l) n = false := by
            cases hd : deadB (atL k day l) n with
            | false => rfl
            | true => exact absurd (f7 hd).1 (by decide)
          refine brE_dec (fun hh => absurd hh (show ¬ (L : Int) = 1 by omega)) (fun hh => ?_)
          refine brE_dec (fun hh => ?_) (fun hh => (hh (show (L : Int) = 0 by omega)).elim)
          refine (Contested_spec (h.ext E) hl k day).weak.mono ?_
          rintro _ wz ⟨hoz, ez⟩
          have E := E.trans ez
          have eH := eH.trans ez
          obtain ⟨Az, cz, rfl, hrz, _⟩ := NewInts.slice hoz
          have s1 := has_spec (c := cz) hrz hclen s
          rw [decide_eq_false (fun hh => absurd (hcont.1 hh) (by omega))] at s1
          refine s1.weak.mono ?_
          rintro _ wz ⟨rfl, ez⟩
          have E := E.trans ez
          have eH := eH.trans ez
          refine ⟨_, neqBool _ _ _ _, ?_⟩
          refine brE_false (by rw [decide_eq_false (show ¬ (L : Int) > 1 by omega)]; rfl) ?_
          refine (Dead_spec (h.ext E) hl k day n).weak.mono ?_
          rintro _ wz ⟨rfl, ez⟩
          have E := E.trans ez
          have eH := eH.trans ez
          rw [hdead]
          refine (Holders_spec (h.ext E) hl k day s 4).weak.mono ?_
          rintro _ wz ⟨hoz, ez⟩
          have E := E.trans ez
          have eH := eH.trans ez
          obtain ⟨Az, cz, rfl, hrz, _⟩ := NewInts.slice hoz
          have s1 := has_spec (c := cz) hrz (hlen 2 4) n
          rw [decide_eq_true (f10 rfl (by decide))] at s1
          refine s1.weak.mono ?_
          rintro _ wz ⟨rfl, ez⟩
          have E := E.trans ez
          have eH := eH.trans ez
          refine (alive_spec _ (T.ext E)).mono ?_
          rintro _ wz ⟨rfl, ez⟩
          have E := E.trans ez
          refine (HoldsClass_spec (h.ext E) hl k day n s).weak.mono ?_
          rintro _ wz ⟨rfl, ez⟩
          exact ⟨by rw [decide_eq_true f11], E.trans ez⟩
        ·
          have hdead : deadB (atL k day l) n = false := by
            cases hd : deadB (atL k day l) n with
            | false => rfl
            | true => exact absurd (f7 hd).1 (by decide)
          refine brE_dec (fun hh => absurd hh (show ¬ (L : Int) = 1 by omega)) (fun hh => ?_)
          refine brE_dec (fun hh => absurd hh (show ¬ (L : Int) = 0 by omega)) (fun hh => ?_)
          refine (Contested_spec (h.ext E) hl k day).weak.mono ?_
          rintro _ wz ⟨hoz, ez⟩
          have E := E.trans ez
          have eH := eH.trans ez
          obtain ⟨Az, cz, rfl, hrz, _⟩ := NewInts.slice hoz
          have s1 := has_spec (c := cz) hrz hclen s
          rw [decide_eq_true (hcont.2 (by omega))] at s1
          refine s1.weak.mono ?_
          rintro _ wz ⟨rfl, ez⟩
          have E := E.trans ez
          have eH := eH.trans ez
          refine ⟨_, neqBool _ _ _ _, ?_⟩
          refine brE_false (by rw [decide_eq_true (show (L : Int) > 1 by omega)]; rfl) ?_
          refine (Dead_spec (h.ext E) hl k day n).weak.mono ?_
          rintro _ wz ⟨rfl, ez⟩
          have E := E.trans ez
          have eH := eH.trans ez
          rw [hdead]
          refine (Holders_spec (h.ext E) hl k day s 4).weak.mono ?_
          rintro _ wz ⟨hoz, ez⟩
          have E := E.trans ez
          have eH := eH.trans ez
          obtain ⟨Az, cz, rfl, hrz, _⟩ := NewInts.slice hoz
          have s1 := has_spec (c := cz) hrz (hlen 2 4) n
          rw [decide_eq_true (f10 rfl (by decide))] at s1
          refine s1.weak.mono ?_
          rintro _ wz ⟨rfl, ez⟩
          have E := E.trans ez
          have eH := eH.trans ez
          refine (alive_spec _ (T.ext E)).mono ?_
          rintro _ wz ⟨rfl, ez⟩
          have E := E.trans ez
          refine (HoldsClass_spec (h.ext E) hl k day n s).weak.mono ?_
          rintro _ wz ⟨rfl, ez⟩
          exact ⟨by rw [decide_eq_true f11], E.trans ez⟩
      | true =>
        have hne : ¬ p = n := fun e => by have hh := f6 rfl e; exact absurd hh.1 (by decide)
        have hpm := f1 rfl
        have hLp := hmemL _ hpm
        by_cases hL : L = 1
        ·
          clear f2
          have hdead : deadB (atL k day l) n = false := by
            cases hd : deadB (atL k day l) n with
            | false => rfl
            | true => exact absurd (f7 hd).1 (by decide)
          have s1 := hhas p eH
          rw [decide_eq_true hpm] at s1
          refine s1.weak.mono ?_
          rintro _ wz ⟨rfl, ez⟩
          have E := E.trans ez
          have eH := eH.trans ez
          refine brE_dec (fun hh => ?_) (fun hh => (hh (show (L : Int) = 1 by omega)).elim)
          refine brE_dec (fun hh => absurd hh (show ¬ (L : Int) = 0 by omega)) (fun hh => ?_)
          refine (Contested_spec (h.ext E) hl k day).weak.mono ?_
          rintro _ wz ⟨hoz, ez⟩
          have E := E.trans ez
          have eH := eH.trans ez
          obtain ⟨Az, cz, rfl, hrz, _⟩ := NewInts.slice hoz
          have s1 := has_spec (c := cz) hrz hclen s
          rw [decide_eq_false (fun hh => absurd (hcont.1 hh) (by omega))] at s1
          refine s1.weak.mono ?_
          rintro _ wz ⟨rfl, ez⟩
          have E := E.trans ez
          have eH := eH.trans ez
          refine ⟨_, neqBool _ _ _ _, ?_⟩
          refine brE_false (by rw [decide_eq_false (show ¬ (L : Int) > 1 by omega)]; rfl) ?_
          refine brE_false (decide_eq_false hne) ?_
          refine (Dead_spec (h.ext E) hl k day n).weak.mono ?_
          rintro _ wz ⟨rfl, ez⟩
          have E := E.trans ez
          have eH := eH.trans ez
          rw [hdead]
          refine (Holders_spec (h.ext E) hl k day s 4).weak.mono ?_
          rintro _ wz ⟨hoz, ez⟩
          have E := E.trans ez
          have eH := eH.trans ez
          obtain ⟨Az, cz, rfl, hrz, _⟩ := NewInts.slice hoz
          have s1 := has_spec (c := cz) hrz (hlen 2 4) n
          rw [decide_eq_true (f10 rfl (by decide))] at s1
          refine s1.weak.mono ?_
          rintro _ wz ⟨rfl, ez⟩
          have E := E.trans ez
          have eH := eH.trans ez
          refine (alive_spec _ (T.ext E)).mono ?_
          rintro _ wz ⟨rfl, ez⟩
          have E := E.trans ez
          refine (HoldsClass_spec (h.ext E) hl k day n s).weak.mono ?_
          rintro _ wz ⟨rfl, ez⟩
          exact ⟨by rw [decide_eq_true f11], E.trans ez⟩
        ·
          clear f2
          have hdead : deadB (atL k day l) n = false := by
            cases hd : deadB (atL k day l) n with
            | false => rfl
            | true => exact absurd (f7 hd).1 (by decide)
          have s1 := hhas p eH
          rw [decide_eq_true hpm] at s1
          refine s1.weak.mono ?_
          rintro _ wz ⟨rfl, ez⟩
          have E := E.trans ez
          have eH := eH.trans ez
          refine brE_dec (fun hh => absurd hh (show ¬ (L : Int) = 1 by omega)) (fun hh => ?_)
          refine brE_dec (fun hh => absurd hh (show ¬ (L : Int) = 0 by omega)) (fun hh => ?_)
          refine (Contested_spec (h.ext E) hl k day).weak.mono ?_
          rintro _ wz ⟨hoz, ez⟩
          have E := E.trans ez
          have eH := eH.trans ez
          obtain ⟨Az, cz, rfl, hrz, _⟩ := NewInts.slice hoz
          have s1 := has_spec (c := cz) hrz hclen s
          rw [decide_eq_true (hcont.2 (by omega))] at s1
          refine s1.weak.mono ?_
          rintro _ wz ⟨rfl, ez⟩
          have E := E.trans ez
          have eH := eH.trans ez
          refine ⟨_, neqBool _ _ _ _, ?_⟩
          refine brE_false (by rw [decide_eq_true (show (L : Int) > 1 by omega)]; rfl) ?_
          refine brE_false (decide_eq_false hne) ?_
          refine (Dead_spec (h.ext E) hl k day n).weak.mono ?_
          rintro _ wz ⟨rfl, ez⟩
          have E := E.trans ez
          have eH := eH.trans ez
          rw [hdead]
          refine (Holders_spec (h.ext E) hl k day s 4).weak.mono ?_
          rintro _ wz ⟨hoz, ez⟩
          have E := E.trans ez
          have eH := eH.trans ez
          obtain ⟨Az, cz, rfl, hrz, _⟩ := NewInts.slice hoz
          have s1 := has_spec (c := cz) hrz (hlen 2 4) n
          rw [decide_eq_true (f10 rfl (by decide))] at s1
          refine s1.weak.mono ?_
          rintro _ wz ⟨rfl, ez⟩
          have E := E.trans ez
          have eH := eH.trans ez
          refine (alive_spec _ (T.ext E)).mono ?_
          rintro _ wz ⟨rfl, ez⟩
          have E := E.trans ez
          refine (HoldsClass_spec (h.ext E) hl k day n s).weak.mono ?_
          rintro _ wz ⟨rfl, ez⟩
          exact ⟨by rw [decide_eq_true f11], E.trans ez⟩
    | true =>
      cases is with
      | false =>
        have hL1 : L ≠ 1 := fun e => by have := f2 e; cases this
        by_cases hL : L = 0
        ·
          have hdead : deadB (atL k day l) n = false := by
            cases hd : deadB (atL k day l) n with
            | false => rfl
            | true => exact absurd (f7 hd).1 (by decide)
          refine brE_dec (fun hh => absurd hh (show ¬ (L : Int) = 1 by omega)) (fun hh => ?_)
          refine brE_dec (fun hh => ?_) (fun hh => (hh (show (L : Int) = 0 by omega)).elim)
          refine (Contested_spec (h.ext E) hl k day).weak.mono ?_
          rintro _ wz ⟨hoz, ez⟩
          have E := E.trans ez
          have eH := eH.trans ez
          obtain ⟨Az, cz, rfl, hrz, _⟩ := NewInts.slice hoz
          have s1 := has_spec (c := cz) hrz hclen s
          rw [decide_eq_false (fun hh => absurd (hcont.1 hh) (by omega))] at s1
          refine s1.weak.mono ?_
          rintro _ wz ⟨rfl, ez⟩
          have E := E.trans ez
          have eH := eH.trans ez
          refine ⟨_, neqBool _ _ _ _, ?_⟩
          refine brE_false (by rw [decide_eq_false (show ¬ (L : Int) > 1 by omega)]; rfl) ?_
          refine (Dead_spec (h.ext E) hl k day n).weak.mono ?_
          rintro _ wz ⟨rfl, ez⟩
          have E := E.trans ez
          have eH := eH.trans ez
          rw [hdead]
          refine (Acting_spec (h.ext E) hl k day s 4).weak.mono ?_
          rintro _ wz ⟨hoz, ez⟩
          have E := E.trans ez
          have eH := eH.trans ez
          obtain ⟨Az, cz, rfl, hrz, _⟩ := NewInts.slice hoz
          have s1 := has_spec (c := cz) hrz (hlen 3 4) n
          rw [decide_eq_true (f9 rfl)] at s1
          refine s1.weak.mono ?_
          rintro _ wz ⟨rfl, ez⟩
          have E := E.trans ez
          have eH := eH.trans ez
          refine (alive_spec _ (T.ext E)).mono ?_
          rintro _ wz ⟨rfl, ez⟩
          have E := E.trans ez
          refine (HoldsClass_spec (h.ext E) hl k day n s).weak.mono ?_
          rintro _ wz ⟨rfl, ez⟩
          exact ⟨by rw [decide_eq_true f11], E.trans ez⟩
        ·
          have hdead : deadB (atL k day l) n = false := by
            cases hd : deadB (atL k day l) n with
            | false => rfl
            | true => exact absurd (f7 hd).1 (by decide)
          refine brE_dec (fun hh => absurd hh (show ¬ (L : Int) = 1 by omega)) (fun hh => ?_)
          refine brE_dec (fun hh => absurd hh (show ¬ (L : Int) = 0 by omega)) (fun hh => ?_)
          refine (Contested_spec (h.ext E) hl k day).weak.mono ?_
          rintro _ wz ⟨hoz, ez⟩
          have E := E.trans ez
          have eH := eH.trans ez
          obtain ⟨Az, cz, rfl, hrz, _⟩ := NewInts.slice hoz
          have s1 := has_spec (c := cz) hrz hclen s
          rw [decide_eq_true (hcont.2 (by omega))] at s1
          refine s1.weak.mono ?_
          rintro _ wz ⟨rfl, ez⟩
          have E := E.trans ez
          have eH := eH.trans ez
          refine ⟨_, neqBool _ _ _ _, ?_⟩
          refine brE_false (by rw [decide_eq_true (show (L : Int) > 1 by omega)]; rfl) ?_
          refine (Dead_spec (h.ext E) hl k day n).weak.mono ?_
          rintro _ wz ⟨rfl, ez⟩
          have E := E.trans ez
          have eH := eH.trans ez
          rw [hdead]
          refine (Acting_spec (h.ext E) hl k day s 4).weak.mono ?_
          rintro _ wz ⟨hoz, ez⟩
          have E := E.trans ez
          have eH := eH.trans ez
          obtain ⟨Az, cz, rfl, hrz, _⟩ := NewInts.slice hoz
          have s1 := has_spec (c := cz) hrz (hlen 3 4) n
          rw [decide_eq_true (f9 rfl)] at s1
          refine s1.weak.mono ?_
          rintro _ wz ⟨rfl, ez⟩
          have E := E.trans ez
          have eH := eH.trans ez
          refine (alive_spec _ (T.ext E)).mono ?_
          rintro _ wz ⟨rfl, ez⟩
          have E := E.trans ez
          refine (HoldsClass_spec (h.ext E) hl k day n s).weak.mono ?_
          rintro _ wz ⟨rfl, ez⟩
          exact ⟨by rw [decide_eq_true f11], E.trans ez⟩
      | true =>
        have hne : ¬ p = n := fun e => by have hh := f6 rfl e; cases hh.2
        have hpm := f1 rfl
        have hLp := hmemL _ hpm
        by_cases hL : L = 1
        ·
          clear f2
          have hdead : deadB (atL k day l) n = false := by
            cases hd : deadB (atL k day l) n with
            | false => rfl
            | true => exact absurd (f7 hd).1 (by decide)
          have s1 := hhas p eH
          rw [decide_eq_true hpm] at s1
          refine s1.weak.mono ?_
          rintro _ wz ⟨rfl, ez⟩
          have E := E.trans ez
          have eH := eH.trans ez
          refine brE_dec (fun hh => ?_) (fun hh => (hh (show (L : Int) = 1 by omega)).elim)
          refine brE_dec (fun hh => absurd hh (show ¬ (L : Int) = 0 by omega)) (fun hh => ?_)
          refine (Contested_spec (h.ext E) hl k day).weak.mono ?_
          rintro _ wz ⟨hoz, ez⟩
          have E := E.trans ez
          have eH := eH.trans ez
          obtain ⟨Az, cz, rfl, hrz, _⟩ := NewInts.slice hoz
          have s1 := has_spec (c := cz) hrz hclen s
          rw [decide_eq_false (fun hh => absurd (hcont.1 hh) (by omega))] at s1
          refine s1.weak.mono ?_
          rintro _ wz ⟨rfl, ez⟩
          have E := E.trans ez
          have eH := eH.trans ez
          refine ⟨_, neqBool _ _ _ _, ?_⟩
          refine brE_false (by rw [decide_eq_false (show ¬ (L : Int) > 1 by omega)]; rfl) ?_
          refine brE_false (decide_eq_false hne) ?_
          refine (Dead_spec (h.ext E) hl k day n).weak.mono ?_
          rintro _ wz ⟨rfl, ez⟩
          have E := E.trans ez
          have eH := eH.trans ez
          rw [hdead]
          refine (Acting_spec (h.ext E) hl k day s 4).weak.mono ?_
          rintro _ wz ⟨hoz, ez⟩
          have E := E.trans ez
          have eH := eH.trans ez
          obtain ⟨Az, cz, rfl, hrz, _⟩ := NewInts.slice hoz
          have s1 := has_spec (c := cz) hrz (hlen 3 4) n
          rw [decide_eq_true (f9 rfl)] at s1
          refine s1.weak.mono ?_
          rintro _ wz ⟨rfl, ez⟩
          have E := E.trans ez
          have eH := eH.trans ez
          refine (alive_spec _ (T.ext E)).mono ?_
          rintro _ wz ⟨rfl, ez⟩
          have E := E.trans ez
          refine (HoldsClass_spec (h.ext E) hl k day n s).weak.mono ?_
          rintro _ wz ⟨rfl, ez⟩
          exact ⟨by rw [decide_eq_true f11], E.trans ez⟩
        ·
          clear f2
          have hdead : deadB (atL k day l) n = false := by
            cases hd : deadB (atL k day l) n with
            | false => rfl
            | true => exact absurd (f7 hd).1 (by decide)
          have s1 := hhas p eH
          rw [decide_eq_true hpm] at s1
          refine s1.weak.mono ?_
          rintro _ wz ⟨rfl, ez⟩
          have E := E.trans ez
          have eH := eH.trans ez
          refine brE_dec (fun hh => absurd hh (show ¬ (L : Int) = 1 by omega)) (fun hh => ?_)
          refine brE_dec (fun hh => absurd hh (show ¬ (L : Int) = 0 by omega)) (fun hh => ?_)
          refine (Contested_spec (h.ext E) hl k day).weak.mono ?_
          rintro _ wz ⟨hoz, ez⟩
          have E := E.trans ez
          have eH := eH.trans ez
          obtain ⟨Az, cz, rfl, hrz, _⟩ := NewInts.slice hoz
          have s1 := has_spec (c := cz) hrz hclen s
          rw [decide_eq_true (hcont.2 (by omega))] at s1
          refine s1.weak.mono ?_
          rintro _ wz ⟨rfl, ez⟩
          have E := E.trans ez
          have eH := eH.trans ez
          refine ⟨_, neqBool _ _ _ _, ?_⟩
          refine brE_false (by rw [decide_eq_true (show (L : Int) > 1 by omega)]; rfl) ?_
          refine brE_false (decide_eq_false hne) ?_
          refine (Dead_spec (h.ext E) hl k day n).weak.mono ?_
          rintro _ wz ⟨rfl, ez⟩
          have E := E.trans ez
          have eH := eH.trans ez
          rw [hdead]
          refine (Acting_spec (h.ext E) hl k day s 4).weak.mono ?_
          rintro _ wz ⟨hoz, ez⟩
          have E := E.trans ez
          have eH := eH.trans ez
          obtain ⟨Az, cz, rfl, hrz, _⟩ := NewInts.slice hoz
          have s1 := has_spec (c := cz) hrz (hlen 3 4) n
          rw [decide_eq_true (f9 rfl)] at s1
          refine s1.weak.mono ?_
          rintro _ wz ⟨rfl, ez⟩
          have E := E.trans ez
          have eH := eH.trans ez
          refine (alive_spec _ (T.ext E)).mono ?_
          rintro _ wz ⟨rfl, ez⟩
          have E := E.trans ez
          refine (HoldsClass_spec (h.ext E) hl k day n s).weak.mono ?_
          rintro _ wz ⟨rfl, ez⟩
          exact ⟨by rw [decide_eq_true f11], E.trans ez⟩
  ·
    cases is with
    | false =>
      have hL1 : L ≠ 1 := fun e => by have := f2 e; cases this
      by_cases hL : L = 0
      ·
        cases hdead : deadB (atL k day l) n with
        | true =>
          refine brE_dec (fun hh => absurd hh (show ¬ (L : Int) = 1 by omega)) (fun hh => ?_)
          refine brE_dec (fun hh => ?_) (fun hh => (hh (show (L : Int) = 0 by omega)).elim)
          refine (Contested_spec (h.ext E) hl k day).weak.mono ?_
          rintro _ wz ⟨hoz, ez⟩
          have E := E.trans ez
          have eH := eH.trans ez
          obtain ⟨Az, cz, rfl, hrz, _⟩ := NewInts.slice hoz
          have s1 := has_spec (c := cz) hrz hclen s
          rw [decide_eq_false (fun hh => absurd (hcont.1 hh) (by omega))] at s1
          refine s1.weak.mono ?_
          rintro _ wz ⟨rfl, ez⟩
          have E := E.trans ez
          have eH := eH.trans ez
          refine ⟨_, neqBool _ _ _ _, ?_⟩
          refine brE_false (by rw [decide_eq_false (show ¬ (L : Int) > 1 by omega)]; rfl) ?_
          refine (Dead_spec (h.ext E) hl k day n).weak.mono ?_
          rintro _ wz ⟨rfl, ez⟩
          have E := E.trans ez
          have eH := eH.trans ez
          rw [hdead]
          have s1 := hhas n eH
          rw [decide_eq_false (f7 hdead).2] at s1
          refine s1.weak.mono ?_
          rintro _ wz ⟨rfl, ez⟩
          have E := E.trans ez
          have eH := eH.trans ez
          refine (alive_spec _ (T.ext E)).mono ?_
          rintro _ wz ⟨rfl, ez⟩
          have E := E.trans ez
          refine (HoldsClass_spec (h.ext E) hl k day n s).weak.mono ?_
          rintro _ wz ⟨rfl, ez⟩
          exact ⟨by rw [decide_eq_true f11], E.trans ez⟩
        | false =>
          refine brE_dec (fun hh => absurd hh (show ¬ (L : Int) = 1 by omega)) (fun hh => ?_)
          refine brE_dec (fun hh => ?_) (fun hh => (hh (show (L : Int) = 0 by omega)).elim)
          refine (Contested_spec (h.ext E) hl k day).weak.mono ?_
          rintro _ wz ⟨hoz, ez⟩
          have E := E.trans ez
          have eH := eH.trans ez
          obtain ⟨Az, cz, rfl, hrz, _⟩ := NewInts.slice hoz
          have s1 := has_spec (c := cz) hrz hclen s
          rw [decide_eq_false (fun hh => absurd (hcont.1 hh) (by omega))] at s1
          refine s1.weak.mono ?_
          rintro _ wz ⟨rfl, ez⟩
          have E := E.trans ez
          have eH := eH.trans ez
          refine ⟨_, neqBool _ _ _ _, ?_⟩
          refine brE_false (by rw [decide_eq_false (show ¬ (L : Int) > 1 by omega)]; rfl) ?_
          refine (Dead_spec (h.ext E) hl k day n).weak.mono ?_
          rintro _ wz ⟨rfl, ez⟩
          have E := E.trans ez
          have eH := eH.trans ez
          rw [hdead]
          refine (alive_spec _ (T.ext E)).mono ?_
          rintro _ wz ⟨rfl, ez⟩
          have E := E.trans ez
          refine (HoldsClass_spec (h.ext E) hl k day n s).weak.mono ?_
          rintro _ wz ⟨rfl, ez⟩
          exact ⟨by rw [decide_eq_true f11], E.trans ez⟩
      ·
        cases hdead : deadB (atL k day l) n with
        | true =>
          refine brE_dec (fun hh => absurd hh (show ¬ (L : Int) = 1 by omega)) (fun hh => ?_)
          refine brE_dec (fun hh => absurd hh (show ¬ (L : Int) = 0 by omega)) (fun hh => ?_)
          refine (Contested_spec (h.ext E) hl k day).weak.mono ?_
          rintro _ wz ⟨hoz, ez⟩
          have E := E.trans ez
          have eH := eH.trans ez
          obtain ⟨Az, cz, rfl, hrz, _⟩ := NewInts.slice hoz
          have s1 := has_spec (c := cz) hrz hclen s
          rw [decide_eq_true (hcont.2 (by omega))] at s1
          refine s1.weak.mono ?_
          rintro _ wz ⟨rfl, ez⟩
          have E := E.trans ez
          have eH := eH.trans ez
          refine ⟨_, neqBool _ _ _ _, ?_⟩
          refine brE_false (by rw [decide_eq_true (show (L : Int) > 1 by omega)]; rfl) ?_
          refine (Dead_spec (h.ext E) hl k day n).weak.mono ?_
          rintro _ wz ⟨rfl, ez⟩
          have E := E.trans ez
          have eH := eH.trans ez
          rw [hdead]
          have s1 := hhas n eH
          rw [decide_eq_false (f7 hdead).2] at s1
          refine s1.weak.mono ?_
          rintro _ wz ⟨rfl, ez⟩
          have E := E.trans ez
          have eH := eH.trans ez
          refine (alive_spec _ (T.ext E)).mono ?_
          rintro _ wz ⟨rfl, ez⟩
          have E := E.trans ez
          refine (HoldsClass_spec (h.ext E) hl k day n s).weak.mono ?_
          rintro _ wz ⟨rfl, ez⟩
          exact ⟨by rw [decide_eq_true f11], E.trans ez⟩
        | false =>
          refine brE_dec (fun hh => absurd hh (show ¬ (L : Int) = 1 by omega)) (fun hh => ?_)
          refine brE_dec (fun hh => absurd hh (show ¬ (L : Int) = 0 by omega)) (fun hh => ?_)
          refine (Contested_spec (h.ext E) hl k day).weak.mono ?_
          rintro _ wz ⟨hoz, ez⟩
          have E := E.trans ez
          have eH := eH.trans ez
          obtain ⟨Az, cz, rfl, hrz, _⟩ := NewInts.slice hoz
          have s1 := has_spec (c := cz) hrz hclen s
          rw [decide_eq_true (hcont.2 (by omega))] at s1
          refine s1.weak.mono ?_
          rintro _ wz ⟨rfl, ez⟩
          have E := E.trans ez
          have eH := eH.trans ez
          refine ⟨_, neqBool _ _ _ _, ?_⟩
          refine brE_false (by rw [decide_eq_true (show (L : Int) > 1 by omega)]; rfl) ?_
          refine (Dead_spec (h.ext E) hl k day n).weak.mono ?_
          rintro _ wz ⟨rfl, ez⟩
          have E := E.trans ez
          have eH := eH.trans ez
          rw [hdead]
          refine (alive_spec _ (T.ext E)).mono ?_
          rintro _ wz ⟨rfl, ez⟩
          have E := E.trans ez
          refine (HoldsClass_spec (h.ext E) hl k day n s).weak.mono ?_
          rintro _ wz ⟨rfl, ez⟩
          exact ⟨by rw [decide_eq_true f11], E.trans ez⟩
    | true =>
      have hne : ¬ p = n := fun e => by have hh := f6 rfl e; exact absurd hh.1 (by decide)
      have hpm := f1 rfl
      have hLp := hmemL _ hpm
      by_cases hL : L = 1
      ·
        clear f2
        cases hdead : deadB (atL k day l) n with
        | true =>
          have s1 := hhas p eH
          rw [decide_eq_true hpm] at s1
          refine s1.weak.mono ?_
          rintro _ wz ⟨rfl, ez⟩
          have E := E.trans ez
          have eH := eH.trans ez
          refine brE_dec (fun hh => ?_) (fun hh => (hh (show (L : Int) = 1 by omega)).elim)
          refine brE_dec (fun hh => absurd hh (show ¬ (L : Int) = 0 by omega)) (fun hh => ?_)
          refine (Contested_spec (h.ext E) hl k day).weak.mono ?_
          rintro _ wz ⟨hoz, ez⟩
          have E := E.trans ez
          have eH := eH.trans ez
          obtain ⟨Az, cz, rfl, hrz, _⟩ := NewInts.slice hoz
          have s1 := has_spec (c := cz) hrz hclen s
          rw [decide_eq_false (fun hh => absurd (hcont.1 hh) (by omega))] at s1
          refine s1.weak.mono ?_
          rintro _ wz ⟨rfl, ez⟩
          have E := E.trans ez
          have eH := eH.trans ez
          refine ⟨_, neqBool _ _ _ _, ?_⟩
          refine brE_false (by rw [decide_eq_false (show ¬ (L : Int) > 1 by omega)]; rfl) ?_
          refine brE_false (decide_eq_false hne) ?_
          refine (Dead_spec (h.ext E) hl k day n).weak.mono ?_
          rintro _ wz ⟨rfl, ez⟩
          have E := E.trans ez
          have eH := eH.trans ez
          rw [hdead]
          have s1 := hhas n eH
          rw [decide_eq_false (f7 hdead).2] at s1
          refine s1.weak.mono ?_
          rintro _ wz ⟨rfl, ez⟩
          have E := E.trans ez
          have eH := eH.trans ez
          refine (alive_spec _ (T.ext E)).mono ?_
          rintro _ wz ⟨rfl, ez⟩
          have E := E.trans ez
          refine (HoldsClass_spec (h.ext E) hl k day n s).weak.mono ?_
          rintro _ wz ⟨rfl, ez⟩
          exact ⟨by rw [decide_eq_true f11], E.trans ez⟩
        | false =>
          have s1 := hhas p eH
          rw [decide_eq_true hpm] at s1
          refine s1.weak.mono ?_
          rintro _ wz ⟨rfl, ez⟩
          have E := E.trans ez
          have eH := eH.trans ez
          refine brE_dec (fun hh => ?_) (fun hh => (hh (show (L : Int) = 1 by omega)).elim)
          refine brE_dec (fun hh => absurd hh (show ¬ (L : Int) = 0 by omega)) (fun hh => ?_)
          refine (Contested_spec (h.ext E) hl k day).weak.mono ?_
          rintro _ wz ⟨hoz, ez⟩
          have E := E.trans ez
          have eH := eH.trans ez
          obtain ⟨Az, cz, rfl, hrz, _⟩ := NewInts.slice hoz
          have s1 := has_spec (c := cz) hrz hclen s
          rw [decide_eq_false (fun hh => absurd (hcont.1 hh) (by omega))] at s1
          refine s1.weak.mono ?_
          rintro _ wz ⟨rfl, ez⟩
          have E := E.trans ez
          have eH := eH.trans ez
          refine ⟨_, neqBool _ _ _ _, ?_⟩
          refine brE_false (by rw [decide_eq_false (show ¬ (L : Int) > 1 by omega)]; rfl) ?_
          refine brE_false (decide_eq_false hne) ?_
          refine (Dead_spec (h.ext E) hl k day n).weak.mono ?_
          rintro _ wz ⟨rfl, ez⟩
          have E := E.trans ez
          have eH := eH.trans ez
          rw [hdead]
          refine (alive_spec _ (T.ext E)).mono ?_
          rintro _ wz ⟨rfl, ez⟩
          have E := E.trans ez
          refine (HoldsClass_spec (h.ext E) hl k day n s).weak.mono ?_
          rintro _ wz ⟨rfl, ez⟩
          exact ⟨by rw [decide_eq_true f11], E.trans ez⟩
      ·
        clear f2
        cases hdead : deadB (atL k day l) n with
        | true =>
          have s1 := hhas p eH
          rw [decide_eq_true hpm] at s1
          refine s1.weak.mono ?_
          rintro _ wz ⟨rfl, ez⟩
          have E := E.trans ez
          have eH := eH.trans ez
          refine brE_dec (fun hh => absurd hh (show ¬ (L : Int) = 1 by omega)) (fun hh => ?_)
          refine brE_dec (fun hh => absurd hh (show ¬ (L : Int) = 0 by omega)) (fun hh => ?_)
          refine (Contested_spec (h.ext E) hl k day).weak.mono ?_
          rintro _ wz ⟨hoz, ez⟩
          have E := E.trans ez
          have eH := eH.trans ez
          obtain ⟨Az, cz, rfl, hrz, _⟩ := NewInts.slice hoz
          have s1 := has_spec (c := cz) hrz hclen s
          rw [decide_eq_true (hcont.2 (by omega))] at s1
          refine s1.weak.mono ?_
          rintro _ wz ⟨rfl, ez⟩
          have E := E.trans ez
          have eH := eH.trans ez
          refine ⟨_, neqBool _ _ _ _, ?_⟩
          refine brE_false (by rw [decide_eq_true (show (L : Int) > 1 by omega)]; rfl) ?_
          refine brE_false (decide_eq_false hne) ?_
          refine (Dead_spec (h.ext E) hl k day n).weak.mono ?_
          rintro _ wz ⟨rfl, ez⟩
          have E := E.trans ez
          have eH := eH.trans ez
          rw [hdead]
          have s1 := hhas n eH
          rw [decide_eq_false (f7 hdead).2] at s1
          refine s1.weak.mono ?_
          rintro _ wz ⟨rfl, ez⟩
          have E := E.trans ez
          have eH := eH.trans ez
          refine (alive_spec _ (T.ext E)).mono ?_
          rintro _ wz ⟨rfl, ez⟩
          have E := E.trans ez
          refine (HoldsClass_spec (h.ext E) hl k day n s).weak.mono ?_
          rintro _ wz ⟨rfl, ez⟩
          exact ⟨by rw [decide_eq_true f11], E.trans ez⟩
        | false =>
          have s1 := hhas p eH
          rw [decide_eq_true hpm] at s1
          refine s1.weak.mono ?_
          rintro _ wz ⟨rfl, ez⟩
          have E := E.trans ez
          have eH := eH.trans ez
          refine brE_dec (fun hh => absurd hh (show ¬ (L : Int) = 1 by omega)) (fun hh => ?_)
          refine brE_dec (fun hh => absurd hh (show ¬ (L : Int) = 0 by omega)) (fun hh => ?_)
          refine (Contested_spec (h.ext E) hl k day).weak.mono ?_
          rintro _ wz ⟨hoz, ez⟩
          have E := E.trans ez
          have eH := eH.trans ez
          obtain ⟨Az, cz, rfl, hrz, _⟩ := NewInts.slice hoz
          have s1 := has_spec (c := cz) hrz hclen s
          rw [decide_eq_true (hcont.2 (by omega))] at s1
          refine s1.weak.mono ?_
          rintro _ wz ⟨rfl, ez⟩
          have E := E.trans ez
          have eH := eH.trans ez
          refine ⟨_, neqBool _ _ _ _, ?_⟩
          refine brE_false (by rw [decide_eq_true (show (L : Int) > 1 by omega)]; rfl) ?_
          refine brE_false (decide_eq_false hne) ?_
          refine (Dead_spec (h.ext E) hl k day n).weak.mono ?_
          rintro _ wz ⟨rfl, ez⟩
          have E := E.trans ez
          have eH := eH.trans ez
          rw [hdead]
          refine (alive_spec _ (T.ext E)).mono ?_
          rintro _ wz ⟨rfl, ez⟩
          have E := E.trans ez
          refine (HoldsClass_spec (h.ext E) hl k day n s).weak.mono ?_
          rintro _ wz ⟨rfl, ez⟩
          exact ⟨by rw [decide_eq_true f11], E.trans ez⟩

end Go.Proofs.YthpdkdmbfdmamaaGreatDoor

namespace Go.Proofs.YthpdkdmbfdmamaaGreatDoor
open Go.Eng Go.RowKit Go.ChangeShapes Go.WideShapes Go.ChangeAt
open Go.ChangeMaps (open_string shut_string)

set_option maxRecDepth 100000 in
theorem factsClasses_lifted (os : Os) (started : os.Started) (H : Type) (enc : TypeId × Value → H) :
    ReturnsInHanded {} Tryz.checked os 15 .any (fun w args => (Rows.factsClassesSpec.pre enc Tryz.prog Tryz.f15 Rows.factsClassesRow.domain false w args ∧ laidMet Tryz.prog laidL w) ∧ sizedMet enc Tryz.prog Tryz.f15 (OpenSpec.ofChange Rows.factsClassesSpec) false w args)
      (Rows.factsClassesSpec.post enc Tryz.prog Tryz.f15 false true false false) := by
  refine returnsInHanded_of_change_and (C := Tryz.checked) (X := fun w _ => laidMet Tryz.prog laidL w) (fun _ _ _ hh h => h.of_heap hh) own started (by kernel_rfl) Tryz.func15
    (ChangeSpec.witness_at (enc := enc) (C := Tryz.checked) (os := os) (X := fun w _ => laidMet Tryz.prog laidL w) false (laidWorld os) #[.slice none 0 0, .int .i64 0, .int .i64 0, .int .i64 0, .int .i64 0, .int .i64 0] 8 rfl (by kernel_rfl) (by kernel_rfl) (by kernel_rfl) (by kernel_rfl) (by kernel_rfl) (laidWorld_met os _)) ?_
  intro W base args ds gs before hval0 hW _ hsz0 hL _
  have T := tabs_of_laid hL
  have hval : ∀ (j : Nat) t v, Tryz.f15.params[j]? = some t → args[j]? = some v → Value.okWide Tryz.prog W .any base t v := hval0
  have hW' := hW
  obtain ⟨p, q, hA0, hV, rfl, hfz, hnd⟩ := hW
  have hA : DataW.TrodAll enc Tryz.prog W 0 (fun _ => true) true [22, 3, 3, 3, 3, 3] args.toList ds p := hA0
  obtain ⟨v0, v1, v2, v3, v4, v5, d0, d1, d2, d3, d4, d5, p0, p1, p2, p3, p4, p5, rfl, rfl, rfl, h0, h1, h2, h3, h4, h5⟩ := trodAll_n6 hA
  obtain ⟨rfl, rfl⟩ := trodVars_none hV
  obtain ⟨A0, l0, c0, rfl, hf0⟩ := open_facts (hval 0 22 v0 rfl rfl) h0
  obtain ⟨i1, rfl, _, _, wf1⟩ := open_int under3 (hval 1 3 v1 rfl rfl) h1
  obtain ⟨i2, rfl, _, _, wf2⟩ := open_int under3 (hval 2 3 v2 rfl rfl) h2
  obtain ⟨i3, rfl, _, _, wf3⟩ := open_int under3 (hval 3 3 v3 rfl rfl) h3
  obtain ⟨i4, rfl, _, _, wf4⟩ := open_int under3 (hval 4 3 v4 rfl rfl) h4
  obtain ⟨i5, rfl, _, _, wf5⟩ := open_int under3 (hval 5 3 v5 rfl rfl) h5
  refine (FactsClasses_spec hf0 T i1 i2 i3 i4 i5 W (Same.refl W)).mono ?_
  rintro e W' ⟨⟨v, w'', rfl, ⟨rfl, he⟩, hs⟩, _⟩
  have he' : Ext W W' := he.same_right hs
  refine ⟨_, rfl, ?_⟩
  refine ⟨[d0, d1, d2, d3, d4, d5], [], (p0 ++ (p1 ++ (p2 ++ (p3 ++ (p4 ++ (p5)))))) ++ [], [], p0 ++ (p1 ++ (p2 ++ (p3 ++ (p4 ++ (p5))))), [], hW', ?_, ?_, rfl, Below.frame he' _, fun h => by cases h⟩
  · exact trodAll_mk1 (shut_bool under4 true)
  · exact trodAll_mkn6 (Below.trod laidOut recFs rowFs h0 he' fun x hx => hW'.lt x (by simp [hx])) (Below.trod laidOut rec3 row3 h1 he' fun x hx => hW'.lt x (by simp [hx])) (Below.trod laidOut rec3 row3 h2 he' fun x hx => hW'.lt x (by simp [hx])) (Below.trod laidOut rec3 row3 h3 he' fun x hx => hW'.lt x (by simp [hx])) (Below.trod laidOut rec3 row3 h4 he' fun x hx => hW'.lt x (by simp [hx])) (Below.trod laidOut rec3 row3 h5 he' fun x hx => hW'.lt x (by simp [hx]))

set_option maxHeartbeats 4000000 in
theorem factsClasses_closed : joinedFacts Tryz.pinned.checked.prog 15 Tryz.f15 Rows.factsClassesSpec Rows.factsClassesRow = true := by
  unfold joinedFacts
  iterate 31 refine Bool.and_eq_true_iff.2 ⟨?_, ?_⟩
  · as_aux_lemma => kernel_rfl
  · exact kLaid
  · exact kMaps
  · as_aux_lemma => kernel_rfl
  · as_aux_lemma => kernel_rfl
  · as_aux_lemma => kernel_rfl
  · exact kStops
  · as_aux_lemma => kernel_rfl
  · exact kKnobs
  · as_aux_lemma => kernel_rfl
  · as_aux_lemma => kernel_rfl
  · as_aux_lemma => kernel_rfl
  · as_aux_lemma => kernel_rfl
  · as_aux_lemma => kernel_rfl
  · as_aux_lemma => kernel_rfl
  · as_aux_lemma => kernel_rfl
  · as_aux_lemma => kernel_rfl
  · as_aux_lemma => kernel_rfl
  · as_aux_lemma => kernel_rfl
  · as_aux_lemma => kernel_rfl
  · as_aux_lemma => kernel_rfl
  · as_aux_lemma => kernel_rfl
  · exact beq_iff_eq.2 kPlain.symm
  · as_aux_lemma => kernel_rfl
  · exact kHeard
  · exact kEnter
  · exact beq_iff_eq.2 kLifts.symm
  · as_aux_lemma => kernel_rfl
  · as_aux_lemma => kernel_rfl
  · as_aux_lemma => kernel_rfl
  · as_aux_lemma => kernel_rfl
  · as_aux_lemma => kernel_rfl

theorem factsClasses_named : Tryz.pinned.checked.prog.funcNamed Rows.factsClassesRow.func = some 15 := by kernel_rfl
theorem factsClasses_func : Tryz.pinned.checked.prog.funcs[15]? = some Tryz.f15 := Tryz.func15
theorem factsClasses_inst : Tryz.f15.isInstance Tryz.pinned.checked.prog Rows.factsClassesRow.origin Rows.factsClassesRow.targs := of_decide_eq_true (by kernel_rfl)
theorem factsClasses_wrap : Tryz.f15.isWrapper Tryz.pinned.checked.prog Rows.factsClassesRow.wrapper Rows.factsClassesRow.mainSum := by
  unfold Func.isWrapper; first | (rw [if_pos (by decide +kernel)]; kernel_rfl) | (rw [if_neg (by decide +kernel)]; exact ⟨rfl, rfl⟩)
theorem factsClasses_text : Rows.factsClassesRow.wfByText (OpenSpec.ofChange Rows.factsClassesSpec) = true := by kernel_rfl
theorem factsClasses_main : Tryz.pinned.checked.prog.mainIs = some (Rows.factsClassesCard.stood.harness.1, Rows.factsClassesCard.stood.harness.2.toList) := by kernel_rfl
theorem factsClasses_looks : true = Tryz.pinned.checked.prog.looks [] := by kernel_rfl
theorem factsClasses_goes : false = Rows.factsClassesRow.goesBy Tryz.pinned.checked.prog := by kernel_rfl
theorem factsClasses_stand : (Tryz.f15.params.toList.all fun t => !Tryz.pinned.checked.prog.wantsStandIn t) = true := by kernel_rfl

theorem factsClasses_holds : Rows.FactsClassesSaid :=
  OpenClaim.holds_of_wide 15 Tryz.f15 rfl rfl rfl rfl rfl rfl rfl ⟨rfl, rfl, rfl, rfl, rfl⟩ rfl rfl rfl rfl rfl factsClasses_named factsClasses_func factsClasses_closed factsClasses_inst factsClasses_wrap
    (fun os started H enc _ => factsClasses_lifted os started H enc)

theorem factsClasses : Rows.FactsClassesCardSaid :=
  Claim7.holds_tied_plain_at .later [] [.data, .data, .data, .sentinel, .sentinel] true Rows.factsClassesCard.stood.harness true
    factsClasses_holds (fun _ h => by cases h) factsClasses_text (fun _ h => by cases h) factsClasses_row_tie rfl ⟨rfl, rfl⟩ factsClasses_main rfl
    (fun f fn hf hfn => by
      obtain rfl : f = 15 := Option.some.inj (factsClasses_named.symm.trans hf) |>.symm
      obtain rfl : fn = Tryz.f15 := (Option.some.inj (factsClasses_func.symm.trans hfn)).symm
      refine ⟨factsClasses_looks, fun j t ht => ?_⟩
      have hm : t ∈ Tryz.f15.params.toList := by
        have := Array.mem_of_getElem? ht
        simpa using this
      exact Bool.not_eq_true' _ |>.mp (List.all_eq_true.1 factsClasses_stand t hm))
    factsClasses_goes

#print axioms factsClasses
end Go.Proofs.YthpdkdmbfdmamaaGreatDoor
