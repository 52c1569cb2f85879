/- a part of the proof: steps, walks and plain laws that the law below stands on; no condition. -/
import Derived.Test.YtcnbpfecgokhiaaGreatDoorDSa
import Derived.Test.YtcnbpfecgokhiaaGreatDoorDSb
import Derived.Test.YtcnbpfecgokhiaaGreatDoorDSc
import Derived.Test.YtcnbpfecgokhiaaGreatDoorDSd
import Derived.Test.YtcnbpfecgokhiaaGreatDoorDSe
import Derived.Test.YtcnbpfecgokhiaaGreatDoorDSf
import Derived.Test.YtcnbpfecgokhiaaGreatDoorDSg
import Derived.Test.YtcnbpfecgokhiaaGreatDoorDSh
import Derived.Test.YtcnbpfecgokhiaaGreatDoorDSi
import Derived.Test.YtcnbpfecgokhiaaGreatDoorDSj
import Derived.Sort.Walk0
import Derived.Ground.SlsfProg
import Derived.Scope
import Derived.Laws.StructEq
set_option linter.unusedVariables false
set_option linter.unusedSimpArgs false
set_option linter.unnecessarySimpa false
set_option linter.unusedSectionVars false
namespace Go.Proofs.YtcnbpfecgokhiaaGreatDoor
open Go.Eng Go.RowKit
theorem get_app0 {α : Type} {P Q R : List α} {t : Nat} (ht : t < Q.length) {k : Nat} (hk : k = P.length + t) (h : k < (P ++ (Q ++ R)).length) : (P ++ (Q ++ R))[k] = Q[t] := by
  subst hk
  rw [List.getElem_append_right (by omega)]
  simp only [show P.length + t - P.length = t by omega]
  rw [List.getElem_append_left ht]
theorem get_app1 {α : Type} {P Q R S : List α} {t : Nat} (ht : t < R.length) {k : Nat} (hk : k = P.length + Q.length + t) (h : k < (P ++ (Q ++ (R ++ S))).length) : (P ++ (Q ++ (R ++ S)))[k] = R[t] := by
  have e : P ++ (Q ++ (R ++ S)) = (P ++ Q) ++ (R ++ S) := by simp
  have h2 : k < ((P ++ Q) ++ (R ++ S)).length := by rw [← e]; exact h
  have : (P ++ (Q ++ (R ++ S)))[k] = ((P ++ Q) ++ (R ++ S))[k] := by congr 1
  rw [this]
  exact get_app0 ht (by rw [List.length_append]; exact hk) h2
theorem swap_adj' {α : Type} {P S : List α} {x y : α} : ((P ++ x :: y :: S).set P.length y).set (P.length + 1) x = P ++ y :: x :: S := swap_split (Y := [])
theorem half_sum {m p q : Nat} : (m + p + (m + q)) / 2 = m + (p + q) / 2 := by omega
set_option maxRecDepth 100000 in
set_option maxHeartbeats 8000000 in
theorem symMerge_spec {B : Nat} {A : Option Addr} {n c gd : Nat} {cb : Array Value} {lt : Due → Due → Bool} (hn : n ≤ 2 ^ 30) (hgd : C.can gd = true) (hcmp : CmpD gd cb lt) (O : OrdB lt) : ∀ (k : Nat) {w : World} {a m b : Nat} {P M1 M2 S : List Due},
    M1.length + M2.length ≤ k → RowD B w (.slice A n c) (P ++ (M1 ++ (M2 ++ S))) → B ≤ w.heap.size → a = P.length → m = a + M1.length → b = m + M2.length → 0 < M1.length → 0 < M2.length → SortedB lt M1 → SortedB lt M2 →
    CallsV C.P 239 #[.slice A n c, .int .i64 (a : Nat), .int .i64 (m : Nat), .int .i64 (b : Nat), .func (.func gd) #[] cb] w fun _ w' => ∃ M', M'.Perm (M1 ++ M2) ∧ SortedB lt M' ∧ RowD B w' (.slice A n c) (P ++ (M' ++ S)) ∧ Below B w w' := by
  intro k
  induction k with
  | zero => intro w a m b P M1 M2 S hk _ _ _ _ _ h1; omega
  | succ k ih =>
  intro w a m b P M1 M2 S hk ho hB ha hm hb h1 h2 s1 s2
  have hln := rowD_n ho
  simp only [List.length_append] at hln
  obtain ⟨la, hla⟩ : ∃ la, la = M1.length := ⟨_, rfl⟩
  obtain ⟨lb, hlb⟩ : ∃ lb, lb = M2.length := ⟨_, rfl⟩
  refine callsV_ofS (args := [_, _, _, _, _]) Tryz.func239 rfl Tryz.ntmps239 C_ok (Nat.le_of_ble_eq_true rfl) ?_
  refine Snd.go C_ok plans239 (by kernel_rfl) ?_
  refine ⟨((la : Nat) : Int), by (try dsimp only); rw [fit ⟨by omega, by omega⟩]; omega, ?_⟩
  refine brE_dec (fun c1 => ?_) (fun c1 => ?_)
  · -- one element on the left
    have c1 : M1.length = 1 := by have : ((la : Nat) : Int) = 1 := c1; omega
    obtain ⟨x, rfl⟩ : ∃ x, M1 = [x] := List.length_eq_one_iff.1 c1
    have ix : a < n := by omega
    refine loopE C_ok (fun (p : Nat × Nat) => [(0, .slice A n c), (1, .int .i64 (a : Nat)), (2, .int .i64 (m : Nat)), (3, .int .i64 (b : Nat)), (4, .func (.func gd) #[] cb), (10, .int .i64 ((m + p.1 : Nat) : Int)), (11, .int .i64 ((m + p.2 : Nat) : Int))])
      (fun p w' => p.1 ≤ p.2 ∧ p.2 ≤ M2.length ∧ (∀ t (ht : t < M2.length), t < p.1 → lt M2[t] x = true) ∧ (∀ t (ht : t < M2.length), p.2 ≤ t → lt M2[t] x = false) ∧ RowD B w' (.slice A n c) (P ++ ([x] ++ (M2 ++ S))) ∧ Below B w w') (fun p => p.2 - p.1) (0, M2.length)
      ⟨rfl, rfl, rfl, rfl, rfl, rfl, congrArg (fun q : Nat => some (Value.int IntKind.i64 ((q : Nat) : Int))) hb, trivial⟩
      ⟨Nat.zero_le _, Nat.le_refl _, (fun t _ h => absurd h (Nat.not_lt_zero _)), (fun t ht h => absurd ht (Nat.not_lt.2 h)), ho, Below.refl _ _⟩ ?_
    rintro ⟨p, q⟩ w1 ⟨hpq', hq', hy', hno', ho', b1⟩
    have hpq : p ≤ q := hpq'
    have hq : q ≤ M2.length := hq'
    have hy : ∀ t (ht : t < M2.length), t < p → lt M2[t] x = true := hy'
    have hno : ∀ t (ht : t < M2.length), q ≤ t → lt M2[t] x = false := hno'
    have ho1 : RowD B w1 (.slice A n c) (P ++ ([x] ++ (M2 ++ S))) := ho'
    clear hpq' hq' hy' hno' ho'
    refine brE_dec (fun hlt => ?_) (fun hge => ?_)
    · have hlt : p < q := by have : ((m + p : Nat) : Int) < (m + q : Nat) := hlt; omega
      obtain ⟨h, hh⟩ : ∃ h, h = (p + q) / 2 := ⟨_, rfl⟩
      have hhl : h < M2.length := by omega
      have eh : (m + p + (m + q)) / 2 = m + h := by rw [hh]; exact half_sum
      have ih1 : m + h < n := by omega
      obtain ⟨g1, hA1, _, hr1, _⟩ := rowD_at ho1 (i := m + h) (by rw [← rowD_n ho1]; exact ih1)
      obtain ⟨g0, hA0, _, hr0, _⟩ := rowD_at ho1 (i := a) (by rw [← rowD_n ho1]; exact ix)
      rw [get_app1 hhl (by rw [c1]; omega)] at hr1
      rw [get_app0 (t := 0) (by simp) (by omega)] at hr0
      refine ⟨((m + p + (m + q) : Nat) : Int), by (try dsimp only); rw [fit ⟨by omega, by omega⟩]; omega, ?_⟩
      refine ⟨((m + p + (m + q) : Nat) : Int), IntWalk.u64_in _ ⟨by omega, by omega⟩, ?_⟩
      refine ⟨.int .u64 (((m + p + (m + q)) / 2 : Nat) : Int), fun w => ?_, ⟨by decide, by decide⟩, ?_⟩
      · rw [binOp_shr, shift_shr_u64 _ _ _ (by decide) (by decide)]; simp
      rw [eh]
      refine ⟨((m + h : Nat) : Int), by (try dsimp only); exact fit ⟨by omega, by omega⟩, ?_⟩
      refine ⟨m + h, g1, 0, rfl, ih1, hA1, ?_⟩
      refine ⟨M2[h].cells, rfl, hr1, ?_⟩
      refine ⟨a, g0, 0, rfl, ix, hA0, ?_⟩
      refine ⟨x.cells, rfl, hr0, ?_⟩
      refine brE_true hgd ?_
      refine (hcmp M2[h] x w1).mono ?_
      rintro v w2 ⟨⟨z, rfl, hz⟩, e2⟩
      have ho2 := ho1.ext e2
      have b2 : Below B w w2 := b1.trans (e2.mono (Nat.le_trans hB b1.size))
      refine brE_dec (fun hc => ?_) (fun hc => ?_)
      · have hc : z < 0 := hc
        have hl := hz.1 hc
        refine ⟨((m + (h + 1) : Nat) : Int), by (try dsimp only); rw [fit ⟨by omega, by omega⟩]; omega, ?_⟩
        exact ⟨(h + 1, q), ⟨rfl, rfl, rfl, rfl, rfl, rfl, rfl, trivial⟩, ⟨by show h + 1 ≤ q; omega, hq, fun t ht htl => search_yes O s2 hhl hl (by have : t < h + 1 := htl; omega), hno, ho2, b2⟩, by show q - (h + 1) < q - p; omega⟩
      · have hc : ¬ z < 0 := hc
        have hl : lt M2[h] x = false := by
          cases e : lt M2[h] x with
          | false => rfl
          | true => exact absurd (hz.2 e) hc
        exact ⟨(p, h), ⟨rfl, rfl, rfl, rfl, rfl, rfl, rfl, trivial⟩, ⟨by show p ≤ h; omega, by show h ≤ M2.length; omega, hy, fun t ht htl => search_no O s2 hhl hl htl ht, ho2, b2⟩, by show h - p < q - p; omega⟩
    · have hpe : p = q := by have : ¬ ((m + p : Nat) : Int) < (m + q : Nat) := hge; omega
      subst hpe
      refine loopE C_ok (fun (r : Nat) => [(0, .slice A n c), (10, .int .i64 ((m + p : Nat) : Int)), (13, .int .i64 ((a + r : Nat) : Int))])
        (fun r w' => r ≤ p ∧ RowD B w' (.slice A n c) (P ++ (M2.take r ++ x :: (M2.drop r ++ S))) ∧ Below B w w') (fun r => p - r) 0 ⟨rfl, rfl, rfl, trivial⟩
        ⟨Nat.zero_le _, ho1, b1⟩ ?_
      rintro r w2 ⟨hr, ho2, b2⟩
      refine ⟨((a + p : Nat) : Int), by (try dsimp only); rw [fit ⟨by omega, by omega⟩]; omega, ?_⟩
      refine brE_dec (fun hlt => ?_) (fun hge => ?_)
      · have hlt : r < p := by have : ((a + r : Nat) : Int) < (a + p : Nat) := hlt; omega
        have hrl : r < M2.length := by omega
        obtain ⟨y, hye⟩ : ∃ y, y = M2[r] := ⟨_, rfl⟩
        have hd : M2.drop r = y :: M2.drop (r + 1) := by rw [hye]; exact List.drop_eq_getElem_cons hrl
        have ht : M2.take (r + 1) = M2.take r ++ [y] := by rw [hye]; exact List.take_succ_eq_append_getElem hrl
        obtain ⟨P1, hP1⟩ : ∃ P1, P1 = P ++ M2.take r := ⟨_, rfl⟩
        obtain ⟨S1, hS1⟩ : ∃ S1, S1 = M2.drop (r + 1) ++ S := ⟨_, rfl⟩
        have e1 : P ++ (M2.take r ++ x :: (M2.drop r ++ S)) = P1 ++ x :: y :: S1 := by rw [hd, hP1, hS1]; simp
        have e2 : P1 ++ y :: x :: S1 = P ++ (M2.take (r + 1) ++ x :: (M2.drop (r + 1) ++ S)) := by rw [ht, hP1, hS1]; simp
        rw [e1] at ho2
        have hPl : P1.length = a + r := by rw [hP1, List.length_append, List.length_take]; omega
        have hi0 : P1.length < (P1 ++ x :: y :: S1).length := by simp only [List.length_append, List.length_cons]; omega
        have hi1 : P1.length + 1 < (P1 ++ x :: y :: S1).length := by simp only [List.length_append, List.length_cons]; omega
        have l0 : a + r < n := by omega
        have l1 : a + r + 1 < n := by omega
        obtain ⟨g1, hA1, _, hr1, _⟩ := rowD_at ho2 hi1
        obtain ⟨g0, hA0, _, hr0, _⟩ := rowD_at ho2 hi0
        rw [get_adj1 hi1, hPl] at hr1
        rw [get_adj0 hi0, hPl] at hr0
        obtain ⟨g, cur, hA, hg, hb1, hput⟩ := rowD_swap ho2 hi0 hi1
        rw [get_adj1 hi1, get_adj0 hi0, swap_adj', hPl] at hput
        rw [hPl] at hb1
        have ad : IntKind.i64.wrap (((a + r : Nat) : Int) + 1) = ((a + r + 1 : Nat) : Int) := by (try dsimp only); rw [fit ⟨by omega, by omega⟩]; omega
        refine ⟨((a + r + 1 : Nat) : Int), ad, ?_⟩
        refine ⟨((a + r + 1 : Nat) : Int), ad, ?_⟩
        refine ⟨a + r + 1, g1, 0, rfl, l1, hA1, ?_⟩
        refine ⟨y.cells, rfl, hr1, ?_⟩
        refine ⟨a + r, g0, 0, rfl, l0, hA0, ?_⟩
        refine ⟨x.cells, rfl, hr0, ?_⟩
        refine ⟨a + r, g, 0, rfl, l0, hA, ?_⟩
        refine ⟨rfl, _, _, hg, hb1, rfl, ?_⟩
        intro w3 h3
        obtain ⟨cur1, hg1, hb2, hput2⟩ := hput w3 h3
        refine ⟨a + r + 1, g, 0, rfl, l1, hA, ?_⟩
        refine ⟨rfl, _, _, hg1, hb2, rfl, ?_⟩
        intro w4 h4
        obtain ⟨ho4, b4⟩ := hput2 w4 h4
        rw [e2] at ho4
        refine ⟨((a + (r + 1) : Nat) : Int), by (try dsimp only); rw [fit ⟨by omega, by omega⟩]; omega, ?_⟩
        exact ⟨r + 1, ⟨rfl, rfl, rfl, trivial⟩, ⟨hlt, ho4, b2.trans b4⟩, by show p - (r + 1) < p - r; omega⟩
      · have hrp : r = p := by have : ¬ ((a + r : Nat) : Int) < (a + p : Nat) := hge; omega
        subst hrp
        refine ⟨M2.take r ++ x :: M2.drop r, ?_, merge_one O s2 hy hno, ?_, b2⟩
        · refine List.perm_middle.trans ?_
          rw [List.take_append_drop]
          exact List.Perm.refl _
        · have : (M2.take r ++ x :: M2.drop r) ++ S = M2.take r ++ x :: (M2.drop r ++ S) := by simp
          rw [this]; exact ho2
  have c1 : ¬ la = 1 := by have : ¬ ((la : Nat) : Int) = 1 := c1; omega
  refine ⟨Snd.go C_ok plans239 (by kernel_rfl) ?_⟩
  refine ⟨((lb : Nat) : Int), by (try dsimp only); rw [fit ⟨by omega, by omega⟩]; omega, ?_⟩
  refine brE_dec (fun c2 => ?_) (fun c2 => ?_)
  · -- one element on the right
    have c2 : M2.length = 1 := by have : ((lb : Nat) : Int) = 1 := c2; omega
    obtain ⟨y, rfl⟩ : ∃ y, M2 = [y] := List.length_eq_one_iff.1 c2
    have iy : m < n := by omega
    refine loopE C_ok (fun (p : Nat × Nat) => [(0, .slice A n c), (1, .int .i64 (a : Nat)), (2, .int .i64 (m : Nat)), (3, .int .i64 (b : Nat)), (4, .func (.func gd) #[] cb), (14, .int .i64 ((a + p.1 : Nat) : Int)), (15, .int .i64 ((a + p.2 : Nat) : Int))])
      (fun p w' => p.1 ≤ p.2 ∧ p.2 ≤ M1.length ∧ (∀ t (ht : t < M1.length), t < p.1 → lt y M1[t] = false) ∧ (∀ t (ht : t < M1.length), p.2 ≤ t → lt y M1[t] = true) ∧ RowD B w' (.slice A n c) (P ++ (M1 ++ ([y] ++ S))) ∧ Below B w w') (fun p => p.2 - p.1) (0, M1.length)
      ⟨rfl, rfl, rfl, rfl, rfl, rfl, congrArg (fun q : Nat => some (Value.int IntKind.i64 ((q : Nat) : Int))) hm, trivial⟩
      ⟨Nat.zero_le _, Nat.le_refl _, (fun t _ h => absurd h (Nat.not_lt_zero _)), (fun t ht h => absurd ht (Nat.not_lt.2 h)), ho, Below.refl _ _⟩ ?_
    rintro ⟨p, q⟩ w1 ⟨hpq', hq', hy', hno', ho', b1⟩
    have hpq : p ≤ q := hpq'
    have hq : q ≤ M1.length := hq'
    have hy : ∀ t (ht : t < M1.length), t < p → lt y M1[t] = false := hy'
    have hno : ∀ t (ht : t < M1.length), q ≤ t → lt y M1[t] = true := hno'
    have ho1 : RowD B w1 (.slice A n c) (P ++ (M1 ++ ([y] ++ S))) := ho'
    clear hpq' hq' hy' hno' ho'
    refine brE_dec (fun hlt => ?_) (fun hge => ?_)
    · have hlt : p < q := by have : ((a + p : Nat) : Int) < (a + q : Nat) := hlt; omega
      obtain ⟨h, hh⟩ : ∃ h, h = (p + q) / 2 := ⟨_, rfl⟩
      have hhl : h < M1.length := by omega
      have eh : (a + p + (a + q)) / 2 = a + h := by rw [hh]; exact half_sum
      have ih1 : a + h < n := by omega
      obtain ⟨g1, hA1, _, hr1, _⟩ := rowD_at ho1 (i := m) (by rw [← rowD_n ho1]; exact iy)
      obtain ⟨g0, hA0, _, hr0, _⟩ := rowD_at ho1 (i := a + h) (by rw [← rowD_n ho1]; exact ih1)
      rw [get_app1 (t := 0) (by simp) (by omega)] at hr1
      rw [get_app0 hhl (by omega)] at hr0
      refine ⟨((a + p + (a + q) : Nat) : Int), by (try dsimp only); rw [fit ⟨by omega, by omega⟩]; omega, ?_⟩
      refine ⟨((a + p + (a + q) : Nat) : Int), IntWalk.u64_in _ ⟨by omega, by omega⟩, ?_⟩
      refine ⟨.int .u64 (((a + p + (a + q)) / 2 : Nat) : Int), fun w => ?_, ⟨by decide, by decide⟩, ?_⟩
      · rw [binOp_shr, shift_shr_u64 _ _ _ (by decide) (by decide)]; simp
      rw [eh]
      refine ⟨((a + h : Nat) : Int), by (try dsimp only); exact fit ⟨by omega, by omega⟩, ?_⟩
      refine ⟨m, g1, 0, rfl, iy, hA1, ?_⟩
      refine ⟨y.cells, rfl, hr1, ?_⟩
      refine ⟨a + h, g0, 0, rfl, ih1, hA0, ?_⟩
      refine ⟨M1[h].cells, rfl, hr0, ?_⟩
      refine brE_true hgd ?_
      refine (hcmp y M1[h] w1).mono ?_
      rintro v w2 ⟨⟨z, rfl, hz⟩, e2⟩
      have ho2 := ho1.ext e2
      have b2 : Below B w w2 := b1.trans (e2.mono (Nat.le_trans hB b1.size))
      refine brE_ndec (fun hc => ?_) (fun hc => ?_)
      · have hc : ¬ z < 0 := hc
        have hl : lt y M1[h] = false := by
          cases e : lt y M1[h] with
          | false => rfl
          | true => exact absurd (hz.2 e) hc
        refine ⟨((a + (h + 1) : Nat) : Int), by (try dsimp only); rw [fit ⟨by omega, by omega⟩]; omega, ?_⟩
        exact ⟨(h + 1, q), ⟨rfl, rfl, rfl, rfl, rfl, rfl, rfl, trivial⟩, ⟨by show h + 1 ≤ q; omega, hq, fun t ht htl => search_yes' O s1 hhl hl (by have : t < h + 1 := htl; omega), hno, ho2, b2⟩, by show q - (h + 1) < q - p; omega⟩
      · have hc : z < 0 := hc
        have hl := hz.1 hc
        exact ⟨(p, h), ⟨rfl, rfl, rfl, rfl, rfl, rfl, rfl, trivial⟩, ⟨by show p ≤ h; omega, by show h ≤ M1.length; omega, hy, fun t ht htl => search_no' O s1 hhl hl htl ht, ho2, b2⟩, by show h - p < q - p; omega⟩
    · have hpe : p = q := by have : ¬ ((a + p : Nat) : Int) < (a + q : Nat) := hge; omega
      subst hpe
      refine loopE C_ok (fun (r : Nat) => [(0, .slice A n c), (14, .int .i64 ((a + p : Nat) : Int)), (17, .int .i64 ((a + r : Nat) : Int))])
        (fun r w' => p ≤ r ∧ r ≤ M1.length ∧ RowD B w' (.slice A n c) (P ++ (M1.take r ++ y :: (M1.drop r ++ S))) ∧ Below B w w') (fun r => r) M1.length ⟨rfl, rfl, congrArg (fun q : Nat => some (Value.int IntKind.i64 ((q : Nat) : Int))) hm, trivial⟩
        ⟨hq, Nat.le_refl _, by rw [List.take_length, List.drop_length]; exact ho1, b1⟩ ?_
      rintro r w2 ⟨hpr, hr, ho2, b2⟩
      refine brE_dec (fun hlt => ?_) (fun hge => ?_)
      · have hlt : p < r := by have : ((a + r : Nat) : Int) > (a + p : Nat) := hlt; omega
        obtain ⟨r, rfl⟩ : ∃ r', r = r' + 1 := ⟨r - 1, by omega⟩
        have hrl : r < M1.length := by omega
        obtain ⟨x, hxe⟩ : ∃ x, x = M1[r] := ⟨_, rfl⟩
        have hd : M1.drop r = x :: M1.drop (r + 1) := by rw [hxe]; exact List.drop_eq_getElem_cons hrl
        have ht : M1.take (r + 1) = M1.take r ++ [x] := by rw [hxe]; exact List.take_succ_eq_append_getElem hrl
        obtain ⟨P1, hP1⟩ : ∃ P1, P1 = P ++ M1.take r := ⟨_, rfl⟩
        obtain ⟨S1, hS1⟩ : ∃ S1, S1 = M1.drop (r + 1) ++ S := ⟨_, rfl⟩
        have e1 : P ++ (M1.take (r + 1) ++ y :: (M1.drop (r + 1) ++ S)) = P1 ++ x :: y :: S1 := by rw [ht, hP1, hS1]; simp
        have e2 : P1 ++ y :: x :: S1 = P ++ (M1.take r ++ y :: (M1.drop r ++ S)) := by rw [hd, hP1, hS1]; simp
        rw [e1] at ho2
        have hPl : P1.length = a + r := by rw [hP1, List.length_append, List.length_take]; omega
        have hi0 : P1.length < (P1 ++ x :: y :: S1).length := by simp only [List.length_append, List.length_cons]; omega
        have hi1 : P1.length + 1 < (P1 ++ x :: y :: S1).length := by simp only [List.length_append, List.length_cons]; omega
        have l0 : a + r < n := by omega
        have l1 : a + (r + 1) < n := by omega
        have hPl1 : P1.length + 1 = a + (r + 1) := by omega
        obtain ⟨g1, hA1, _, hr1, _⟩ := rowD_at ho2 hi1
        obtain ⟨g0, hA0, _, hr0, _⟩ := rowD_at ho2 hi0
        rw [get_adj1 hi1, hPl1] at hr1
        rw [get_adj0 hi0, hPl] at hr0
        obtain ⟨g, cur, hA, hg, hb1, hput⟩ := rowD_swap ho2 hi1 hi0
        rw [get_adj1 hi1, get_adj0 hi0, swap_adj, hPl1, hPl] at hput
        rw [hPl1] at hb1
        have ad : IntKind.i64.wrap (((a + (r + 1) : Nat) : Int) - 1) = ((a + r : Nat) : Int) := by (try dsimp only); rw [fit ⟨by omega, by omega⟩]; omega
        refine ⟨((a + r : Nat) : Int), ad, ?_⟩
        refine ⟨((a + r : Nat) : Int), ad, ?_⟩
        refine ⟨a + r, g0, 0, rfl, l0, hA0, ?_⟩
        refine ⟨x.cells, rfl, hr0, ?_⟩
        refine ⟨a + (r + 1), g1, 0, rfl, l1, hA1, ?_⟩
        refine ⟨y.cells, rfl, hr1, ?_⟩
        refine ⟨a + (r + 1), g, 0, rfl, l1, hA, ?_⟩
        refine ⟨rfl, _, _, hg, hb1, rfl, ?_⟩
        intro w3 h3
        obtain ⟨cur1, hg1, hb2, hput2⟩ := hput w3 h3
        refine ⟨a + r, g, 0, rfl, l0, hA, ?_⟩
        refine ⟨rfl, _, _, hg1, hb2, rfl, ?_⟩
        intro w4 h4
        obtain ⟨ho4, b4⟩ := hput2 w4 h4
        rw [e2] at ho4
        refine ⟨((a + r : Nat) : Int), ad, ?_⟩
        exact ⟨r, ⟨rfl, rfl, rfl, trivial⟩, ⟨by omega, by omega, ho4, b2.trans b4⟩, Nat.lt_succ_self r⟩
      · have hrp : r = p := by have : ¬ ((a + r : Nat) : Int) > (a + p : Nat) := hge; omega
        subst hrp
        refine ⟨M1.take r ++ y :: M1.drop r, ?_, merge_one' O s1 hy hno, ?_, b2⟩
        · refine List.perm_middle.trans ?_
          rw [List.take_append_drop]
          exact (List.perm_append_singleton y M1).symm
        · have : (M1.take r ++ y :: M1.drop r) ++ S = M1.take r ++ y :: (M1.drop r ++ S) := by simp
          rw [this]; exact ho2
  have c2 : ¬ lb = 1 := by have : ¬ ((lb : Nat) : Int) = 1 := c2; omega
  obtain ⟨H, hH⟩ : ∃ H, H = (la + lb) / 2 := ⟨_, rfl⟩
  have emid : (a + b) / 2 = a + H := by omega
  refine ⟨Snd.go C_ok plans239 (by kernel_rfl) ?_⟩
  refine ⟨((a + b : Nat) : Int), by (try dsimp only); rw [fit ⟨by omega, by omega⟩]; omega, ?_⟩
  refine ⟨((a + b : Nat) : Int), IntWalk.u64_in _ ⟨by omega, by omega⟩, ?_⟩
  refine ⟨.int .u64 (((a + b) / 2 : Nat) : Int), fun w => ?_, ⟨by decide, by decide⟩, ?_⟩
  · rw [binOp_shr, shift_shr_u64 _ _ _ (by decide) (by decide)]; simp
  rw [emid]
  refine ⟨((a + H : Nat) : Int), by (try dsimp only); exact fit ⟨by omega, by omega⟩, ?_⟩
  refine ⟨Snd.go C_ok plans239 (by kernel_rfl) ?_⟩
  refine ⟨((a + H + m : Nat) : Int), by (try dsimp only); rw [fit ⟨by omega, by omega⟩]; omega, ?_⟩
  refine ⟨Snd.go C_ok plans239 (by kernel_rfl) ?_⟩
  refine ⟨Snd.join C_ok plans239 (fun (p : Nat × Nat) => [(0, .slice A n c), (1, .int .i64 (a : Nat)), (2, .int .i64 (m : Nat)), (3, .int .i64 (b : Nat)), (4, .func (.func gd) #[] cb), (18, .int .i64 ((a + H : Nat) : Int)), (19, .int .i64 ((a + H + m : Nat) : Int)), (20, .int .i64 ((a + p.1 : Nat) : Int)), (21, .int .i64 ((a + p.2 : Nat) : Int))])
    (fun p w' => w' = w ∧ p.1 ≤ p.2 ∧ p.2 ≤ la ∧ p.2 ≤ H ∧ H ≤ p.1 + lb ∧ (p.1 = 0 ∨ p.1 + lb = H) ∧ (p.2 = la ∨ p.2 = H)) (by kernel_rfl) ?_ ?_⟩
  · refine brE_dec (fun c3 => ?_) (fun c3 => ?_)
    · have c3 : H < la := by have : ((m : Nat) : Int) > (a + H : Nat) := c3; omega
      refine ⟨((a + (H - lb) : Nat) : Int), by (try dsimp only); rw [fit ⟨by omega, by omega⟩]; omega, ?_⟩
      exact ⟨(H - lb, H), ⟨rfl, rfl, rfl, rfl, rfl, rfl, rfl, rfl, rfl, trivial⟩, rfl, by show H - lb ≤ H; omega, by show H ≤ la; omega, Nat.le_refl _, by show H ≤ H - lb + lb; omega, .inr (by show H - lb + lb = H; omega), .inr rfl⟩
    · have c3 : la ≤ H := by have : ¬ ((m : Nat) : Int) > (a + H : Nat) := c3; omega
      exact ⟨(0, la), ⟨rfl, rfl, rfl, rfl, rfl, rfl, rfl, rfl, congrArg (fun q : Nat => some (Value.int IntKind.i64 ((q : Nat) : Int))) (by show m = a + la; omega), trivial⟩, rfl, Nat.zero_le _, Nat.le_refl _, c3, by show H ≤ 0 + lb; omega, .inl rfl, .inl rfl⟩
  rintro ⟨lo, hi⟩ w0 ⟨rfl, f1', f2', f3', f4', f5', f6'⟩
  have f1 : lo ≤ hi := f1'
  have f2 : hi ≤ la := f2'
  have f3 : hi ≤ H := f3'
  have f4 : H ≤ lo + lb := f4'
  have f5 : lo = 0 ∨ lo + lb = H := f5'
  have f6 : hi = la ∨ hi = H := f6'
  clear f1' f2' f3' f4' f5' f6'
  refine Snd.go C_ok plans239 (by kernel_rfl) ?_
  refine ⟨((a + H + m - 1 : Nat) : Int), by (try dsimp only); rw [fit ⟨by omega, by omega⟩]; omega, ?_⟩
  refine ⟨Snd.go C_ok plans239 (by kernel_rfl) ?_⟩
  refine loopE C_ok (fun (p : Nat × Nat) => [(0, .slice A n c), (1, .int .i64 (a : Nat)), (2, .int .i64 (m : Nat)), (3, .int .i64 (b : Nat)), (4, .func (.func gd) #[] cb), (18, .int .i64 ((a + H : Nat) : Int)), (19, .int .i64 ((a + H + m : Nat) : Int)), (20, .int .i64 ((a + p.1 : Nat) : Int)), (21, .int .i64 ((a + p.2 : Nat) : Int)), (22, .int .i64 ((a + H + m - 1 : Nat) : Int))])
    (fun p w' => lo ≤ p.1 ∧ p.1 ≤ p.2 ∧ p.2 ≤ hi ∧ (p.1 = lo ∨ ∀ (h1 : p.1 - 1 < M1.length) (h2 : H - p.1 < M2.length), lt M2[H - p.1] M1[p.1 - 1] = false) ∧ (p.2 = hi ∨ ∀ (h1 : p.2 < M1.length) (h2 : H - 1 - p.2 < M2.length), lt M2[H - 1 - p.2] M1[p.2] = true) ∧ RowD B w' (.slice A n c) (P ++ (M1 ++ (M2 ++ S))) ∧ Below B w0 w') (fun p => p.2 - p.1) (lo, hi)
    ⟨rfl, rfl, rfl, rfl, rfl, rfl, rfl, rfl, rfl, rfl, trivial⟩ ⟨Nat.le_refl _, f1, Nat.le_refl _, .inl rfl, .inl rfl, ho, Below.refl _ _⟩ ?_
  rintro ⟨u, v⟩ w1 ⟨g1', g2', g3', g4', g5', ho', b1⟩
  have q1 : lo ≤ u := g1'
  have q2 : u ≤ v := g2'
  have q3 : v ≤ hi := g3'
  have q4 : u = lo ∨ ∀ (h1 : u - 1 < M1.length) (h2 : H - u < M2.length), lt M2[H - u] M1[u - 1] = false := g4'
  have q5 : v = hi ∨ ∀ (h1 : v < M1.length) (h2 : H - 1 - v < M2.length), lt M2[H - 1 - v] M1[v] = true := g5'
  have ho1 : RowD B w1 (.slice A n c) (P ++ (M1 ++ (M2 ++ S))) := ho'
  clear g1' g2' g3' g4' g5' ho'
  refine brE_dec (fun hlt => ?_) (fun hge => ?_)
  · have hlt : u < v := by have : ((a + u : Nat) : Int) < (a + v : Nat) := hlt; omega
    obtain ⟨h, hh⟩ : ∃ h, h = (u + v) / 2 := ⟨_, rfl⟩
    have eh : (a + u + (a + v)) / 2 = a + h := by rw [hh]; exact half_sum
    have hh1 : h < M1.length := by omega
    have hh2 : H - 1 - h < M2.length := by omega
    have i1 : m + (H - 1 - h) < n := by omega
    have i0 : a + h < n := by omega
    obtain ⟨g1, hA1, _, hr1, _⟩ := rowD_at ho1 (i := m + (H - 1 - h)) (by rw [← rowD_n ho1]; exact i1)
    obtain ⟨g0, hA0, _, hr0, _⟩ := rowD_at ho1 (i := a + h) (by rw [← rowD_n ho1]; exact i0)
    rw [get_app1 hh2 (by omega)] at hr1
    rw [get_app0 hh1 (by omega)] at hr0
    refine ⟨((a + u + (a + v) : Nat) : Int), by (try dsimp only); rw [fit ⟨by omega, by omega⟩]; omega, ?_⟩
    refine ⟨((a + u + (a + v) : Nat) : Int), IntWalk.u64_in _ ⟨by omega, by omega⟩, ?_⟩
    refine ⟨.int .u64 (((a + u + (a + v)) / 2 : Nat) : Int), fun w => ?_, ⟨by decide, by decide⟩, ?_⟩
    · rw [binOp_shr, shift_shr_u64 _ _ _ (by decide) (by decide)]; simp
    rw [eh]
    refine ⟨((a + h : Nat) : Int), by (try dsimp only); exact fit ⟨by omega, by omega⟩, ?_⟩
    refine ⟨((m + (H - 1 - h) : Nat) : Int), by (try dsimp only); rw [fit ⟨by omega, by omega⟩]; omega, ?_⟩
    refine ⟨m + (H - 1 - h), g1, 0, rfl, i1, hA1, ?_⟩
    refine ⟨M2[H - 1 - h].cells, rfl, hr1, ?_⟩
    refine ⟨a + h, g0, 0, rfl, i0, hA0, ?_⟩
    refine ⟨M1[h].cells, rfl, hr0, ?_⟩
    refine brE_true hgd ?_
    refine (hcmp M2[H - 1 - h] M1[h] w1).mono ?_
    rintro v' w2 ⟨⟨z, rfl, hz⟩, e2⟩
    have ho2 := ho1.ext e2
    have b2 : Below B w0 w2 := b1.trans (e2.mono (Nat.le_trans hB b1.size))
    refine brE_ndec (fun hc => ?_) (fun hc => ?_)
    · have hc : ¬ z < 0 := hc
      have hl : lt M2[H - 1 - h] M1[h] = false := by
        cases e : lt M2[H - 1 - h] M1[h] with
        | false => rfl
        | true => exact absurd (hz.2 e) hc
      refine ⟨((a + (h + 1) : Nat) : Int), by (try dsimp only); rw [fit ⟨by omega, by omega⟩]; omega, ?_⟩
      refine ⟨(h + 1, v), ⟨rfl, rfl, rfl, rfl, rfl, rfl, rfl, rfl, rfl, rfl, trivial⟩, ⟨by show lo ≤ h + 1; omega, by show h + 1 ≤ v; omega, q3, .inr ?_, q5, ho2, b2⟩, by show v - (h + 1) < v - u; omega⟩
      show ∀ (h1 : h + 1 - 1 < M1.length) (h2 : H - (h + 1) < M2.length), lt M2[H - (h + 1)] M1[h + 1 - 1] = false
      intro _ _
      have ee : H - (h + 1) = H - 1 - h := by omega
      simp only [ee, Nat.add_sub_cancel]
      exact hl
    · have hc : z < 0 := hc
      have hl := hz.1 hc
      exact ⟨(u, h), ⟨rfl, rfl, rfl, rfl, rfl, rfl, rfl, rfl, rfl, rfl, trivial⟩, ⟨q1, by show u ≤ h; omega, by show h ≤ hi; omega, q4, .inr fun _ _ => hl, ho2, b2⟩, by show h - u < v - u; omega⟩
  have huv : u = v := by have : ¬ ((a + u : Nat) : Int) < (a + v : Nat) := hge; omega
  subst huv
  clear hge
  obtain ⟨A1, hA1⟩ : ∃ A1, A1 = M1.take u := ⟨_, rfl⟩
  obtain ⟨A2, hA2⟩ : ∃ A2, A2 = M1.drop u := ⟨_, rfl⟩
  obtain ⟨B1, hB1⟩ : ∃ B1, B1 = M2.take (H - u) := ⟨_, rfl⟩
  obtain ⟨B2, hB2⟩ : ∃ B2, B2 = M2.drop (H - u) := ⟨_, rfl⟩
  have hMA : M1 = A1 ++ A2 := by rw [hA1, hA2, List.take_append_drop]
  have hMB : M2 = B1 ++ B2 := by rw [hB1, hB2, List.take_append_drop]
  have lA1 : A1.length = u := by rw [hA1, List.length_take]; omega
  have lA2 : A2.length = la - u := by rw [hA2, List.length_drop, hla]
  have lB1 : B1.length = H - u := by rw [hB1, List.length_take]; omega
  have lB2 : B2.length = lb - (H - u) := by rw [hB2, List.length_drop, hlb]
  have sA := s1
  rw [hMA] at sA
  have sB := s2
  rw [hMB] at sB
  obtain ⟨sA1, sA2, _⟩ := List.pairwise_append.1 sA
  obtain ⟨sB1, sB2, _⟩ := List.pairwise_append.1 sB
  have hle : ∀ x ∈ A1, ∀ y ∈ B2, lt y x = false := by
    intro x hx y hy
    rw [hA1] at hx
    rw [hB2] at hy
    obtain ⟨t, ht, htu, rfl⟩ := mem_take_at hx
    obtain ⟨r, hr, hru, rfl⟩ := mem_drop_at hy
    rcases q4 with e | q4
    · rcases f5 with f5 | f5 <;> omega
    · have h1 := q4 (by omega) (by omega)
      have h3 := sorted_le O s1 ht (by omega : u - 1 < M1.length) (by omega)
      have h4 := sorted_le O s2 (by omega : H - u < M2.length) hr hru
      exact O.ntr _ _ _ (O.ntr _ _ _ h3 h1) h4
  have hgt : ∀ x ∈ B1, ∀ y ∈ A2, lt y x = false := by
    intro x hx y hy
    rw [hB1] at hx
    rw [hA2] at hy
    obtain ⟨t, ht, htu, rfl⟩ := mem_take_at hx
    obtain ⟨r, hr, hru, rfl⟩ := mem_drop_at hy
    rcases q5 with e | q5
    · rcases f6 with f6 | f6 <;> omega
    · have h1 := O.asym _ _ (q5 (by omega) (by omega))
      have h3 := sorted_le O s2 ht (by omega : H - 1 - u < M2.length) (by omega)
      have h4 := sorted_le O s1 (by omega : u < M1.length) hr hru
      exact O.ntr _ _ _ (O.ntr _ _ _ h3 h1) h4
  have e1 : P ++ (M1 ++ (M2 ++ S)) = (P ++ A1) ++ (A2 ++ (B1 ++ (B2 ++ S))) := by rw [hMA, hMB]; simp
  have e2 : (P ++ A1) ++ (B1 ++ (A2 ++ (B2 ++ S))) = P ++ (A1 ++ (B1 ++ (A2 ++ (B2 ++ S)))) := by simp
  rw [e1] at ho1
  refine ⟨Snd.go C_ok plans239 (by kernel_rfl) ?_⟩
  refine ⟨((m + (H - u) : Nat) : Int), by (try dsimp only); rw [fit ⟨by omega, by omega⟩]; omega, ?_⟩
  refine ⟨Snd.join C_ok plans239 (fun (_ : Unit) => [(0, .slice A n c), (1, .int .i64 (a : Nat)), (3, .int .i64 (b : Nat)), (4, .func (.func gd) #[] cb), (18, .int .i64 ((a + H : Nat) : Int)), (20, .int .i64 ((a + u : Nat) : Int)), (24, .int .i64 ((m + (H - u) : Nat) : Int))])
    (fun _ w' => RowD B w' (.slice A n c) (P ++ (A1 ++ (B1 ++ (A2 ++ (B2 ++ S))))) ∧ Below B w0 w') (by kernel_rfl) ?_ ?_⟩
  · refine brE_dec (fun d1 => ?_) (fun d1 => ?_)
    · have d1 : u < la := by have : ((a + u : Nat) : Int) < (m : Nat) := d1; omega
      refine brE_dec (fun d2 => ?_) (fun d2 => ?_)
      · have d2 : 0 < H - u := by have : ((m : Nat) : Int) < (m + (H - u) : Nat) := d2; omega
        refine (rotate_spec (a := a + u) (m := m) (b := m + (H - u)) ho1 hn (by rw [List.length_append]; omega) (by omega) (by omega) (by omega) (by omega)).mono ?_
        rintro _ w2 ⟨ho2, b2⟩
        rw [e2] at ho2
        exact ⟨(), ⟨rfl, rfl, rfl, rfl, rfl, rfl, rfl, trivial⟩, ho2, b1.trans b2⟩
      · have d2 : B1 = [] := List.length_eq_zero_iff.1 (by have : ¬ ((m : Nat) : Int) < (m + (H - u) : Nat) := d2; omega)
        refine ⟨(), ⟨rfl, rfl, rfl, rfl, rfl, rfl, rfl, trivial⟩, ?_, b1⟩
        rw [← e2]
        rw [d2] at ho1 ⊢
        exact ho1
    · have d1 : A2 = [] := List.length_eq_zero_iff.1 (by have : ¬ ((a + u : Nat) : Int) < (m : Nat) := d1; omega)
      refine ⟨(), ⟨rfl, rfl, rfl, rfl, rfl, rfl, rfl, trivial⟩, ?_, b1⟩
      rw [← e2]
      rw [d1] at ho1 ⊢
      exact ho1
  rintro _ w2 ⟨ho2, b2⟩
  refine Snd.join C_ok plans239 (fun (_ : List Due) => [(0, .slice A n c), (3, .int .i64 (b : Nat)), (4, .func (.func gd) #[] cb), (18, .int .i64 ((a + H : Nat) : Int)), (24, .int .i64 ((m + (H - u) : Nat) : Int))])
    (fun X w' => X.Perm (A1 ++ B1) ∧ SortedB lt X ∧ RowD B w' (.slice A n c) (P ++ (X ++ (A2 ++ (B2 ++ S)))) ∧ Below B w0 w') (by kernel_rfl) ?_ ?_
  · refine brE_dec (fun d1 => ?_) (fun d1 => ?_)
    · have d1 : 0 < u := by have : ((a : Nat) : Int) < (a + u : Nat) := d1; omega
      refine brE_dec (fun d2 => ?_) (fun d2 => ?_)
      · have d2 : u < H := by have : ((a + u : Nat) : Int) < (a + H : Nat) := d2; omega
        refine (ih (a := a) (m := a + u) (b := a + H) (P := P) (M1 := A1) (M2 := B1) (S := A2 ++ (B2 ++ S)) (by omega) ho2 (Nat.le_trans hB b2.size) ha (by omega) (by omega) (by omega) (by omega) sA1 sB1).mono ?_
        rintro _ w3 ⟨X, hp, hs, ho3, b3⟩
        exact ⟨X, ⟨rfl, rfl, rfl, rfl, rfl, trivial⟩, hp, hs, ho3, b2.trans b3⟩
      · have d2 : B1 = [] := List.length_eq_zero_iff.1 (by have : ¬ ((a + u : Nat) : Int) < (a + H : Nat) := d2; omega)
        refine ⟨A1, ⟨rfl, rfl, rfl, rfl, rfl, trivial⟩, by rw [d2, List.append_nil], sA1, ?_, b2⟩
        rw [d2] at ho2
        exact ho2
    · have d1 : A1 = [] := List.length_eq_zero_iff.1 (by have : ¬ ((a : Nat) : Int) < (a + u : Nat) := d1; omega)
      refine ⟨B1, ⟨rfl, rfl, rfl, rfl, rfl, trivial⟩, by rw [d1]; exact List.Perm.refl _, sB1, ?_, b2⟩
      rw [d1] at ho2
      exact ho2
  rintro X w3 ⟨hXp, hXs, ho3, b3⟩
  have lX : X.length = H := by rw [hXp.length_eq, List.length_append]; omega
  have fin : ∀ (Y : List Due) (w4 : World), Y.Perm (A2 ++ B2) → SortedB lt Y → RowD B w4 (.slice A n c) ((P ++ X) ++ (Y ++ S)) → Below B w0 w4 → ∃ M', M'.Perm (M1 ++ M2) ∧ SortedB lt M' ∧ RowD B w4 (.slice A n c) (P ++ (M' ++ S)) ∧ Below B w0 w4 := by
    intro Y w4 hYp hYs ho4 b4
    obtain ⟨r1, r2⟩ := merge_halves (lt := lt) hle hgt sA sB hXs hXp hYs hYp
    refine ⟨X ++ Y, by rw [hMA, hMB]; exact r2, r1, ?_, b4⟩
    have : P ++ ((X ++ Y) ++ S) = (P ++ X) ++ (Y ++ S) := by simp
    rw [this]; exact ho4
  have e3 : P ++ (X ++ (A2 ++ (B2 ++ S))) = (P ++ X) ++ (A2 ++ (B2 ++ S)) := by simp
  rw [e3] at ho3
  refine Snd.fin C_ok (plans := plans239) (by kernel_rfl) ?_
  refine brE_dec (fun d1 => ?_) (fun d1 => ?_)
  · have d1 : u < la := by have : ((a + H : Nat) : Int) < (m + (H - u) : Nat) := d1; omega
    refine brE_dec (fun d2 => ?_) (fun d2 => ?_)
    · have d2 : 0 < B2.length := by have : ((m + (H - u) : Nat) : Int) < (b : Nat) := d2; omega
      refine (ih (a := a + H) (m := m + (H - u)) (b := b) (P := P ++ X) (M1 := A2) (M2 := B2) (S := S) (by omega) ho3 (Nat.le_trans hB b3.size) (by rw [List.length_append]; omega) (by omega) (by omega) (by omega) d2 sA2 sB2).mono ?_
      rintro _ w4 ⟨Y, hp, hs, ho4, b4⟩
      exact fin Y w4 hp hs ho4 (b3.trans b4)
    · have d2 : B2 = [] := List.length_eq_zero_iff.1 (by have : ¬ ((m + (H - u) : Nat) : Int) < (b : Nat) := d2; omega)
      refine fin A2 w3 (by rw [d2, List.append_nil]) sA2 ?_ b3
      rw [d2] at ho3
      exact ho3
  · have d1 : A2 = [] := List.length_eq_zero_iff.1 (by have : ¬ ((a + H : Nat) : Int) < (m + (H - u) : Nat) := d1; omega)
    refine fin B2 w3 (by rw [d1]; exact List.Perm.refl _) sB2 ?_ b3
    rw [d1] at ho3
    exact ho3
end Go.Proofs.YtcnbpfecgokhiaaGreatDoor
namespace Go.Proofs.YtcnbpfecgokhiaaGreatDoor
open Go.Eng Go.RowKit
set_option maxRecDepth 100000 in
set_option maxHeartbeats 4000000 in
theorem stable_spec {B : Nat} {w : World} {A : Option Addr} {n c gd : Nat} {cb : Array Value} {lt : Due → Due → Bool} {M : List Due} (ho : RowD B w (.slice A n c) M) (hB : B ≤ w.heap.size) (hn : n ≤ 2 ^ 20) (hgd : C.can gd = true) (hcmp : CmpD gd cb lt) (O : OrdB lt) :
    CallsV C.P 198 #[.slice A n c, .int .i64 (n : Nat), .func (.func gd) #[] cb] w fun _ w' => ∃ M', M'.Perm M ∧ SortedB lt M' ∧ RowD B w' (.slice A n c) M' ∧ Below B w w' := by
  refine callsV_ofS (args := [_, _, _]) Tryz.func198 rfl Tryz.ntmps198 C_ok (Nat.le_of_ble_eq_true rfl) ?_
  refine Snd.go C_ok [] (by kernel_rfl) ?_
  refine ⟨Snd.go C_ok [] (by kernel_rfl) ?_⟩
  refine ⟨Snd.go C_ok [] (by kernel_rfl) ?_⟩
  refine loopE C_ok (fun (p : List (List Due) × List Due) => [(0, .slice A n c), (1, .int .i64 (n : Nat)), (2, .func (.func gd) #[] cb), (6, .int .i64 20), (7, .int .i64 ((p.1.flatten.length : Nat) : Int)), (8, .int .i64 ((p.1.flatten.length + 20 : Nat) : Int))])
    (fun p w' => (∀ R ∈ p.1, R.length = 20 ∧ SortedB lt R) ∧ (p.1.flatten ++ p.2).Perm M ∧ RowD B w' (.slice A n c) (p.1.flatten ++ p.2) ∧ Below B w w') (fun p => p.2.length) ([], M) ⟨rfl, rfl, rfl, rfl, rfl, rfl, trivial⟩
    ⟨(fun R h => by cases h), List.Perm.refl _, ho, Below.refl _ _⟩ ?_
  rintro ⟨Rs, rest⟩ w1 ⟨hR', hp', ho', b1⟩
  have hR : ∀ R ∈ Rs, R.length = 20 ∧ SortedB lt R := hR'
  have hp : (Rs.flatten ++ rest).Perm M := hp'
  have ho1 : RowD B w1 (.slice A n c) (Rs.flatten ++ rest) := ho'
  clear hR' hp' ho'
  have hl1 := rowD_n ho1
  rw [List.length_append] at hl1
  refine brE_dec (fun hle => ?_) (fun hgt => ?_)
  · have hle : Rs.flatten.length + 20 ≤ n := by have : ((Rs.flatten.length + 20 : Nat) : Int) ≤ (n : Nat) := hle; omega
    have ho2 : RowD B w1 (.slice A n c) (Rs.flatten ++ (rest.take 20 ++ rest.drop 20)) := by rw [List.take_append_drop]; exact ho1
    have hl20 : (rest.take 20).length = 20 := by rw [List.length_take]; omega
    refine (insSort_spec (a := Rs.flatten.length) (b := Rs.flatten.length + 20) ho2 (Nat.le_trans hB b1.size) (by omega) rfl (by omega) hgd hcmp O).mono ?_
    rintro v w2 ⟨X, hXp, hXs, ho3, b2⟩
    have hXl : X.length = 20 := by rw [hXp.length_eq, hl20]
    refine ⟨((Rs.flatten.length + 20 + 20 : Nat) : Int), by (try dsimp only); rw [fit ⟨by omega, by omega⟩]; omega, ?_⟩
    have hfl : (Rs ++ [X]).flatten = Rs.flatten ++ X := by simp
    have hfn : (Rs ++ [X]).flatten.length = Rs.flatten.length + 20 := by rw [hfl, List.length_append, hXl]
    refine ⟨(Rs ++ [X], rest.drop 20), ⟨rfl, rfl, rfl, rfl, congrArg (fun q : Nat => some (Value.int IntKind.i64 ((q : Nat) : Int))) hfn.symm, congrArg (fun q : Nat => some (Value.int IntKind.i64 ((q + 20 : Nat) : Int))) hfn.symm, trivial⟩, ⟨?_, ?_, ?_, b1.trans b2⟩, by show (rest.drop 20).length < rest.length; rw [List.length_drop]; omega⟩
    · intro R h
      rcases List.mem_append.1 h with h | h
      · exact hR R h
      · rw [List.mem_singleton.1 h]; exact ⟨hXl, hXs⟩
    · show ((Rs ++ [X]).flatten ++ rest.drop 20).Perm M
      rw [hfl, List.append_assoc]
      refine List.Perm.trans ?_ hp
      refine List.Perm.append_left _ ?_
      have := hXp.append_right (rest.drop 20)
      rwa [List.take_append_drop] at this
    · show RowD B w2 (.slice A n c) ((Rs ++ [X]).flatten ++ rest.drop 20)
      rw [hfl, List.append_assoc]; exact ho3
  have hlt : rest.length < 20 := by have : ¬ ((Rs.flatten.length + 20 : Nat) : Int) ≤ (n : Nat) := hgt; omega
  refine ⟨Snd.go C_ok [] (by kernel_rfl) ?_⟩
  refine (insSort_spec (a := Rs.flatten.length) (b := n) (P := Rs.flatten) (M := rest) (S := []) (by rw [List.append_nil]; exact ho1) (Nat.le_trans hB b1.size) (by omega) rfl (by omega) hgd hcmp O).mono ?_
  rintro v w2 ⟨T, hTp, hTs, ho2, b2⟩
  rw [List.append_nil] at ho2
  have hTl : T.length < 20 := by rw [hTp.length_eq]; exact hlt
  have hpT : (Rs.flatten ++ T).Perm M := (List.Perm.append_left _ hTp).trans hp
  refine ⟨Snd.fin C_ok (plans := []) (by kernel_rfl) ?_⟩
  refine loopE C_ok (fun (p : Nat × List (List Due) × List Due) => [(0, .slice A n c), (1, .int .i64 (n : Nat)), (2, .func (.func gd) #[] cb), (6, .int .i64 ((p.1 : Nat) : Int))])
    (fun p w' => 0 < p.1 ∧ p.1 ≤ 2 ^ 22 ∧ (∀ R ∈ p.2.1, R.length = p.1 ∧ SortedB lt R) ∧ p.2.2.length < p.1 ∧ SortedB lt p.2.2 ∧ (p.2.1.flatten ++ p.2.2).Perm M ∧ RowD B w' (.slice A n c) (p.2.1.flatten ++ p.2.2) ∧ Below B w w') (fun p => n - p.1) (20, Rs, T) ⟨rfl, rfl, rfl, rfl, trivial⟩
    ⟨(by show 0 < 20; decide), (by show 20 ≤ 2 ^ 22; decide), hR, hTl, hTs, hpT, ho2, b1.trans b2⟩ ?_
  clear hR hp ho1 hl1 hgt hlt hTp hTs ho2 hTl hpT b1 b2
  rintro ⟨s, Rs2, T2⟩ w3 ⟨s0', s1', hR', hTl', hTs', hp', ho', b3⟩
  have s0 : 0 < s := s0'
  have s1 : s ≤ 2 ^ 22 := s1'
  have hR : ∀ R ∈ Rs2, R.length = s ∧ SortedB lt R := hR'
  have hTl : T2.length < s := hTl'
  have hTs : SortedB lt T2 := hTs'
  have hp : (Rs2.flatten ++ T2).Perm M := hp'
  have ho3 : RowD B w3 (.slice A n c) (Rs2.flatten ++ T2) := ho'
  clear s0' s1' hR' hTl' hTs' hp' ho'
  have hl3 := rowD_n ho3
  rw [List.length_append] at hl3
  refine brE_dec (fun hlt => ?_) (fun hge => ?_)
  · have hlt : s < n := by have : ((s : Nat) : Int) < (n : Nat) := hlt; omega
    refine ⟨((([] : List (List Due)).flatten.length + 2 * s : Nat) : Int), by (try dsimp only); rw [fit ⟨by omega, by omega⟩]; simp, ?_⟩
    refine loopE C_ok (fun (p : List (List Due) × List (List Due)) => [(0, .slice A n c), (1, .int .i64 (n : Nat)), (2, .func (.func gd) #[] cb), (6, .int .i64 ((s : Nat) : Int)), (7, .int .i64 ((p.1.flatten.length : Nat) : Int)), (8, .int .i64 ((p.1.flatten.length + 2 * s : Nat) : Int))])
      (fun p w' => (∀ R ∈ p.1, R.length = 2 * s ∧ SortedB lt R) ∧ (∀ R ∈ p.2, R.length = s ∧ SortedB lt R) ∧ (p.1.flatten ++ (p.2.flatten ++ T2)).Perm M ∧ RowD B w' (.slice A n c) (p.1.flatten ++ (p.2.flatten ++ T2)) ∧ Below B w w') (fun p => p.2.length) ([], Rs2) ⟨rfl, rfl, rfl, rfl, rfl, rfl, trivial⟩
      ⟨(fun R h => by cases h), hR, hp, ho3, b3⟩ ?_
    rintro ⟨Ns, Qs⟩ w4 ⟨hN', hQ', hp4', ho4', b4⟩
    have hN : ∀ R ∈ Ns, R.length = 2 * s ∧ SortedB lt R := hN'
    have hQ : ∀ R ∈ Qs, R.length = s ∧ SortedB lt R := hQ'
    have hp4 : (Ns.flatten ++ (Qs.flatten ++ T2)).Perm M := hp4'
    have ho4 : RowD B w4 (.slice A n c) (Ns.flatten ++ (Qs.flatten ++ T2)) := ho4'
    clear hN' hQ' hp4' ho4'
    have hl4 := rowD_n ho4
    rw [List.length_append, List.length_append] at hl4
    refine brE_dec (fun hle => ?_) (fun hgt => ?_)
    · have hle : Ns.flatten.length + 2 * s ≤ n := by have : ((Ns.flatten.length + 2 * s : Nat) : Int) ≤ (n : Nat) := hle; omega
      match Qs, hQ, hp4, ho4, hl4 with
      | [], _, _, _, hl4 => exact absurd hle (by rw [List.flatten_nil, List.length_nil] at hl4; omega)
      | [R], hQ, _, _, hl4 => exact absurd hle (by have := (hQ R (by simp)).1; simp only [List.flatten_cons, List.flatten_nil, List.append_nil] at hl4; omega)
      | R1 :: R2 :: r, hQ, hp4, ho4, hl4 =>
        obtain ⟨r1l, r1s⟩ := hQ R1 (by simp)
        obtain ⟨r2l, r2s⟩ := hQ R2 (by simp)
        have e4 : (R1 :: R2 :: r).flatten ++ T2 = R1 ++ (R2 ++ (r.flatten ++ T2)) := by simp
        rw [e4] at ho4 hp4
        refine ⟨((Ns.flatten.length + s : Nat) : Int), by (try dsimp only); exact fit ⟨by omega, by omega⟩, ?_⟩
        refine (symMerge_spec (by omega) hgd hcmp O _ (a := Ns.flatten.length) (m := Ns.flatten.length + s) (b := Ns.flatten.length + 2 * s) (Nat.le_refl _) ho4 (Nat.le_trans hB b4.size) rfl (by omega) (by omega) (by omega) (by omega) r1s r2s).mono ?_
        rintro v w5 ⟨X, hXp, hXs, ho5, b5⟩
        have hXl : X.length = 2 * s := by rw [hXp.length_eq, List.length_append]; omega
        have hfl : (Ns ++ [X]).flatten = Ns.flatten ++ X := by simp
        have hfn : (Ns ++ [X]).flatten.length = Ns.flatten.length + 2 * s := by rw [hfl, List.length_append, hXl]
        refine ⟨((2 * s : Nat) : Int), by (try dsimp only); rw [fit ⟨by omega, by omega⟩]; omega, ?_⟩
        refine ⟨((Ns.flatten.length + 2 * s + 2 * s : Nat) : Int), by (try dsimp only); rw [fit ⟨by omega, by omega⟩]; omega, ?_⟩
        refine ⟨(Ns ++ [X], r), ⟨rfl, rfl, rfl, rfl, congrArg (fun q : Nat => some (Value.int IntKind.i64 ((q : Nat) : Int))) hfn.symm, congrArg (fun q : Nat => some (Value.int IntKind.i64 ((q + 2 * s : Nat) : Int))) hfn.symm, trivial⟩, ⟨?_, fun R h => hQ R (by simp [h]), ?_, ?_, b4.trans b5⟩, by show r.length < (R1 :: R2 :: r).length; simp only [List.length_cons]; omega⟩
        · intro R h
          rcases List.mem_append.1 h with h | h
          · exact hN R h
          · rw [List.mem_singleton.1 h]; exact ⟨hXl, hXs⟩
        · show ((Ns ++ [X]).flatten ++ (r.flatten ++ T2)).Perm M
          rw [hfl, List.append_assoc]
          refine List.Perm.trans ?_ hp4
          refine List.Perm.append_left _ ?_
          have := hXp.append_right (r.flatten ++ T2)
          rwa [List.append_assoc] at this
        · show RowD B w5 (.slice A n c) ((Ns ++ [X]).flatten ++ (r.flatten ++ T2))
          rw [hfl, List.append_assoc]; exact ho5
    · have hgt : n < Ns.flatten.length + 2 * s := by have : ¬ ((Ns.flatten.length + 2 * s : Nat) : Int) ≤ (n : Nat) := hgt; omega
      refine ⟨((Ns.flatten.length + s : Nat) : Int), by (try dsimp only); exact fit ⟨by omega, by omega⟩, ?_⟩
      have fin : ∀ (T' : List Due) (w5 : World), T'.length < 2 * s → SortedB lt T' → (Ns.flatten ++ T').Perm M → RowD B w5 (.slice A n c) (Ns.flatten ++ T') → Below B w w5 →
          (∃ s' : Nat × List (List Due) × List Due, s' = (2 * s, Ns, T')) ∧ (0 < 2 * s ∧ 2 * s ≤ 2 ^ 22 ∧ (∀ R ∈ Ns, R.length = 2 * s ∧ SortedB lt R) ∧ T'.length < 2 * s ∧ SortedB lt T' ∧ (Ns.flatten ++ T').Perm M ∧ RowD B w5 (.slice A n c) (Ns.flatten ++ T') ∧ Below B w w5) :=
        fun T' w5 a1 a2 a3 a4 a5 => ⟨⟨_, rfl⟩, by omega, by omega, hN, a1, a2, a3, a4, a5⟩
      have mul2 : IntKind.i64.wrap ((s : Nat) * 2 : Int) = ((2 * s : Nat) : Int) := by (try dsimp only); rw [fit ⟨by omega, by omega⟩]; omega
      refine brE_dec (fun hm => ?_) (fun hm => ?_)
      · have hm : Ns.flatten.length + s < n := by have : ((Ns.flatten.length + s : Nat) : Int) < (n : Nat) := hm; omega
        match Qs, hQ, hp4, ho4, hl4 with
        | [], _, _, _, hl4 => exact absurd hm (by rw [List.flatten_nil, List.length_nil] at hl4; omega)
        | R1 :: R2 :: r, hQ, _, _, hl4 => exact absurd hgt (by have h1 := (hQ R1 (by simp)).1; have h2 := (hQ R2 (by simp)).1; simp only [List.flatten_cons, List.length_append] at hl4; omega)
        | [R], hQ, hp4, ho4, hl4 =>
          obtain ⟨rl, rs⟩ := hQ R (by simp)
          have e4 : [R].flatten ++ T2 = R ++ (T2 ++ []) := by simp
          rw [e4] at ho4 hp4
          simp only [List.flatten_cons, List.flatten_nil, List.append_nil] at hl4
          refine (symMerge_spec (by omega) hgd hcmp O _ (a := Ns.flatten.length) (m := Ns.flatten.length + s) (b := n) (Nat.le_refl _) ho4 (Nat.le_trans hB b4.size) rfl (by omega) (by omega) (by omega) (by omega) rs hTs).mono ?_
          rintro v w5 ⟨X, hXp, hXs, ho5, b5⟩
          have hXl : X.length < 2 * s := by rw [hXp.length_eq, List.length_append]; omega
          rw [List.append_nil] at ho5 hp4
          refine ⟨((2 * s : Nat) : Int), mul2, ?_⟩
          refine ⟨(2 * s, Ns, X), ⟨rfl, rfl, rfl, rfl, trivial⟩, (fin X w5 hXl hXs ((List.Perm.append_left _ hXp).trans hp4) ho5 (b4.trans b5)).2, by show n - 2 * s < n - s; omega⟩
      · have hm : n ≤ Ns.flatten.length + s := by have : ¬ ((Ns.flatten.length + s : Nat) : Int) < (n : Nat) := hm; omega
        refine ⟨((2 * s : Nat) : Int), mul2, ?_⟩
        match Qs, hQ, hp4, ho4, hl4 with
        | [], _, hp4, ho4, hl4 =>
          exact ⟨(2 * s, Ns, T2), ⟨rfl, rfl, rfl, rfl, trivial⟩, (fin T2 w4 (by omega) hTs hp4 ho4 b4).2, by show n - 2 * s < n - s; omega⟩
        | R1 :: R2 :: r, hQ, _, _, hl4 => exact absurd hgt (by have h1 := (hQ R1 (by simp)).1; have h2 := (hQ R2 (by simp)).1; simp only [List.flatten_cons, List.length_append] at hl4; omega)
        | [R], hQ, hp4, ho4, hl4 =>
          obtain ⟨rl, rs⟩ := hQ R (by simp)
          simp only [List.flatten_cons, List.flatten_nil, List.append_nil] at hl4
          have hT0 : T2 = [] := List.length_eq_zero_iff.1 (by omega)
          have e4 : [R].flatten ++ T2 = R := by rw [hT0]; simp
          rw [e4] at ho4 hp4
          exact ⟨(2 * s, Ns, R), ⟨rfl, rfl, rfl, rfl, trivial⟩, (fin R w4 (by omega) rs hp4 ho4 b4).2, by show n - 2 * s < n - s; omega⟩
  · have hge : n ≤ s := by have : ¬ ((s : Nat) : Int) < (n : Nat) := hge; omega
    match Rs2, hR, hp, ho3, hl3 with
    | [], _, hp, ho3, _ => exact ⟨T2, hp, hTs, ho3, b3⟩
    | [R], hR, hp, ho3, hl3 =>
      obtain ⟨rl, rs⟩ := hR R (by simp)
      simp only [List.flatten_cons, List.flatten_nil, List.append_nil] at hl3
      have hT0 : T2 = [] := List.length_eq_zero_iff.1 (by omega)
      have e4 : [R].flatten ++ T2 = R := by rw [hT0]; simp
      rw [e4] at ho3 hp
      exact ⟨R, hp, rs, ho3, b3⟩
    | R1 :: R2 :: r, hR, _, _, hl3 => exact absurd hge (by have h1 := (hR R1 (by simp)).1; have h2 := (hR R2 (by simp)).1; simp only [List.flatten_cons, List.length_append] at hl3; omega)
theorem sortStable_spec {B : Nat} {w : World} {A : Option Addr} {n c gd : Nat} {cb : Array Value} {lt : Due → Due → Bool} {M : List Due} (ho : RowD B w (.slice A n c) M) (hB : B ≤ w.heap.size) (hn : n ≤ 2 ^ 20) (hgd : C.can gd = true) (hcmp : CmpD gd cb lt) (O : OrdB lt) :
    CallsV C.P 173 #[.slice A n c, .func (.func gd) #[] cb] w fun _ w' => ∃ M', M'.Perm M ∧ SortedB lt M' ∧ RowD B w' (.slice A n c) M' ∧ Below B w w' := by
  refine callsV_of C_ok (args := [_, _]) (plans := []) Tryz.func173 rfl Tryz.ntmps173 (by kernel_rfl) (Nat.le_of_ble_eq_true rfl) ?_
  exact (stable_spec ho hB hn hgd hcmp O).mono fun v w' h => h
/-- The dues of a ledger. -/
theorem Dues_any {w : World} {l : LV} {es : List Entry} (h : LedgerIs w l es) (hl : es.length ≤ 2 ^ 16) (day : Int) (hd : (dueL (asOfL es day)).length ≤ 2 ^ 16) :
    CallsV C.P 47 #[l.ptr, .int .i64 day] w fun v w' => RowD w.heap.size w' v (duesAt es day) ∧ Ext w w' :=
  Dues_spec h hl day hd fun hp hrow hB => sortStable_spec hrow hB (by have := rowD_len hrow; have := hp.length_eq; omega) rfl cmpDue ordDue
end Go.Proofs.YtcnbpfecgokhiaaGreatDoor
namespace Go.Proofs.YtcnbpfecgokhiaaGreatDoor
open Go.Eng Go.RowKit
theorem front_addr {A : Option Addr} {c k : Nat} : (if c = 0 then A else A.map (·.add (0 * k))) = A := by
  split
  · rfl
  · cases A with
    | none => rfl
    | some a => obtain ⟨b, o, s⟩ := a; rw [Nat.zero_mul]; rfl
theorem Reads.frontE {α : Type} {enc : α → List Value} {k : Nat} (hk : ∀ x, (enc x).length = k) (k0 : 0 < k) {w : World} {A : Option Addr} {l : List α} {i : Nat} (h : Reads w A (l.flatMap enc)) : Reads w A ((l.take i).flatMap enc) := by
  have e : l.flatMap enc = (l.take i).flatMap enc ++ (l.drop i).flatMap enc := by rw [← List.flatMap_append, List.take_append_drop]
  rcases h with h | ⟨b, o, hA, hr⟩
  · left
    rw [e] at h
    exact (List.append_eq_nil_iff.1 h).1
  · refine .inr ⟨b, o, hA, fun j v hv => hr j v ?_⟩
    rw [e, List.getElem?_append_left (List.getElem?_eq_some_iff.1 hv).1]
    exact hv
theorem metW_of {x : Gift} (h : 0 ≤ x.worth ∧ x.worth ≤ 1000000000000) (id : Int) : 0 ≤ metW id x ∧ metW id x ≤ 1000000000000 := by
  unfold metW
  split <;> omega
theorem refMet_spec {w : World} {A : Option Addr} {gs : List Gift} {c : Nat} (h : HL Gift.cells w A gs c) (hb : ∀ x ∈ gs, 0 ≤ x.worth ∧ x.worth ≤ 1000000000000) (hl : gs.length ≤ 500) (id : Int) :
    CallsV C.P 105 #[.slice A gs.length c, .int .i64 id] w fun v w' => v = .int .i64 (metL gs id) ∧ Ext w w' := by
  refine callsV_of C_ok (args := [_, _]) (plans := []) Tryz.func105 rfl Tryz.ntmps105 (by kernel_rfl) (Nat.le_of_ble_eq_true rfl) ?_
  refine loopE C_ok (fun (p : Nat × Int) => [(0, .slice A gs.length c), (1, .int .i64 id), (5, .int .i64 p.2), (6, .int .i64 p.1)])
    (fun p w' => p.1 ≤ gs.length ∧ p.2 = metL (gs.take p.1) id ∧ Ext w w') (fun p => gs.length - p.1) (0, 0) ⟨rfl, rfl, rfl, rfl, trivial⟩ ⟨Nat.zero_le _, rfl, Ext.refl _⟩ ?_
  rintro ⟨i, n⟩ w1 ⟨hi', hn', e1⟩
  have hi : i ≤ gs.length := hi'
  have hn : n = metL (gs.take i) id := hn'
  clear hi' hn'
  refine brE_dec (fun hlt => ?_) (fun hge => ?_)
  · have hlti : i < gs.length := by have : (i : Int) < (gs.length : Nat) := hlt; omega
    obtain ⟨b, o, hAd, hc⟩ := (h.ext e1).at Gift.len (by omega) hlti
    have next : IntKind.i64.wrap ((i : Int) + 1) = ((i + 1 : Nat) : Int) := fit ⟨by omega, by omega⟩
    have hsucc : metL (gs.take (i + 1)) id = n + metW id gs[i] := by rw [List.take_succ_eq_append_getElem hlti, metL_snoc, hn]
    have nb := sum_bounds (metW id) 1000000000000 (gs.take i) fun x hx => metW_of (hb x (List.mem_of_mem_take hx)) id
    have nb' : 0 ≤ n ∧ n ≤ (gs.take i).length * 1000000000000 := by rw [hn]; exact nb
    rw [List.length_take] at nb'
    have wb := hb _ (List.getElem_mem hlti)
    have skip : metB id gs[i] = false → n = metL (gs.take (i + 1)) id := fun e => by rw [hsucc]; unfold metW; rw [e, if_neg (by decide)]; omega
    refine ⟨i, b, o, rfl, hlti, hAd, ?_⟩
    refine ⟨_, hc 9 _ rfl, ?_⟩
    refine brE_dec (fun c1 => ?_) (fun c1 => ?_)
    · have c1 : gs[i].returns = id := c1
      refine ⟨i, b, o, rfl, hlti, hAd, ?_⟩
      refine ⟨_, hc 7 _ rfl, ?_⟩
      refine brE_dec (fun c2 => ?_) (fun c2 => ?_)
      · have c2 : gs[i].state = 2 := c2
        refine ⟨i, b, o, rfl, hlti, hAd, ?_⟩
        refine ⟨_, hc 6 _ rfl, ?_⟩
        refine ⟨n + gs[i].worth, fit ⟨by omega, by omega⟩, ?_⟩
        refine ⟨_, next, ?_⟩
        exact ⟨(i + 1, n + gs[i].worth), ⟨rfl, rfl, rfl, rfl, trivial⟩, ⟨hlti, by rw [hsucc]; unfold metW metB; rw [if_pos (decide_eq_true ⟨c1, .inl c2⟩)], e1⟩, by show gs.length - (i + 1) < gs.length - i; omega⟩
      · have c2 : ¬ gs[i].state = 2 := c2
        refine ⟨i, b, o, rfl, hlti, hAd, ?_⟩
        refine ⟨_, hc 7 _ rfl, ?_⟩
        refine brE_dec (fun c3 => ?_) (fun c3 => ?_)
        · have c3 : gs[i].state = 4 := c3
          refine ⟨i, b, o, rfl, hlti, hAd, ?_⟩
          refine ⟨_, hc 6 _ rfl, ?_⟩
          refine ⟨n + gs[i].worth, fit ⟨by omega, by omega⟩, ?_⟩
          refine ⟨_, next, ?_⟩
          exact ⟨(i + 1, n + gs[i].worth), ⟨rfl, rfl, rfl, rfl, trivial⟩, ⟨hlti, by rw [hsucc]; unfold metW metB; rw [if_pos (decide_eq_true ⟨c1, .inr c3⟩)], e1⟩, by show gs.length - (i + 1) < gs.length - i; omega⟩
        · have c3 : ¬ gs[i].state = 4 := c3
          refine ⟨_, next, ?_⟩
          exact ⟨(i + 1, n), ⟨rfl, rfl, rfl, rfl, trivial⟩, ⟨hlti, skip (decide_eq_false fun e => e.2.elim c2 c3), e1⟩, by show gs.length - (i + 1) < gs.length - i; omega⟩
    · have c1 : ¬ gs[i].returns = id := c1
      refine ⟨_, next, ?_⟩
      exact ⟨(i + 1, n), ⟨rfl, rfl, rfl, rfl, trivial⟩, ⟨hlti, skip (decide_eq_false fun e => c1 e.1), e1⟩, by show gs.length - (i + 1) < gs.length - i; omega⟩
  · have hi : i = gs.length := by have : ¬ (i : Int) < (gs.length : Nat) := hge; omega
    rw [hi, List.take_length] at hn
    exact ⟨congrArg _ hn, e1⟩
def markG (bs : List Gift) (g : Gift) : Gift := if g.state = 2 ∧ g.returns = 0 ∧ g.worth ≤ metL bs g.id then backG g else g
def markL (bs : List Gift) (i : Nat) : List Gift := (bs.take i).map (markG bs) ++ bs.drop i
theorem markL_length (bs : List Gift) (i : Nat) : (markL bs i).length = bs.length := by
  unfold markL; simp; omega
theorem markL_split {bs : List Gift} {i : Nat} (hi : i < bs.length) : markL bs i = (bs.take i).map (markG bs) ++ bs[i] :: bs.drop (i + 1) := by
  unfold markL
  rw [List.drop_eq_getElem_cons hi]
theorem markL_at {bs : List Gift} {i : Nat} (hi : i < bs.length) (h : i < (markL bs i).length) : (markL bs i)[i] = bs[i] := by
  have e : (markL bs i)[i]? = some bs[i] := by
    rw [markL_split hi, List.getElem?_append_right (by simp; omega)]
    simp [Nat.min_eq_left (Nat.le_of_lt hi)]
  rw [List.getElem?_eq_getElem h] at e
  exact Option.some.inj e
theorem markL_succ {bs : List Gift} {i : Nat} (hi : i < bs.length) : markL bs (i + 1) = (markL bs i).set i (markG bs bs[i]) := by
  have e : i - ((bs.take i).map (markG bs)).length = 0 := by simp; omega
  rw [markL_split hi, List.set_append_right _ _ (by simp; omega), e, List.set_cons_zero]
  unfold markL
  rw [List.take_succ_eq_append_getElem hi, List.map_append, List.append_assoc]; rfl
theorem markL_skip {bs : List Gift} {i : Nat} (hi : i < bs.length) (h : ¬ (bs[i].state = 2 ∧ bs[i].returns = 0 ∧ bs[i].worth ≤ metL bs bs[i].id)) : markL bs (i + 1) = markL bs i := by
  have hl : i < (markL bs i).length := by rw [markL_length]; exact hi
  rw [markL_succ hi]
  unfold markG
  rw [if_neg h, ← markL_at hi hl, List.set_getElem_self]
theorem markL_back {bs : List Gift} {i : Nat} (hi : i < bs.length) (h : bs[i].state = 2 ∧ bs[i].returns = 0 ∧ bs[i].worth ≤ metL bs bs[i].id) : markL bs (i + 1) = (markL bs i).set i (backG bs[i]) := by
  rw [markL_succ hi]
  unfold markG
  rw [if_pos h]
theorem markG_met (bs : List Gift) (id : Int) (g : Gift) : metW id (markG bs g) = metW id g := by
  unfold markG
  split
  · rename_i h
    unfold metW metB backG
    by_cases hr : g.returns = id
    · rw [if_pos (decide_eq_true ⟨hr, .inr rfl⟩), if_pos (decide_eq_true ⟨hr, .inl h.1⟩)]
    · rw [if_neg (fun e => hr (of_decide_eq_true e).1), if_neg (fun e => hr (of_decide_eq_true e).1)]
  · rfl
theorem markL_met (bs : List Gift) (i : Nat) (id : Int) : metL (markL bs i) id = metL bs id := by
  have : metL bs id = metL (bs.take i ++ bs.drop i) id := by rw [List.take_append_drop]
  rw [this]
  unfold metL markL
  rw [List.map_append, List.map_append, List.sum_append, List.sum_append, List.map_map]
  congr 2
  exact List.map_congr_left fun g _ => markG_met bs id g
theorem markG_worth (bs : List Gift) (g : Gift) : (markG bs g).worth = g.worth := by unfold markG; split <;> rfl
theorem markL_worth {bs : List Gift} (h : ∀ x ∈ bs, 0 ≤ x.worth ∧ x.worth ≤ 1000000000000) (i : Nat) : ∀ x ∈ markL bs i, 0 ≤ x.worth ∧ x.worth ≤ 1000000000000 := fun x hx => by
  unfold markL at hx
  rcases List.mem_append.1 hx with hx | hx
  · obtain ⟨y, hy, rfl⟩ := List.mem_map.1 hx
    rw [markG_worth]; exact h y (List.mem_of_mem_take hy)
  · exact h x (List.mem_of_mem_drop hx)
theorem markL_all (es : List Entry) : markL (baseL es) (baseL es).length = givenL es := by
  unfold markL givenL
  rw [List.take_length, List.drop_length, List.append_nil]; rfl
theorem unmark_worth (g : Gift) : (unmark g).worth = g.worth := by unfold unmark; split <;> rfl
theorem base_facts {es : List Entry} (hA : Acc es) : (baseL es).length = (giftL es).length ∧ ∀ x ∈ baseL es, 0 ≤ x.worth ∧ x.worth ≤ 1000000000000 := by
  have hB := acc_ok hA
  rw [hB.base]
  refine ⟨List.length_map .., fun x hx => ?_⟩
  obtain ⟨y, hy, rfl⟩ := List.mem_map.1 hx
  obtain ⟨i, hi, rfl⟩ := List.getElem_of_mem hy
  have := hB.gifts.worth i hi
  rw [unmark_worth]; omega
end Go.Proofs.YtcnbpfecgokhiaaGreatDoor
namespace Go.Proofs.YtcnbpfecgokhiaaGreatDoor
open Go.Eng Go.RowKit
set_option maxRecDepth 100000 in
theorem Given_spec {w : World} {A : Option Addr} {es : List Entry} {c : Nat} (h : HL Entry.cells w A es c) (hl : es.length ≤ 2 ^ 16) (hA : Acc es) :
    CallsV C.P 104 #[.agg #[.slice A es.length c]] w fun v w' => NewL Gift.cells 37 10 w.heap.size w' v (giftL es) ∧ Ext w w' := by
  refine callsV_of C_ok (args := [_]) (plans := plans104) Tryz.func104 rfl Tryz.ntmps104 (by kernel_rfl) (Nat.le_of_ble_eq_true rfl) ?_
  intro g1 w1 h1
  have M1 : Mem w w1 [(g1, .cells #[.slice A es.length c] 30 (0, 0))] := (Mem.start w).alloc h1
  refine loopE C_ok (fun (p : Nat × Value) => [(1, .pointer (some ⟨g1, 0, none⟩)), (3, p.2), (4, .int .i64 p.1)])
    (fun p w' => p.1 ≤ es.length ∧ NewL Gift.cells 37 10 w.heap.size w' p.2 (baseL (es.take p.1)) ∧ Mem w w' [(g1, .cells #[.slice A es.length c] 30 (0, 0))]) (fun p => es.length - p.1) (0, .slice none 0 0) ⟨rfl, rfl, rfl, trivial⟩
    ⟨Nat.zero_le _, newL_nil, M1⟩ ?_
  rintro ⟨i, v⟩ w2 ⟨hi', ho', M2'⟩
  have hi : i ≤ es.length := hi'
  have ho : NewL Gift.cells 37 10 w.heap.size w2 v (baseL (es.take i)) := ho'
  have M2 : Mem w w2 [(g1, .cells #[.slice A es.length c] 30 (0, 0))] := M2'
  clear hi' ho' M2'
  have hAi := acc_front hA i
  obtain ⟨hbl, hbw⟩ := base_facts hAi
  have hgl := (acc_ok hAi).gifts.len
  refine ⟨_, M2.cell 0 rfl rfl, ?_⟩
  refine brE_dec (fun hlt => ?_) (fun hge => ?_)
  · have hlti : i < es.length := by have : (i : Int) < (es.length : Nat) := hlt; omega
    obtain ⟨b, o, hAd, hc⟩ := (h.ext M2.ext).at Entry.len (by omega) hlti
    have next : IntKind.i64.wrap ((i : Int) + 1) = ((i + 1 : Nat) : Int) := fit ⟨by omega, by omega⟩
    have hsucc : baseL (es.take (i + 1)) = baseS (es.take i) (baseL (es.take i)) es[i] := by rw [List.take_succ_eq_append_getElem hlti, baseL_snoc]
    obtain ⟨sg, hdo⟩ := acc_at hA hlti
    refine ⟨_, M2.cell 0 rfl rfl, ?_⟩
    refine ⟨i, b, o, rfl, hlti, hAd, ?_⟩
    refine ⟨es[i].cells, rfl, hc, ?_⟩
    intro g5 w3 h3
    have M3 := M2.alloc h3
    refine ⟨rfl, _, _, M3.get 0 rfl, Nat.le_of_ble_eq_true rfl, rfl, ?_⟩
    intro w4 h4
    have M4 : Mem w w4 [(g5, .cells es[i].cells.toArray 39 (0, 0)), (g1, .cells #[.slice A es.length c] 30 (0, 0))] := M3.put 0 rfl h4
    have ho4 : NewL Gift.cells 37 10 w.heap.size w4 v (baseL (es.take i)) := ownsRow_put (ho.ext h3.ext) h4 (offrow (ho.ext h3.ext) h3.here (by decide))
    clear M3 h3 h4 ho
    refine ⟨_, M4.cell 0 rfl rfl, ?_⟩
    refine brE_dec (fun k5 => ?_) (fun k5 => ?_)
    · have k5 : es[i].kind = 5 := k5
      obtain ⟨hlen, hn, hcur⟩ := offer_facts k5 hdo
      have hrate := (acc_ok hAi).rate es[i].g.cur
      have hb : 0 ≤ es[i].g.n * rateL (es.take i) es[i].g.cur ∧ es[i].g.n * rateL (es.take i) es[i].g.cur ≤ 1000000 * 1000000 := ⟨Int.mul_nonneg (by omega) hrate.1, Int.mul_le_mul hn.2 hrate.2 hrate.1 (by omega)⟩
      refine ⟨es[i].g.cells, rfl, (M4.rd 0 rfl).part es[i].g_part, ?_⟩
      intro g6 w5 h5
      have M5 := M4.alloc h5
      refine ⟨rfl, _, _, M5.get 0 rfl, Nat.le_of_ble_eq_true rfl, rfl, ?_⟩
      intro w6 h6
      have M6 : Mem w w6 [(g6, .cells es[i].g.cells.toArray 37 (0, 0)), (g5, .cells es[i].cells.toArray 39 (0, 0)), (g1, .cells #[.slice A es.length c] 30 (0, 0))] := M5.put 0 rfl h6
      have ho6 : NewL Gift.cells 37 10 w.heap.size w6 v (baseL (es.take i)) := ho4.ext ((Mem.start w4).alloc h5 |>.put 0 rfl h6).ext
      have hg6n : g6 = w4.heap.size := h5.new
      clear M5 h5 h6
      refine ⟨_, M6.cell 0 rfl rfl, ?_⟩
      refine ⟨_, M6.cell 2 rfl rfl, ?_⟩
      refine ⟨0, i, rfl, rfl, Nat.zero_le _, by have := h.len; omega, ?_⟩
      refine ⟨_, M6.cell 0 rfl rfl, ?_⟩
      have hfr : HL Entry.cells w6 (if c = 0 then A else A.map (·.add (0 * 24))) (es.take i) c := by
        rw [front_addr]
        exact ⟨Reads.frontE Entry.len (by omega) (h.ext M6.ext).reads, by rw [List.length_take]; have := h.len; omega, by rw [List.length_take]; have := h.cap; omega⟩
      have hti : (es.take i).length = i := by rw [List.length_take]; omega
      have hcl := refRate_spec hfr (by omega) (k := es[i].g.cur) ⟨by omega, by omega⟩
      rw [hti] at hcl
      refine hcl.mono ?_
      rintro v7 w7 ⟨rfl, e7⟩
      refine ⟨e7, ?_⟩
      refine ⟨es[i].g.n * rateL (es.take i) es[i].g.cur, fit ⟨by omega, by omega⟩, ?_⟩
      have M7 := M6.grow e7
      have ho7 := ho6.ext e7
      refine ⟨rfl, _, _, M7.get 0 rfl, Nat.le_of_ble_eq_true rfl, rfl, ?_⟩
      intro w8 h8
      have M8 := M7.put 0 rfl h8
      refine ⟨rfl, _, _, M8.get 0 rfl, Nat.le_of_ble_eq_true rfl, rfl, ?_⟩
      intro w9 h9
      generalize hy : ({ es[i].g with worth := es[i].g.n * rateL (es.take i) es[i].g.cur, state := 1 } : Gift) = y
      have M9 : Mem w w9 [(g6, .cells y.cells.toArray 37 (0, 0)), (g5, .cells es[i].cells.toArray 39 (0, 0)), (g1, .cells #[.slice A es.length c] 30 (0, 0))] := by
        rw [← hy]; exact M8.put 0 rfl h9
      have hne6 : v.ownBlock ≠ some g6 := fun hv => by
        obtain ⟨_, cur, hcu⟩ := owns_at ho4 hv
        have := lt_of_heap hcu
        omega
      have ho9 : NewL Gift.cells 37 10 w.heap.size w9 v (baseL (es.take i)) := ownsRow_put (ownsRow_put ho7 h8 hne6) h9 hne6
      refine ⟨y.cells, rfl, M9.rd 0 rfl, ?_⟩
      intro g7 w10 h10
      have ho10 := ho9.ext h10.ext
      have M10 := M9.grow h10.ext
      refine ⟨rfl, rfl, rfl, w.heap.size, _, _, y.cells, ho10, M10.ext.size, Nat.le_of_ble_eq_true rfl, rfl, rfl, .inr ⟨g7, 0, rfl, Rd.of_block h10.here⟩, rfl, rfl, by omega, by simp only [maxLen]; omega, ?_⟩
      intro v11 w11 ho11 hg11 hpl
      have M11 : Mem w w11 [(g5, .cells es[i].cells.toArray 39 (0, 0)), (g1, .cells #[.slice A es.length c] 30 (0, 0))] := M10.tail.grown hg11 (fun k hk => (ho10.lt k hk).1) (fun p hp => by
        simp only [List.tail_cons, List.mem_cons, List.not_mem_nil, or_false] at hp
        rcases hp with rfl | rfl
        · exact fun e => offrow ho10 (M10.get 1 rfl) (by decide) e.symm
        · exact fun e => offrow ho10 (M10.get 2 rfl) (by decide) e.symm)
      refine ⟨_, M11.cell 0 rfl rfl, ?_⟩
      refine brE_dec (fun k6 => absurd (show es[i].kind = 6 from k6) (by omega)) (fun _ => ?_)
      refine ⟨_, M11.cell 0 rfl rfl, ?_⟩
      refine brE_dec (fun k7 => absurd (show es[i].kind = 7 from k7) (by omega)) (fun _ => ?_)
      refine ⟨_, next, ?_⟩
      refine ⟨(i + 1, v11), ⟨rfl, rfl, rfl, trivial⟩, ⟨hlti, ?_, M11.tail⟩, by show es.length - (i + 1) < es.length - i; omega⟩
      show NewL _ _ _ _ _ _ (baseL (es.take (i + 1)))
      have : baseS (es.take i) (baseL (es.take i)) es[i] = baseL (es.take i) ++ [y] := by unfold baseS; rw [if_pos k5, hy]
      rw [hsucc, this]
      unfold NewL
      rw [List.length_append, List.flatMap_append]
      simpa using ho11
    have k5 : ¬ es[i].kind = 5 := k5
    refine ⟨_, M4.cell 0 rfl rfl, ?_⟩
    refine brE_dec (fun k6 => ?_) (fun k6 => ?_)
    · have k6 : es[i].kind = 6 := k6
      obtain ⟨k, hlk, hid, hst⟩ := ans_parts (.inl k6) hdo
      have hlkb : k < (baseL (es.take i)).length := by omega
      obtain ⟨g, cap, cur, hv, hg, hb, hown, hrd, hput⟩ := row_openB (enc := Gift.cells) Gift.len (by omega) ho4 hlkb
      subst hv
      have hsub : IntKind.i64.wrap (es[i].g.id - 1) = (k : Int) := by rw [hid, fit ⟨by omega, by omega⟩]; omega
      refine ⟨_, M4.cell 0 rfl rfl, ?_⟩
      refine ⟨(k : Int), hsub, ?_⟩
      refine ⟨k, g, 0, rfl, hlkb, rfl, ?_⟩
      refine ⟨(baseL (es.take i))[k].cells, rfl, hrd, ?_⟩
      intro g6 w5 h5
      have M5 := M4.alloc h5
      refine ⟨rfl, _, _, M5.get 0 rfl, Nat.le_of_ble_eq_true rfl, rfl, ?_⟩
      intro w6 h6
      have M6 := M5.put 0 rfl h6
      refine ⟨_, M6.cell 1 rfl rfl, ?_⟩
      refine ⟨rfl, _, _, M6.get 0 rfl, Nat.le_of_ble_eq_true rfl, rfl, ?_⟩
      intro w7 h7
      have M7 := M6.put 0 rfl h7
      refine ⟨rfl, _, _, M7.get 0 rfl, Nat.le_of_ble_eq_true rfl, rfl, ?_⟩
      intro w8 h8
      have M8 := M7.put 0 rfl h8
      refine ⟨_, M8.cell 1 rfl rfl, ?_⟩
      refine brE_dec (fun k7 => absurd (show es[i].kind = 7 from k7) (by omega)) (fun _ => ?_)
      have M8 : Mem w w8 [(g6, .cells (takeG es[i].day (baseL (es.take i))[k]).cells.toArray 37 (0, 0)), (g5, .cells es[i].cells.toArray 39 (0, 0)), (g1, .cells #[.slice A es.length c] 30 (0, 0))] := M8
      have e49 : Ext w4 w8 := ((Mem.start w4).alloc h5 |>.put 0 rfl h6 |>.put 0 rfl h7 |>.put 0 rfl h8).ext
      have hne : g ≠ g6 := fun e => by have := lt_of_heap hg; rw [e, h5.new] at this; omega
      have ho9 := ho4.ext e49
      obtain ⟨g', cap', cur', hv', hg', hb', hown', hrd', hput'⟩ := row_openB (enc := Gift.cells) Gift.len (by omega) ho9 hlkb
      cases hv'
      refine ⟨_, M8.cell 1 rfl rfl, ?_⟩
      refine ⟨(k : Int), hsub, ?_⟩
      refine ⟨(takeG es[i].day (baseL (es.take i))[k]).cells, rfl, M8.rd 0 rfl, ?_⟩
      refine ⟨k, g, 0, rfl, hlkb, rfl, ?_⟩
      refine ⟨rfl, _, _, hg', by show 0 + k * 10 + 10 ≤ _; omega, rfl, ?_⟩
      intro w10 h10
      have hrow := hput' 0 _ (takeG es[i].day (baseL (es.take i))[k]) w10 rfl (Nat.le_of_ble_eq_true rfl) h10
      have hgn : w.heap.size ≤ g := (ho4.lt g rfl).1
      have M10 : Mem w w10 [(g1, .cells #[.slice A es.length c] 30 (0, 0))] := by
        have Ma : Mem w w8 [(g, .cells cur'.toArray 37 (0, 0)), (g1, .cells #[.slice A es.length c] 30 (0, 0))] := M8.tail.tail.add hg' hgn (fun p hp => by
          simp only [List.tail_cons, List.mem_cons, List.not_mem_nil, or_false] at hp
          rw [hp]
          intro e
          have e : g1 = g := e
          have := M8.get 2 rfl
          rw [e, hg'] at this
          simp at this)
        exact (Ma.put 0 rfl h10).tail
      refine ⟨_, next, ?_⟩
      refine ⟨(i + 1, _), ⟨rfl, rfl, rfl, trivial⟩, ⟨by show i + 1 ≤ es.length; omega, ?_, M10⟩, by show es.length - (i + 1) < es.length - i; omega⟩
      show NewL _ _ _ _ _ _ (baseL (es.take (i + 1)))
      have : baseS (es.take i) (baseL (es.take i)) es[i] = (baseL (es.take i)).set k (takeG es[i].day (baseL (es.take i))[k]) := by unfold baseS; rw [if_neg k5, if_pos k6, hid, updAt_eq hlkb]
      rw [hsucc, this]
      exact hrow
    have k6 : ¬ es[i].kind = 6 := k6
    refine ⟨_, M4.cell 0 rfl rfl, ?_⟩
    refine brE_dec (fun k7 => ?_) (fun k7 => ?_)
    · have k7 : es[i].kind = 7 := k7
      obtain ⟨k, hlk, hid, hst⟩ := ans_parts (.inr k7) hdo
      have hlkb : k < (baseL (es.take i)).length := by omega
      obtain ⟨g, cap, cur, hv, hg, hb, hown, hrd, hput⟩ := row_openB (enc := Gift.cells) Gift.len (by omega) ho4 hlkb
      subst hv
      have hsub : IntKind.i64.wrap (es[i].g.id - 1) = (k : Int) := by rw [hid, fit ⟨by omega, by omega⟩]; omega
      refine ⟨_, M4.cell 0 rfl rfl, ?_⟩
      refine ⟨(k : Int), hsub, ?_⟩
      refine ⟨k, g, 0, rfl, hlkb, rfl, ?_⟩
      refine ⟨(baseL (es.take i))[k].cells, rfl, hrd, ?_⟩
      intro g6 w5 h5
      have M5 := M4.alloc h5
      refine ⟨rfl, _, _, M5.get 0 rfl, Nat.le_of_ble_eq_true rfl, rfl, ?_⟩
      intro w6 h6
      have M6 := M5.put 0 rfl h6
      refine ⟨_, M6.cell 1 rfl rfl, ?_⟩
      refine ⟨rfl, _, _, M6.get 0 rfl, Nat.le_of_ble_eq_true rfl, rfl, ?_⟩
      intro w7 h7
      have M7 := M6.put 0 rfl h7
      refine ⟨rfl, _, _, M7.get 0 rfl, Nat.le_of_ble_eq_true rfl, rfl, ?_⟩
      intro w8 h8
      have M8 := M7.put 0 rfl h8
      refine ⟨_, M8.cell 1 rfl rfl, ?_⟩
      refine brE_dec (fun _ => ?_) (fun h7 => absurd k7 h7)
      refine ⟨rfl, _, _, M8.get 0 rfl, Nat.le_of_ble_eq_true rfl, rfl, ?_⟩
      intro w9 h9
      have M9 : Mem w w9 [(g6, .cells (refuseG es[i].day (baseL (es.take i))[k]).cells.toArray 37 (0, 0)), (g5, .cells es[i].cells.toArray 39 (0, 0)), (g1, .cells #[.slice A es.length c] 30 (0, 0))] := M8.put 0 rfl h9
      have e49 : Ext w4 w9 := ((Mem.start w4).alloc h5 |>.put 0 rfl h6 |>.put 0 rfl h7 |>.put 0 rfl h8 |>.put 0 rfl h9).ext
      have hne : g ≠ g6 := fun e => by have := lt_of_heap hg; rw [e, h5.new] at this; omega
      have ho9 := ho4.ext e49
      obtain ⟨g', cap', cur', hv', hg', hb', hown', hrd', hput'⟩ := row_openB (enc := Gift.cells) Gift.len (by omega) ho9 hlkb
      cases hv'
      refine ⟨_, M9.cell 1 rfl rfl, ?_⟩
      refine ⟨(k : Int), hsub, ?_⟩
      refine ⟨(refuseG es[i].day (baseL (es.take i))[k]).cells, rfl, M9.rd 0 rfl, ?_⟩
      refine ⟨k, g, 0, rfl, hlkb, rfl, ?_⟩
      refine ⟨rfl, _, _, hg', by show 0 + k * 10 + 10 ≤ _; omega, rfl, ?_⟩
      intro w10 h10
      have hrow := hput' 0 _ (refuseG es[i].day (baseL (es.take i))[k]) w10 rfl (Nat.le_of_ble_eq_true rfl) h10
      have hgn : w.heap.size ≤ g := (ho4.lt g rfl).1
      have M10 : Mem w w10 [(g1, .cells #[.slice A es.length c] 30 (0, 0))] := by
        have Ma : Mem w w9 [(g, .cells cur'.toArray 37 (0, 0)), (g1, .cells #[.slice A es.length c] 30 (0, 0))] := M9.tail.tail.add hg' hgn (fun p hp => by
          simp only [List.tail_cons, List.mem_cons, List.not_mem_nil, or_false] at hp
          rw [hp]
          intro e
          have e : g1 = g := e
          have := M9.get 2 rfl
          rw [e, hg'] at this
          simp at this)
        exact (Ma.put 0 rfl h10).tail
      refine ⟨_, next, ?_⟩
      refine ⟨(i + 1, _), ⟨rfl, rfl, rfl, trivial⟩, ⟨by show i + 1 ≤ es.length; omega, ?_, M10⟩, by show es.length - (i + 1) < es.length - i; omega⟩
      show NewL _ _ _ _ _ _ (baseL (es.take (i + 1)))
      have : baseS (es.take i) (baseL (es.take i)) es[i] = (baseL (es.take i)).set k (refuseG es[i].day (baseL (es.take i))[k]) := by unfold baseS; rw [if_neg k5, if_neg k6, if_pos k7, hid, updAt_eq hlkb]
      rw [hsucc, this]
      exact hrow
    have k7 : ¬ es[i].kind = 7 := k7
    refine ⟨_, next, ?_⟩
    refine ⟨(i + 1, v), ⟨rfl, rfl, rfl, trivial⟩, ⟨hlti, ?_, M4.tail⟩, by show es.length - (i + 1) < es.length - i; omega⟩
    show NewL _ _ _ _ _ _ (baseL (es.take (i + 1)))
    have : baseS (es.take i) (baseL (es.take i)) es[i] = baseL (es.take i) := by unfold baseS; rw [if_neg k5, if_neg k6, if_neg k7]
    rw [hsucc, this]
    exact ho4
  · have hie : i = es.length := by have : ¬ (i : Int) < (es.length : Nat) := hge; omega
    rw [hie, List.take_length] at ho
    rw [hie, List.take_length] at hbl hbw hgl
    have hlast : markL (baseL es) (baseL es).length = giftL es := (markL_all es).trans (given_eq hA)
    generalize baseL es = bs at *
    obtain ⟨Av, cv, rfl, _, _⟩ := reads_of_owns ho
    refine loopE C_ok (fun (j : Nat) => [(3, .slice Av bs.length cv), (8, .int .i64 j)])
      (fun j w' => j ≤ bs.length ∧ NewL Gift.cells 37 10 w.heap.size w' (.slice Av bs.length cv) (markL bs j) ∧ Ext w w') (fun j => bs.length - j) 0 ⟨rfl, rfl, trivial⟩ ⟨Nat.zero_le _, ho, M2.ext⟩ ?_
    rintro j w5 ⟨hj, hoj, e5⟩
    have hlj := markL_length bs j
    refine brE_dec (fun hlt2 => ?_) (fun hge2 => ?_)
    · have hltj : j < bs.length := by have : (j : Int) < (bs.length : Nat) := hlt2; omega
      have hltm : j < (markL bs j).length := by omega
      have next2 : IntKind.i64.wrap ((j : Int) + 1) = ((j + 1 : Nat) : Int) := fit ⟨by omega, by omega⟩
      obtain ⟨g, cap, cur, hv, hg, hb, hown, hrd, hput⟩ := row_openB (enc := Gift.cells) Gift.len (by omega) hoj hltm
      rw [markL_at hltj hltm] at hrd
      injection hv with hv1 hv2 hv3
      subst hv1
      refine ⟨j, g, 0, rfl, hltj, rfl, ?_⟩
      refine ⟨_, hrd 7 _ rfl, ?_⟩
      refine brE_dec (fun c1 => ?_) (fun c1 => ?_)
      · have c1 : bs[j].state = 2 := c1
        refine ⟨j, g, 0, rfl, hltj, rfl, ?_⟩
        refine ⟨_, hrd 9 _ rfl, ?_⟩
        refine brE_dec (fun c2 => ?_) (fun c2 => ?_)
        · have c2 : bs[j].returns = 0 := c2
          refine ⟨j, g, 0, rfl, hltj, rfl, ?_⟩
          refine ⟨_, hrd 0 _ rfl, ?_⟩
          refine ⟨j, g, 0, rfl, hltj, rfl, ?_⟩
          refine ⟨_, hrd 6 _ rfl, ?_⟩
          obtain ⟨Ah, ch, hvh, hhl⟩ := hoj.hl
          injection hvh with hvh1 hvh2 hvh3
          subst hvh1 hvh3
          have hcl := refMet_spec hhl (markL_worth hbw j) (by omega) bs[j].id
          rw [hlj, markL_met] at hcl
          refine hcl.mono ?_
          rintro v6 w6 ⟨rfl, e6⟩
          refine ⟨e6, ?_⟩
          refine brE_dec (fun c3 => ?_) (fun c3 => ?_)
          · have c3 : bs[j].worth ≤ metL bs bs[j].id := c3
            have hoj6 := hoj.ext e6
            obtain ⟨g', cap', cur', hv', hg', hb', hown', hrd', hput'⟩ := row_openB (enc := Gift.cells) Gift.len (by omega) hoj6 hltm
            injection hv' with hw1 hw2 hw3
            injection hw1 with hw1
            injection hw1 with hw1
            subst hw1
            refine ⟨j, g, 0, rfl, hltj, rfl, ?_⟩
            refine ⟨rfl, _, _, hg', by show 0 + j * 10 + 7 + 1 ≤ _; omega, rfl, ?_⟩
            intro w7 h7
            have hrow := hput' 7 _ (backG bs[j]) w7 (by rw [markL_at hltj hltm]; rfl) (Nat.le_of_ble_eq_true rfl) h7
            refine ⟨_, next2, ?_⟩
            refine ⟨j + 1, ⟨rfl, rfl, trivial⟩, ⟨hltj, ?_, h7.ext_of (e5.trans e6) (hoj.lt g rfl).1⟩, by show bs.length - (j + 1) < bs.length - j; omega⟩
            rw [markL_back hltj ⟨c1, c2, c3⟩]
            exact hrow
          · have c3 : ¬ bs[j].worth ≤ metL bs bs[j].id := c3
            refine ⟨_, next2, ?_⟩
            exact ⟨j + 1, ⟨rfl, rfl, trivial⟩, ⟨hltj, by rw [markL_skip hltj fun e => c3 e.2.2]; exact hoj.ext e6, e5.trans e6⟩, by show bs.length - (j + 1) < bs.length - j; omega⟩
        · have c2 : ¬ bs[j].returns = 0 := c2
          refine ⟨_, next2, ?_⟩
          exact ⟨j + 1, ⟨rfl, rfl, trivial⟩, ⟨hltj, by rw [markL_skip hltj fun e => c2 e.2.1]; exact hoj, e5⟩, by show bs.length - (j + 1) < bs.length - j; omega⟩
      · have c1 : ¬ bs[j].state = 2 := c1
        refine ⟨_, next2, ?_⟩
        exact ⟨j + 1, ⟨rfl, rfl, trivial⟩, ⟨hltj, by rw [markL_skip hltj fun e => c1 e.1]; exact hoj, e5⟩, by show bs.length - (j + 1) < bs.length - j; omega⟩
    · have hje : j = bs.length := by have : ¬ (j : Int) < (bs.length : Nat) := hge2; omega
      rw [hje, hlast] at hoj
      exact ⟨hoj, e5⟩
end Go.Proofs.YtcnbpfecgokhiaaGreatDoor
namespace Go.Proofs.YtcnbpfecgokhiaaGreatDoor
open Go.Eng Go.RowKit
structure Asked where
  person : Int
  state : Int
  host : Int
  cls : Int
  lang : Int
  lot : Int
def Asked.cells (q : Asked) : List Value := [.int .i64 q.person, .int .i64 q.state, .int .i64 q.host, .int .i64 q.cls, .int .i64 q.lang, .int .i64 q.lot]
def Asked.val (q : Asked) : Value := .agg q.cells.toArray
def Asked.Nums (q : Asked) : Prop := In64 q.person ∧ In64 q.state ∧ In64 q.host ∧ In64 q.cls ∧ In64 q.lang ∧ In64 q.lot
/-- The answers to all questions. -/
structure Ans where
  states : List Int
  alphabet : List Int
  holders : List Int
  acting : List Int
  contested : List Int
  name : ByteArray
  letter : Int
  recognised : Int
  cls : Int
  least : Int
  cred : Int
  visit : Int
  spouse : Int
  principal : Int
  inn : Bool
  mourns : Bool
  dead : Bool
  is : Bool
  alone : Bool
  married : Bool
  stands : Bool
def ansC (s1 : Value) (s2 : Value) (s3 : Value) (s4 : Value) (s5 : Value) (nm : ByteArray) (le : Int) (re : Int) (cl : Int) (ls : Int) (cr : Int) (vi : Int) (sp : Int) (pr : Int) (bi : Bool) (bm : Bool) (bd : Bool) (bs : Bool) (ba : Bool) (bp : Bool) (bt : Bool) : List Value := [s1, s2, s3, s4, s5, .string nm, .int .i64 le, .int .i64 re, .int .i64 cl, .int .i64 ls, .int .i64 cr, .int .i64 vi, .int .i64 sp, .int .i64 pr, .bool bi, .bool bm, .bool bd, .bool bs, .bool ba, .bool bp, .bool bt]
def Ans.cells (a : Ans) (s1 s2 s3 s4 s5 : Value) : List Value := ansC s1 s2 s3 s4 s5 a.name a.letter a.recognised a.cls a.least a.cred a.visit a.spouse a.principal a.inn a.mourns a.dead a.is a.alone a.married a.stands
/-- The answers, their rows made by the call. -/
def AnsIs (B : Nat) (w : World) (v : Value) (a : Ans) : Prop := ∃ s1 s2 s3 s4 s5, v = .agg (a.cells s1 s2 s3 s4 s5).toArray ∧ NewInts B w s1 a.states ∧ NewInts B w s2 a.alphabet ∧ NewInts B w s3 a.holders ∧ NewInts B w s4 a.acting ∧ NewInts B w s5 a.contested
theorem AnsIs.ext {B : Nat} {w w' : World} {v : Value} {a : Ans} (h : AnsIs B w v a) (e : Ext w w') : AnsIs B w' v a := by
  obtain ⟨s1, s2, s3, s4, s5, rfl, h1, h2, h3, h4, h5⟩ := h
  exact ⟨s1, s2, s3, s4, s5, rfl, h1.ext e, h2.ext e, h3.ext e, h4.ext e, h5.ext e⟩
theorem AnsIs.base {B B' : Nat} {w : World} {v : Value} {a : Ans} (h : AnsIs B' w v a) (hb : B ≤ B') : AnsIs B w v a := by
  obtain ⟨s1, s2, s3, s4, s5, rfl, h1, h2, h3, h4, h5⟩ := h
  exact ⟨s1, s2, s3, s4, s5, rfl, h1.base hb, h2.base hb, h3.base hb, h4.base hb, h5.base hb⟩
end Go.Proofs.YtcnbpfecgokhiaaGreatDoor
namespace Go.Proofs.YtcnbpfecgokhiaaGreatDoor
open Go.Eng Go.RowKit
theorem insD_lt {n : Int} {b : List Int} : ∀ {a : List Int}, (∀ x ∈ a, x < n) → insD n (a ++ b) = a ++ insD n b
  | [], _ => rfl
  | x :: r, h => by
    have hx := h x (by simp)
    rw [List.cons_append, insD, if_neg (by omega), if_neg (by omega), insD_lt (fun y hy => h y (by simp [hy]))]; rfl
theorem insD_ge {n : Int} {b : List Int} : ∀ {a : List Int}, (a ++ b).Pairwise (· < ·) → (∃ x ∈ a, n ≤ x) → insD n (a ++ b) = insD n a ++ b
  | [], _, h => by obtain ⟨x, hx, _⟩ := h; cases hx
  | x :: r, hp, h => by
    obtain ⟨h1, h2⟩ := List.pairwise_cons.1 hp
    rw [List.cons_append, insD, insD]
    split
    · rfl
    split
    · rfl
    rename_i h3 h4
    rw [insD_ge h2 ?_]; rfl
    obtain ⟨y, hy, hny⟩ := h
    rcases List.mem_cons.1 hy with rfl | hy
    · omega
    · exact ⟨y, hy, hny⟩
def wstep (n : Int) (s : Bool × List Int) (y : Int) : Bool × List Int :=
  ((if s.1 = false ∧ n ≤ y then (true, s.2 ++ [n]) else s).1, if y ≠ n then (if s.1 = false ∧ n ≤ y then (true, s.2 ++ [n]) else s).2 ++ [y] else (if s.1 = false ∧ n ≤ y then (true, s.2 ++ [n]) else s).2)
def wrun (n : Int) (l : List Int) : Bool × List Int := l.foldl (wstep n) (false, [])
def wstate (n : Int) (l : List Int) (s : Bool × List Int) : Prop := (s = (false, l) ∧ ∀ x ∈ l, x < n) ∨ (s = (true, insD n l) ∧ ∃ x ∈ l, n ≤ x)
theorem wstate_step {n y : Int} {a : List Int} {s : Bool × List Int} (hp : (a ++ [y]).Pairwise (· < ·)) (h : wstate n a s) : wstate n (a ++ [y]) (wstep n s y) := by
  rcases h with ⟨rfl, hl⟩ | ⟨rfl, x, hx, hnx⟩
  · unfold wstep
    by_cases hny : n ≤ y
    · simp only [hny, and_self, if_true]
      refine .inr ⟨?_, y, by simp, hny⟩
      rw [insD_lt hl, insD, insD]
      by_cases he : y = n
      · subst he; simp
      · have hlt : n < y := by omega
        simp [he, hlt]
    · simp only [hny, and_false, if_false]
      refine .inl ⟨?_, fun x hx => ?_⟩
      · rw [if_pos (by omega)]
      · rcases List.mem_append.1 hx with hx | hx
        · exact hl x hx
        · rw [List.mem_singleton.1 hx]; omega
  · have hxy : x < y := (List.pairwise_append.1 hp).2.2 x hx y (by simp)
    refine .inr ⟨?_, x, by simp [hx], hnx⟩
    unfold wstep
    simp only [Bool.true_eq_false, false_and, if_false]
    rw [if_pos (by omega), insD_ge hp ⟨x, hx, hnx⟩]
theorem wrun_state {n : Int} : ∀ (r a : List Int) (s : Bool × List Int), (a ++ r).Pairwise (· < ·) → wstate n a s → wstate n (a ++ r) (r.foldl (wstep n) s)
  | [], a, s, _, h => by rw [List.append_nil]; exact h
  | y :: r, a, s, hp, h => by
    have e : a ++ y :: r = (a ++ [y]) ++ r := by simp
    rw [e] at hp ⊢
    exact wrun_state r (a ++ [y]) _ hp (wstate_step (List.pairwise_append.1 hp).1 h)
theorem wrun_eq {n : Int} {l : List Int} (hp : l.Pairwise (· < ·)) : (if (wrun n l).1 = true then (wrun n l).2 else (wrun n l).2 ++ [n]) = insD n l := by
  rcases wrun_state l [] (false, []) hp (.inl ⟨rfl, fun x hx => by cases hx⟩) with ⟨h, hl⟩ | ⟨h, _⟩
  · have h : wrun n l = (false, l) := h
    have hl : ∀ x ∈ l, x < n := hl
    rw [h, if_neg (by simp)]
    have := insD_lt (n := n) (a := l) (b := []) hl
    rw [List.append_nil] at this
    rw [this]; rfl
  · have h : wrun n l = (true, insD n l) := h
    rw [h, if_pos rfl]
theorem wrun_take {n : Int} {l : List Int} {i : Nat} (hi : i < l.length) : wrun n (l.take (i + 1)) = wstep n (wrun n (l.take i)) l[i] := by
  unfold wrun
  rw [List.take_succ_eq_append_getElem hi, List.foldl_append]; rfl
theorem wstep_length (n : Int) (s : Bool × List Int) (y : Int) : (wstep n s y).2.length ≤ s.2.length + 2 := by
  unfold wstep
  dsimp only
  split <;> split <;> simp
theorem wrun_length (n : Int) (l : List Int) : ∀ (s : Bool × List Int), (l.foldl (wstep n) s).2.length ≤ s.2.length + 2 * l.length := by
  induction l with
  | nil => intro s; simp
  | cons y r ih =>
    intro s
    rw [List.foldl_cons, List.length_cons]
    have h1 := ih (wstep n s y)
    have h2 := wstep_length n s y
    omega
theorem newInts_snoc {B : Nat} {w : World} {v : Value} {l : List Int} {x : Int} (h : w.ownsRow B 3 1 v (l.length + 1) (ints l ++ [.int .i64 x])) : NewInts B w v (l ++ [x]) := by
  unfold NewInts
  rw [ints_append, List.length_append]
  exact h
set_option maxRecDepth 100000 in
theorem with_spec {w : World} {A : Option Addr} {xs : List Int} {c : Nat} (hr : Reads w A (ints xs)) (hl : xs.length ≤ 2 ^ 30) (hp : xs.Pairwise (· < ·)) (n : Int) :
    CallsV C.P 197 #[.slice A xs.length c, .int .i64 n] w fun v w' => NewInts w.heap.size w' v (insD n xs) ∧ Ext w w' := by
  refine callsV_of C_ok (args := [_, _]) (plans := []) Tryz.func197 rfl Tryz.ntmps197 (by kernel_rfl) (Nat.le_of_ble_eq_true rfl) ?_
  have hlen : ∀ i, (wrun n (xs.take i)).2.length ≤ 2 ^ 32 := fun i => by
    have h1 := wrun_length n (xs.take i) (false, [])
    have h2 : (xs.take i).length ≤ xs.length := by rw [List.length_take]; omega
    have h3 : (([] : List Int)).length = 0 := rfl
    show ((xs.take i).foldl (wstep n) (false, [])).2.length ≤ _
    dsimp only at h1; omega
  rw [← wrun_eq hp]
  refine loopE C_ok (fun (s : Nat × Value × Bool) => [(0, .slice A xs.length c), (1, .int .i64 n), (5, s.2.1), (6, .bool s.2.2), (7, .int .i64 s.1)])
    (fun s w' => s.1 ≤ xs.length ∧ Ext w w' ∧ NewInts w.heap.size w' s.2.1 (wrun n (xs.take s.1)).2 ∧ s.2.2 = (wrun n (xs.take s.1)).1) (fun s => xs.length - s.1) (0, .slice none 0 0, false)
    ⟨rfl, rfl, rfl, rfl, rfl, trivial⟩ ⟨Nat.zero_le _, Ext.refl _, newInts_nil _ _, rfl⟩ ?_
  rintro ⟨i, v, b⟩ w1 ⟨hi', e1, ho', hb'⟩
  have hi : i ≤ xs.length := hi'
  have ho : NewInts w.heap.size w1 v (wrun n (xs.take i)).2 := ho'
  have hb : b = (wrun n (xs.take i)).1 := hb'
  clear hi' ho' hb'
  have hn1 := hlen i
  refine brE_dec (fun hlt2 => ?_) (fun hge => ?_)
  · have hlt : i < xs.length := by have : (i : Int) < (xs.length : Nat) := hlt2; omega
    clear hlt2
    have next : IntKind.i64.wrap ((i : Int) + 1) = ((i + 1 : Nat) : Int) := fit ⟨by omega, by omega⟩
    have hst := wrun_take (n := n) hlt
    have hn2 := hlen (i + 1)
    generalize wrun n (xs.take i) = S1 at *
    obtain ⟨b1, out⟩ := S1
    have ho : NewInts w.heap.size w1 v out := ho
    have hn1 : out.length ≤ 2 ^ 32 := hn1
    have hb : b = b1 := hb
    subst hb
    obtain ⟨p, o, hA, hc⟩ := Reads.int (hr.ext e1) hlt
    have fin : ∀ {w2 : World} {v2 : Value} {b2 : Bool} {out2 : List Int}, wrun n (xs.take (i + 1)) = (b2, out2) → Ext w w2 → NewInts w.heap.size w2 v2 out2 → i + 1 ≤ xs.length ∧ Ext w w2 ∧ NewInts w.heap.size w2 v2 (wrun n (xs.take (i + 1))).2 ∧ b2 = (wrun n (xs.take (i + 1))).1 := fun hS e hh => ⟨hlt, e, by rw [hS]; exact hh, by rw [hS]⟩
    have done : ∀ {w2 : World} {v2 : Value} {b2 : Bool} {out2 : List Int}, (b2, out2) = (if b = false ∧ n ≤ xs[i] then (true, out ++ [n]) else (b, out)) → wrun n (xs.take (i + 1)) = (b2, if xs[i] ≠ n then out2 ++ [xs[i]] else out2) := fun hh => by
      rw [hst]; unfold wstep; dsimp only; rw [← hh]
    cases b with
    | true =>
      have hd := done (w2 := w1) (v2 := v) (b2 := true) (out2 := out) (by simp)
      refine ⟨i, p, o, rfl, hlt, hA, ?_⟩
      refine ⟨_, by simpa using hc, ?_⟩
      refine brE_ndec (fun hx => ?_) (fun hx => ?_)
      · have hx : xs[i] ≠ n := hx
        rw [if_pos hx] at hd
        refine ⟨i, p, o, rfl, hlt, hA, ?_⟩
        refine ⟨_, by simpa using hc, ?_⟩
        intro g w2 h2
        have ho2 := ho.ext h2.ext
        refine ⟨rfl, rfl, rfl, w.heap.size, _, _, [.int .i64 xs[i]], ho2, (e1.trans h2.ext).size, Nat.le_of_ble_eq_true rfl, rfl, rfl, .inr ⟨g, 0, rfl, Rd.of_block h2.here⟩, rfl, rfl, by omega, by simp only [maxLen]; omega, ?_⟩
        intro v3 w3 ho3 hg3 _
        refine ⟨_, next, ?_⟩
        exact ⟨(i + 1, v3, true), ⟨rfl, rfl, rfl, rfl, rfl, trivial⟩, fin hd (app_ext (e1.trans h2.ext) ho2 hg3) (newInts_snoc ho3), by show xs.length - (i + 1) < xs.length - i; omega⟩
      · have hx : xs[i] = n := hx
        rw [if_neg (by simp [hx])] at hd
        refine ⟨_, next, ?_⟩
        exact ⟨(i + 1, v, true), ⟨rfl, rfl, rfl, rfl, rfl, trivial⟩, fin hd e1 ho, by show xs.length - (i + 1) < xs.length - i; omega⟩
    | false =>
      refine ⟨i, p, o, rfl, hlt, hA, ?_⟩
      refine ⟨_, by simpa using hc, ?_⟩
      refine brE_dec (fun hn => ?_) (fun hn => ?_)
      · have hn : n ≤ xs[i] := hn
        have hd := done (w2 := w1) (v2 := v) (b2 := true) (out2 := out ++ [n]) (by simp [hn])
        intro g w2 h2
        have ho2 := ho.ext h2.ext
        refine ⟨rfl, rfl, rfl, w.heap.size, _, _, [.int .i64 n], ho2, (e1.trans h2.ext).size, Nat.le_of_ble_eq_true rfl, rfl, rfl, .inr ⟨g, 0, rfl, Rd.of_block h2.here⟩, rfl, rfl, by omega, by simp only [maxLen]; omega, ?_⟩
        intro v3 w3 ho3 hg3 _
        have e3 := app_ext (e1.trans h2.ext) ho2 hg3
        have ho3 := newInts_snoc ho3
        obtain ⟨p, o, hA, hc⟩ := Reads.int (hr.ext e3) hlt
        refine ⟨i, p, o, rfl, hlt, hA, ?_⟩
        refine ⟨_, by simpa using hc, ?_⟩
        refine brE_ndec (fun hx => ?_) (fun hx => ?_)
        · have hx : xs[i] ≠ n := hx
          rw [if_pos hx] at hd
          refine ⟨i, p, o, rfl, hlt, hA, ?_⟩
          refine ⟨_, by simpa using hc, ?_⟩
          intro g w4 h4
          have ho4 := ho3.ext h4.ext
          have hll : (out ++ [n]).length = out.length + 1 := by simp
          have hll2 : ((false, out).2 ++ [n]).length = out.length + 1 := hll
          refine ⟨rfl, rfl, rfl, w.heap.size, _, _, [.int .i64 xs[i]], ho4, (e3.trans h4.ext).size, Nat.le_of_ble_eq_true rfl, rfl, rfl, .inr ⟨g, 0, rfl, Rd.of_block h4.here⟩, rfl, rfl, by omega, by simp only [maxLen]; omega, ?_⟩
          intro v5 w5 ho5 hg5 _
          refine ⟨_, next, ?_⟩
          exact ⟨(i + 1, v5, true), ⟨rfl, rfl, rfl, rfl, rfl, trivial⟩, fin hd (app_ext (e3.trans h4.ext) ho4 hg5) (newInts_snoc ho5), by show xs.length - (i + 1) < xs.length - i; omega⟩
        · have hx : xs[i] = n := hx
          rw [if_neg (by simp [hx])] at hd
          refine ⟨_, next, ?_⟩
          exact ⟨(i + 1, v3, true), ⟨rfl, rfl, rfl, rfl, rfl, trivial⟩, fin hd e3 ho3, by show xs.length - (i + 1) < xs.length - i; omega⟩
      · have hn : ¬ n ≤ xs[i] := hn
        have hd := done (w2 := w1) (v2 := v) (b2 := false) (out2 := out) (by simp [hn])
        refine ⟨i, p, o, rfl, hlt, hA, ?_⟩
        refine ⟨_, by simpa using hc, ?_⟩
        refine brE_ndec (fun hx => ?_) (fun hx => ?_)
        · have hx : xs[i] ≠ n := hx
          rw [if_pos hx] at hd
          refine ⟨i, p, o, rfl, hlt, hA, ?_⟩
          refine ⟨_, by simpa using hc, ?_⟩
          intro g w2 h2
          have ho2 := ho.ext h2.ext
          refine ⟨rfl, rfl, rfl, w.heap.size, _, _, [.int .i64 xs[i]], ho2, (e1.trans h2.ext).size, Nat.le_of_ble_eq_true rfl, rfl, rfl, .inr ⟨g, 0, rfl, Rd.of_block h2.here⟩, rfl, rfl, by omega, by simp only [maxLen]; omega, ?_⟩
          intro v3 w3 ho3 hg3 _
          refine ⟨_, next, ?_⟩
          exact ⟨(i + 1, v3, false), ⟨rfl, rfl, rfl, rfl, rfl, trivial⟩, fin hd (app_ext (e1.trans h2.ext) ho2 hg3) (newInts_snoc ho3), by show xs.length - (i + 1) < xs.length - i; omega⟩
        · have hx : xs[i] = n := hx
          rw [if_neg (by simp [hx])] at hd
          refine ⟨_, next, ?_⟩
          exact ⟨(i + 1, v, false), ⟨rfl, rfl, rfl, rfl, rfl, trivial⟩, fin hd e1 ho, by show xs.length - (i + 1) < xs.length - i; omega⟩
  · have : i = xs.length := by have : ¬ (i : Int) < (xs.length : Nat) := hge; omega
    subst this
    rw [List.take_length] at ho hb hn1
    generalize wrun n xs = S at *
    obtain ⟨b1, out⟩ := S
    have hb : b = b1 := hb
    subst hb
    have ho : NewInts w.heap.size w1 v out := ho
    have hn1 : out.length ≤ 2 ^ 32 := hn1
    cases b with
    | true => exact ⟨ho, e1⟩
    | false =>
      intro g w2 h2
      have ho2 := ho.ext h2.ext
      refine ⟨rfl, rfl, rfl, w.heap.size, _, _, [.int .i64 n], ho2, (e1.trans h2.ext).size, Nat.le_of_ble_eq_true rfl, rfl, rfl, .inr ⟨g, 0, rfl, Rd.of_block h2.here⟩, rfl, rfl, by omega, by simp only [maxLen]; omega, ?_⟩
      intro v3 w3 ho3 hg3 _
      exact ⟨newInts_snoc ho3, app_ext (e1.trans h2.ext) ho2 hg3⟩
end Go.Proofs.YtcnbpfecgokhiaaGreatDoor
namespace Go.Proofs.YtcnbpfecgokhiaaGreatDoor
open Go.Eng Go.RowKit
theorem any_step {α : Type} {p : α → Bool} {K : List α} {i : Nat} (hi : i < K.length) : (K.take (i + 1)).any p = ((K.take i).any p || p K[i]) := by
  rw [List.take_succ_eq_append_getElem hi, List.any_append]; simp
theorem any_hit {α : Type} {p : α → Bool} {K : List α} {i : Nat} (hi : i < K.length) (h : p K[i] = true) : K.any p = true := List.any_eq_true.2 ⟨K[i], List.getElem_mem hi, h⟩
set_option maxRecDepth 100000 in
theorem refdead_spec {w1 : World} {AK : Option Addr} {K : List Fact} {cK : Nat} (hrK : Reads w1 AK (fcells K)) (hK : K.length ≤ 2 ^ 20) (n : Int) :
    CallsV C.P 196 #[.slice AK K.length cK, .int .i64 n] w1 fun v w' => v = .bool (deadB K n) ∧ w' = w1 := by
  refine callsV_of C_ok (args := [_, _]) (plans := []) Tryz.func196 rfl Tryz.ntmps196 (by kernel_rfl) (Nat.le_of_ble_eq_true rfl) ?_
  unfold deadB
  refine loopE C_ok (fun (s : Nat × Unit) => [(0, .slice AK K.length cK), (1, .int .i64 n), (5, .int .i64 s.1)])
    (fun s w' => w' = w1 ∧ s.1 ≤ K.length ∧ (K.take s.1).any (deathB n) = false) (fun s => K.length - s.1) (0, ()) ⟨rfl, rfl, rfl, trivial⟩ ⟨rfl, Nat.zero_le _, by simp⟩ ?_
  rintro ⟨i, u⟩ w2 ⟨rfl, hi', ha'⟩
  have hi : i ≤ K.length := hi'
  have ha : (K.take i).any (deathB n) = false := ha'
  clear hi' ha'
  refine brE_dec (fun hlt2 => ?_) (fun hge => ?_)
  · have hlt : i < K.length := by have : (i : Int) < (K.length : Nat) := hlt2; omega
    clear hlt2
    have next : IntKind.i64.wrap ((i : Int) + 1) = ((i + 1 : Nat) : Int) := fit ⟨by omega, by omega⟩
    obtain ⟨b, o, hA, hc⟩ := Reads.fact hrK hlt
    refine ⟨i, b, o, rfl, hlt, hA, ?_⟩
    refine ⟨.int .u8 K[i].kind, hc 2 _ rfl, ?_⟩
    refine brE_dec (fun k0 => ?_) (fun k0 => ?_)
    · have k0 : K[i].kind = 10 := k0
      refine ⟨i, b, o, rfl, hlt, hA, ?_⟩
      refine ⟨.int .i64 K[i].who, hc 3 _ rfl, ?_⟩
      refine brE_dec (fun k1 => ?_) (fun k1 => ?_)
      · have k1 : K[i].who = n := k1
        have hp : (deathB n) K[i] = true := decide_eq_true ⟨k0, k1⟩
        exact ⟨by rw [any_hit (p := deathB n) hlt hp], rfl⟩
      · have k1 : ¬ K[i].who = n := k1
        have hp : (deathB n) K[i] = false := decide_eq_false fun hh => k1 hh.2
        refine ⟨_, next, ?_⟩
        exact ⟨(i + 1, ()), ⟨rfl, rfl, rfl, trivial⟩, ⟨rfl, hlt, by show (K.take (i + 1)).any (deathB n) = false; rw [any_step hlt, ha]; exact hp⟩, by show K.length - (i + 1) < K.length - i; omega⟩
    · have k0 : ¬ K[i].kind = 10 := k0
      have hp : (deathB n) K[i] = false := decide_eq_false fun hh => k0 hh.1
      refine ⟨_, next, ?_⟩
      exact ⟨(i + 1, ()), ⟨rfl, rfl, rfl, trivial⟩, ⟨rfl, hlt, by show (K.take (i + 1)).any (deathB n) = false; rw [any_step hlt, ha]; exact hp⟩, by show K.length - (i + 1) < K.length - i; omega⟩
  · have : i = K.length := by have : ¬ (i : Int) < (K.length : Nat) := hge; omega
    rw [this, List.take_length] at ha
    exact ⟨by rw [ha], rfl⟩
set_option maxRecDepth 100000 in
theorem numbered_spec {w1 : World} {AK : Option Addr} {K : List Fact} {cK : Nat} (hrK : Reads w1 AK (fcells K)) (hK : K.length ≤ 2 ^ 20) (n : Int) :
    CallsV C.P 168 #[.slice AK K.length cK, .int .i64 n] w1 fun v w' => v = .bool (idIn K n) ∧ w' = w1 := by
  refine callsV_of C_ok (args := [_, _]) (plans := []) Tryz.func168 rfl Tryz.ntmps168 (by kernel_rfl) (Nat.le_of_ble_eq_true rfl) ?_
  unfold idIn
  refine loopE C_ok (fun (s : Nat × Unit) => [(0, .slice AK K.length cK), (1, .int .i64 n), (5, .int .i64 s.1)])
    (fun s w' => w' = w1 ∧ s.1 ≤ K.length ∧ (K.take s.1).any (fun y => decide (y.id = n)) = false) (fun s => K.length - s.1) (0, ()) ⟨rfl, rfl, rfl, trivial⟩ ⟨rfl, Nat.zero_le _, by simp⟩ ?_
  rintro ⟨i, u⟩ w2 ⟨rfl, hi', ha'⟩
  have hi : i ≤ K.length := hi'
  have ha : (K.take i).any (fun y => decide (y.id = n)) = false := ha'
  clear hi' ha'
  refine brE_dec (fun hlt2 => ?_) (fun hge => ?_)
  · have hlt : i < K.length := by have : (i : Int) < (K.length : Nat) := hlt2; omega
    clear hlt2
    have next : IntKind.i64.wrap ((i : Int) + 1) = ((i + 1 : Nat) : Int) := fit ⟨by omega, by omega⟩
    obtain ⟨b, o, hA, hc⟩ := Reads.fact hrK hlt
    refine ⟨i, b, o, rfl, hlt, hA, ?_⟩
    refine ⟨.int .i64 K[i].id, hc 0 _ rfl, ?_⟩
    refine brE_dec (fun k0 => ?_) (fun k0 => ?_)
    · have k0 : K[i].id = n := k0
      have hp : (fun y => decide (y.id = n)) K[i] = true := decide_eq_true k0
      exact ⟨by rw [any_hit (p := fun y => decide (y.id = n)) hlt hp], rfl⟩
    · have k0 : ¬ K[i].id = n := k0
      have hp : (fun y => decide (y.id = n)) K[i] = false := decide_eq_false fun hh => k0 hh
      refine ⟨_, next, ?_⟩
      exact ⟨(i + 1, ()), ⟨rfl, rfl, rfl, trivial⟩, ⟨rfl, hlt, by show (K.take (i + 1)).any (fun y => decide (y.id = n)) = false; rw [any_step hlt, ha]; exact hp⟩, by show K.length - (i + 1) < K.length - i; omega⟩
  · have : i = K.length := by have : ¬ (i : Int) < (K.length : Nat) := hge; omega
    rw [this, List.take_length] at ha
    exact ⟨by rw [ha], rfl⟩
set_option maxRecDepth 100000 in
theorem refnamed_spec {w1 : World} {AK : Option Addr} {K : List Fact} {cK : Nat} (hrK : Reads w1 AK (fcells K)) (hK : K.length ≤ 2 ^ 20) (n : Int) :
    CallsV C.P 169 #[.slice AK K.length cK, .int .i64 n] w1 fun v w' => v = .bool (namedIn K n) ∧ w' = w1 := by
  refine callsV_of C_ok (args := [_, _]) (plans := []) Tryz.func169 rfl Tryz.ntmps169 (by kernel_rfl) (Nat.le_of_ble_eq_true rfl) ?_
  unfold namedIn
  refine loopE C_ok (fun (s : Nat × Unit) => [(0, .slice AK K.length cK), (1, .int .i64 n), (5, .int .i64 s.1)])
    (fun s w' => w' = w1 ∧ s.1 ≤ K.length ∧ (K.take s.1).any (fun y => decide (y.kind = 1 ∧ y.who = n)) = false) (fun s => K.length - s.1) (0, ()) ⟨rfl, rfl, rfl, trivial⟩ ⟨rfl, Nat.zero_le _, by simp⟩ ?_
  rintro ⟨i, u⟩ w2 ⟨rfl, hi', ha'⟩
  have hi : i ≤ K.length := hi'
  have ha : (K.take i).any (fun y => decide (y.kind = 1 ∧ y.who = n)) = false := ha'
  clear hi' ha'
  refine brE_dec (fun hlt2 => ?_) (fun hge => ?_)
  · have hlt : i < K.length := by have : (i : Int) < (K.length : Nat) := hlt2; omega
    clear hlt2
    have next : IntKind.i64.wrap ((i : Int) + 1) = ((i + 1 : Nat) : Int) := fit ⟨by omega, by omega⟩
    obtain ⟨b, o, hA, hc⟩ := Reads.fact hrK hlt
    refine ⟨i, b, o, rfl, hlt, hA, ?_⟩
    refine ⟨.int .u8 K[i].kind, hc 2 _ rfl, ?_⟩
    refine brE_dec (fun k0 => ?_) (fun k0 => ?_)
    · have k0 : K[i].kind = 1 := k0
      refine ⟨i, b, o, rfl, hlt, hA, ?_⟩
      refine ⟨.int .i64 K[i].who, hc 3 _ rfl, ?_⟩
      refine brE_dec (fun k1 => ?_) (fun k1 => ?_)
      · have k1 : K[i].who = n := k1
        have hp : (fun y => decide (y.kind = 1 ∧ y.who = n)) K[i] = true := decide_eq_true ⟨k0, k1⟩
        exact ⟨by rw [any_hit (p := fun y => decide (y.kind = 1 ∧ y.who = n)) hlt hp], rfl⟩
      · have k1 : ¬ K[i].who = n := k1
        have hp : (fun y => decide (y.kind = 1 ∧ y.who = n)) K[i] = false := decide_eq_false fun hh => k1 hh.2
        refine ⟨_, next, ?_⟩
        exact ⟨(i + 1, ()), ⟨rfl, rfl, rfl, trivial⟩, ⟨rfl, hlt, by show (K.take (i + 1)).any (fun y => decide (y.kind = 1 ∧ y.who = n)) = false; rw [any_step hlt, ha]; exact hp⟩, by show K.length - (i + 1) < K.length - i; omega⟩
    · have k0 : ¬ K[i].kind = 1 := k0
      have hp : (fun y => decide (y.kind = 1 ∧ y.who = n)) K[i] = false := decide_eq_false fun hh => k0 hh.1
      refine ⟨_, next, ?_⟩
      exact ⟨(i + 1, ()), ⟨rfl, rfl, rfl, trivial⟩, ⟨rfl, hlt, by show (K.take (i + 1)).any (fun y => decide (y.kind = 1 ∧ y.who = n)) = false; rw [any_step hlt, ha]; exact hp⟩, by show K.length - (i + 1) < K.length - i; omega⟩
  · have : i = K.length := by have : ¬ (i : Int) < (K.length : Nat) := hge; omega
    rw [this, List.take_length] at ha
    exact ⟨by rw [ha], rfl⟩
set_option maxRecDepth 100000 in
theorem in1_spec {w : World} {A : Option Addr} {xs : List Int} {c : Nat} (hr : Reads w A (ints xs)) (hl : xs.length ≤ 2 ^ 40) (n : Int) :
    CallsV C.P 139 #[.slice A xs.length c, .int .i64 n] w fun v w' => v = .bool (decide (n ∈ xs)) ∧ w' = w := by
  refine callsV_of C_ok (args := [_, _]) (plans := []) Tryz.func139 rfl Tryz.ntmps139 (by kernel_rfl) (Nat.le_of_ble_eq_true rfl) ?_
  refine loopE C_ok (fun (i : Nat) => [(0, .slice A xs.length c), (1, .int .i64 n), (5, .int .i64 i)])
    (fun i w' => w' = w ∧ i ≤ xs.length ∧ n ∉ xs.take i) (fun i => xs.length - i) 0 ⟨rfl, rfl, rfl, trivial⟩ ⟨rfl, Nat.zero_le _, by simp⟩ ?_
  rintro i w1 ⟨rfl, hi, hn⟩
  refine brE_dec (fun hlt2 => ?_) (fun hge => ?_)
  · have hlt : i < xs.length := by have : (i : Int) < (xs.length : Nat) := hlt2; omega
    obtain ⟨b, o, hA, hc⟩ := Reads.int hr hlt
    refine ⟨i, b, o, rfl, hlt, hA, ?_⟩
    refine ⟨_, by simpa using hc, ?_⟩
    refine brE_dec (fun he => ?_) (fun he => ?_)
    · have he : xs[i] = n := he
      exact ⟨by rw [decide_eq_true (by rw [← he]; exact List.getElem_mem hlt)], rfl⟩
    · have he : ¬ xs[i] = n := he
      refine ⟨((i + 1 : Nat) : Int), fit ⟨by omega, by omega⟩, ?_⟩
      refine ⟨i + 1, ⟨rfl, rfl, rfl, trivial⟩, ⟨rfl, hlt, ?_⟩, by omega⟩
      rw [List.take_succ_eq_append_getElem hlt]
      intro hm
      rcases List.mem_append.1 hm with hm | hm
      · exact hn hm
      · exact he (List.mem_singleton.1 hm).symm
  · have : i = xs.length := by have : ¬ (i : Int) < (xs.length : Nat) := hge; omega
    rw [this, List.take_length] at hn
    exact ⟨by rw [decide_eq_false hn], rfl⟩
end Go.Proofs.YtcnbpfecgokhiaaGreatDoor
namespace Go.Proofs.YtcnbpfecgokhiaaGreatDoor
open Go.Eng Go.RowKit
/-- All that FactsClasses asks, in numbers. -/
structure ClassFacts (X : List Fact) (host person s : Int) (p : Int) (is : Bool) (c : Int) (a : Bool) : Prop where
  f1 : is = true → p ∈ livingL X 2 s 1
  f2 : (livingL X 2 s 1).length = 1 → is = true
  f5 : c = 1 → a = false → is = true ∧ p = person
  f6 : is = true → p = person → c = 1 ∧ a = false
  f7 : deadB X person = true → c = 5 ∧ person ∉ livingL X 2 s 1
  f8 : (c = 1 ∨ c = 2 ∨ c = 3 ∨ c = 4) ∨ (c = 5 ∧ a = false)
  f9 : a = true → person ∈ livingL X 3 s c
  f10 : a = false → c < 5 → person ∈ livingL X 2 s c
  f11 : leastL X person s ≤ c
end Go.Proofs.YtcnbpfecgokhiaaGreatDoor
namespace Go.Proofs.YtcnbpfecgokhiaaGreatDoor
open Go.Eng Go.RowKit
theorem sortD_snoc (a : List Int) (x : Int) : sortD (a ++ [x]) = insD x (sortD a) := by
  unfold sortD
  rw [List.foldl_append]; rfl
theorem filterMap_step {p : Fact → Bool} {f : Fact → Int} {K : List Fact} {i : Nat} (hi : i < K.length) : ((K.take (i + 1)).filter p).map f = ((K.take i).filter p).map f ++ if p K[i] = true then [f K[i]] else [] := by
  rw [List.take_succ_eq_append_getElem hi, List.filter_append, List.map_append, List.filter_cons, List.filter_nil]
  by_cases h : p K[i] = true
  · rw [if_pos h, if_pos h]; rfl
  · rw [if_neg h, if_neg h]; rfl
theorem sortF_length {p : Fact → Bool} {f : Fact → Int} {K : List Fact} : (sortD ((K.filter p).map f)).length ≤ K.length := by
  have h1 := sortD_length ((K.filter p).map f)
  have h2 := List.length_filter_le p K
  rw [List.length_map] at h1
  omega
theorem living_length (X : List Fact) (k s cl : Int) : (livingL X k s cl).length ≤ X.length := sortF_length
set_option maxRecDepth 100000 in
theorem office_spec {w : World} {A : Option Addr} {l : List Fact} {c : Nat} (h : HF w A l c) (hl : l.length ≤ 2 ^ 20) (k day kk s0 cl : Int) :
    CallsV C.P 171 #[.slice A l.length c, .int .i64 k, .int .i64 day, .int .u8 kk, .int .i64 s0, .int .i64 cl] w fun v w' => NewInts w.heap.size w' v (livingL (atL k day l) kk s0 cl) ∧ Ext w w' := by
  refine callsV_of C_ok (args := [_, _, _, _, _, _]) (plans := []) Tryz.func171 rfl Tryz.ntmps171 (by kernel_rfl) (Nat.le_of_ble_eq_true rfl) ?_
  refine (refAt_spec h hl k day).mono ?_
  rintro v0 w1 ⟨ho, e1⟩
  have hK := atL_length k day l
  generalize atL k day l = K at *
  obtain ⟨AK, cK, rfl, hrK, _⟩ := ho.slice
  unfold livingL
  refine loopE C_ok (fun (s : Nat × Value) => [(3, .int .u8 kk), (4, .int .i64 s0), (5, .int .i64 cl), (13, .slice AK K.length cK), (14, s.2), (15, .int .i64 s.1)])
    (fun s w' => s.1 ≤ K.length ∧ Ext w1 w' ∧ NewInts w1.heap.size w' s.2 (sortD (((K.take s.1).filter (livesB K kk s0 cl)).map Fact.who))) (fun s => K.length - s.1) (0, .slice none 0 0) ⟨rfl, rfl, rfl, rfl, rfl, rfl, trivial⟩ ⟨Nat.zero_le _, Ext.refl _, newInts_nil _ _⟩ ?_
  rintro ⟨i, v⟩ w2 ⟨hi', e2', ho'⟩
  have hi : i ≤ K.length := hi'
  have e2 : Ext w1 w2 := e2'
  have ho2 : NewInts w1.heap.size w2 v (sortD (((K.take i).filter (livesB K kk s0 cl)).map Fact.who)) := ho'
  clear hi' ho' e2'
  refine brE_dec (fun hlt2 => ?_) (fun hge => ?_)
  · have hlt : i < K.length := by have : (i : Int) < (K.length : Nat) := hlt2; omega
    clear hlt2
    have next : IntKind.i64.wrap ((i : Int) + 1) = ((i + 1 : Nat) : Int) := fit ⟨by omega, by omega⟩
    obtain ⟨b, o, hA, hc⟩ := Reads.fact (hrK.ext e2) hlt
    have hst := filterMap_step (p := livesB K kk s0 cl) (f := Fact.who) hlt
    have hln := sortF_length (p := livesB K kk s0 cl) (f := Fact.who) (K := K.take i)
    have htl : (K.take i).length ≤ K.length := by rw [List.length_take]; omega
    have miss : livesB K kk s0 cl K[i] = false → i + 1 ≤ K.length ∧ Ext w1 w2 ∧ NewInts w1.heap.size w2 v (sortD (((K.take (i + 1)).filter (livesB K kk s0 cl)).map Fact.who)) := fun hf => by
      rw [hf, if_neg (by decide), List.append_nil] at hst
      exact ⟨hlt, e2, by rw [hst]; exact ho2⟩
    refine ⟨i, b, o, rfl, hlt, hA, ?_⟩
    refine ⟨.int .i64 K[i].who, hc 3 _ rfl, ?_⟩
    refine (refdead_spec (hrK.ext e2) (by omega) K[i].who).mono ?_
    rintro _ w3 ⟨rfl, rfl⟩
    refine ⟨i, b, o, rfl, hlt, hA, ?_⟩
    refine ⟨.int .u8 K[i].kind, hc 2 _ rfl, ?_⟩
    refine brE_dec (fun k0 => ?_) (fun k0 => ?_)
    · have k0 : K[i].kind = kk := k0
      refine ⟨i, b, o, rfl, hlt, hA, ?_⟩
      refine ⟨.int .i64 K[i].what, hc 4 _ rfl, ?_⟩
      refine brE_dec (fun k1 => ?_) (fun k1 => ?_)
      · have k1 : K[i].what = s0 := k1
        refine ⟨i, b, o, rfl, hlt, hA, ?_⟩
        refine ⟨.int .i64 K[i].other, hc 5 _ rfl, ?_⟩
        refine brE_dec (fun k2 => ?_) (fun k2 => ?_)
        · have k2 : K[i].other = cl := k2
          cases hd : deadB K K[i].who with
          | true =>
            refine ⟨_, next, ?_⟩
            exact ⟨(i + 1, v), ⟨rfl, rfl, rfl, rfl, rfl, rfl, trivial⟩, miss (by unfold livesB; rw [hd, Bool.and_comm]; rfl), by show K.length - (i + 1) < K.length - i; omega⟩
          | false =>
            have hp : livesB K kk s0 cl K[i] = true := by unfold livesB; rw [hd, decide_eq_true ⟨k0, k1, k2⟩]; rfl
            rw [if_pos hp] at hst
            refine ⟨i, b, o, rfl, hlt, hA, ?_⟩
            refine ⟨.int .i64 K[i].who, hc 3 _ rfl, ?_⟩
            obtain ⟨AV, cV, rfl, hrV, _⟩ := NewInts.slice ho2
            refine (with_spec hrV (by omega) (sortD_asc _) K[i].who).mono ?_
            rintro v4 w4 ⟨ho4, e4⟩
            refine ⟨_, next, ?_⟩
            exact ⟨(i + 1, v4), ⟨rfl, rfl, rfl, rfl, rfl, rfl, trivial⟩, ⟨hlt, e2.trans e4, by show NewInts w1.heap.size w4 v4 (sortD (((K.take (i + 1)).filter (livesB K kk s0 cl)).map Fact.who)); rw [hst, sortD_snoc]; exact ho4.base e2.size⟩, by show K.length - (i + 1) < K.length - i; omega⟩
        · have k2 : ¬ K[i].other = cl := k2
          refine ⟨_, next, ?_⟩
          exact ⟨(i + 1, v), ⟨rfl, rfl, rfl, rfl, rfl, rfl, trivial⟩, miss (by unfold livesB; rw [decide_eq_false fun hh => k2 hh.2.2]; rfl), by show K.length - (i + 1) < K.length - i; omega⟩
      · have k1 : ¬ K[i].what = s0 := k1
        refine ⟨_, next, ?_⟩
        exact ⟨(i + 1, v), ⟨rfl, rfl, rfl, rfl, rfl, rfl, trivial⟩, miss (by unfold livesB; rw [decide_eq_false fun hh => k1 hh.2.1]; rfl), by show K.length - (i + 1) < K.length - i; omega⟩
    · have k0 : ¬ K[i].kind = kk := k0
      refine ⟨_, next, ?_⟩
      exact ⟨(i + 1, v), ⟨rfl, rfl, rfl, rfl, rfl, rfl, trivial⟩, miss (by unfold livesB; rw [decide_eq_false fun hh => k0 hh.1]; rfl), by show K.length - (i + 1) < K.length - i; omega⟩
  · have : i = K.length := by have : ¬ (i : Int) < (K.length : Nat) := hge; omega
    rw [this, List.take_length] at ho2
    exact ⟨ho2.base e1.size, e1.trans e2⟩
theorem refHolders_spec {w : World} {A : Option Addr} {l : List Fact} {c : Nat} (h : HF w A l c) (hl : l.length ≤ 2 ^ 20) (k day s0 cl : Int) :
    CallsV C.P 137 #[.slice A l.length c, .int .i64 k, .int .i64 day, .int .i64 s0, .int .i64 cl] w fun v w' => NewInts w.heap.size w' v (livingL (atL k day l) 2 s0 cl) ∧ Ext w w' := by
  refine callsV_of C_ok (args := [_, _, _, _, _]) (plans := []) Tryz.func137 rfl Tryz.ntmps137 (by kernel_rfl) (Nat.le_of_ble_eq_true rfl) ?_
  refine (office_spec h hl k day 2 s0 cl).mono ?_
  rintro v w1 hh
  exact hh
theorem refActing_spec {w : World} {A : Option Addr} {l : List Fact} {c : Nat} (h : HF w A l c) (hl : l.length ≤ 2 ^ 20) (k day s0 cl : Int) :
    CallsV C.P 138 #[.slice A l.length c, .int .i64 k, .int .i64 day, .int .i64 s0, .int .i64 cl] w fun v w' => NewInts w.heap.size w' v (livingL (atL k day l) 3 s0 cl) ∧ Ext w w' := by
  refine callsV_of C_ok (args := [_, _, _, _, _]) (plans := []) Tryz.func138 rfl Tryz.ntmps138 (by kernel_rfl) (Nat.le_of_ble_eq_true rfl) ?_
  refine (office_spec h hl k day 3 s0 cl).mono ?_
  rintro v w1 hh
  exact hh
end Go.Proofs.YtcnbpfecgokhiaaGreatDoor
