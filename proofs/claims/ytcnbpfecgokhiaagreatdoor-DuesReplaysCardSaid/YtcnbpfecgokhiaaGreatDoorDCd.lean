/- a part of the proof: steps, walks and plain laws that the law below stands on; no condition. -/
import Derived.Test.YtcnbpfecgokhiaaGreatDoorDCb
import Derived.Test.YtcnbpfecgokhiaaGreatDoorDCc
set_option linter.unusedVariables false
set_option linter.unusedSimpArgs false
set_option linter.unnecessarySimpa false
set_option linter.unusedSectionVars false
namespace Go.Proofs.YtcnbpfecgokhiaaGreatDoor
open Go.Eng Go.RowKit

theorem IndexFuncI_spec {w : World} {A : Option Addr} {l : List Int} {c gd : Nat} {cb : Array Value} {p : Int → Bool} (hr : Reads w A (ints l)) (hl : l.length ≤ 2 ^ 40) (hgd : C.can gd = true)
    (hdel : ∀ (x : Int) (w' : World), Ext w w' → CallsV C.P gd (#[] ++ [.int .i64 x].toArray ++ cb) w' fun v w'' => v = .bool (p x) ∧ Ext w' w'') :
    CallsV C.P 161 #[.slice A l.length c, .func (.func gd) #[] cb] w fun v w' => ((v = .int .i64 (-1) ∧ ∀ x ∈ l, p x = false) ∨ ∃ i : Nat, v = .int .i64 (i : Nat) ∧ ∃ h : i < l.length, p l[i] = true ∧ ∀ j (hj : j < l.length), j < i → p l[j] = false) ∧ Ext w w' := by
  refine callsV_of C_ok (args := [_, _]) (plans := []) Tryz.func161 rfl Tryz.ntmps161 (by kernel_rfl) (Nat.le_of_ble_eq_true rfl) ?_
  refine loopE C_ok (fun (i : Nat) => [(0, .slice A l.length c), (1, .func (.func gd) #[] cb), (7, .int .i64 l.length), (8, .int .i64 i)])
    (fun i w' => Ext w w' ∧ i ≤ l.length ∧ ∀ j (hj : j < l.length), j < i → p l[j] = false) (fun i => l.length - i) 0 ⟨rfl, rfl, rfl, rfl, trivial⟩
    ⟨Ext.refl _, Nat.zero_le _, fun j _ hj => absurd hj (Nat.not_lt_zero _)⟩ ?_
  rintro i w1 ⟨e1, hi, hall⟩
  refine brE_dec (fun hlt => ?_) (fun hge => ?_)
  · have hlt : i < l.length := by have : (i : Int) < (l.length : Nat) := hlt; omega
    obtain ⟨b, o, hA, hc⟩ := Reads.int (hr.ext e1) hlt
    refine ⟨i, b, o, rfl, hlt, hA, ?_⟩
    refine ⟨_, by simpa using hc, ?_⟩
    refine brE_true hgd ?_
    refine (hdel l[i] w1 e1).mono ?_
    rintro v w2 ⟨rfl, e2⟩
    refine brE_mk (fun h2 => ?_) (fun h2 => ?_)
    · exact ⟨.inr ⟨i, rfl, hlt, h2, hall⟩, e1.trans e2⟩
    · refine ⟨((i + 1 : Nat) : Int), fit ⟨by omega, by omega⟩, ?_⟩
      refine ⟨i + 1, ⟨rfl, rfl, rfl, rfl, trivial⟩, ⟨e1.trans e2, hlt, fun j hj hji => ?_⟩, by omega⟩
      rcases Nat.lt_or_ge j i with h | h
      · exact hall j hj h
      · obtain rfl : j = i := by omega
        exact h2
  · have : i = l.length := by have : ¬ (i : Int) < (l.length : Nat) := hge; omega
    subst this
    refine ⟨.inl ⟨rfl, fun x hx => ?_⟩, e1⟩
    obtain ⟨j, hj, rfl⟩ := List.getElem_of_mem hx
    exact hall j hj hj

theorem livingL_length (c : List Fact) (k s cl : Int) : (livingL c k s cl).length ≤ c.length := Nat.le_trans (sortD_length _) (fm_length _ _ _)

end Go.Proofs.YtcnbpfecgokhiaaGreatDoor

namespace Go.Proofs.YtcnbpfecgokhiaaGreatDoor
open Go.Eng Go.RowKit

theorem recog_mem {c : List Fact} {host s p : Int} (h : recogL c host s = (p, true)) : p ∈ livingL c 2 s 1 := by
  have hsub : ∀ q ∈ chosenL c host s, q ∈ livingL c 2 s 1 := by
    intro q hq
    unfold chosenL at hq
    split at hq
    · exact (List.mem_filter.1 hq).1
    · exact hq
  unfold recogL at h
  split at h
  · rename_i q hq
    injection h with h _
    subst h
    exact hsub q (by rw [hq]; simp)
  · injection h with _ h; cases h
theorem heldB_one {c : List Fact} {host p s : Int} (h : p ∉ livingL c 2 s 1) : heldB c host p s 1 = false := by
  unfold heldB
  rw [if_pos rfl, decide_eq_false fun e => h (recog_mem e)]

abbrev classes : List Int := [1, 2, 3, 4]
theorem classes_drop {n : Nat} (h : n < 4) : classes.drop n = ((n + 1 : Nat) : Int) :: classes.drop (n + 1) := by
  have : n = 0 ∨ n = 1 ∨ n = 2 ∨ n = 3 := by omega
  rcases this with rfl | rfl | rfl | rfl <;> rfl

theorem HoldsClass_spec {w : World} {A : Option Addr} {l : List Fact} {c : Nat} (h : HF w A l c) (hl : l.length ≤ 2 ^ 20) (k day p s : Int) :
    CallsV C.P 133 #[.slice A l.length c, .int .i64 k, .int .i64 day, .int .i64 p, .int .i64 s] w fun v w' => v = .int .i64 (leastL (atL k day l) p s) ∧ Ext w w' := by
  refine callsV_of C_ok (args := [_, _, _, _, _]) (plans := []) Tryz.func133 rfl Tryz.ntmps133 (by kernel_rfl) (Nat.le_of_ble_eq_true rfl) ?_
  refine (look_spec h hl k day).mono ?_
  rintro v w1 ⟨hK, e1⟩
  have hkl := atL_length k day l
  generalize atL k day l = K at *
  obtain ⟨AK, cK, rfl, hrK, _⟩ := hK.slice
  have hKl : K.length ≤ 2 ^ 20 := by omega
  unfold leastL
  refine loopE C_ok (fun (n : Nat) => [(3, .int .i64 p), (4, .int .i64 s), (11, .slice AK K.length cK), (12, .int .i64 ((n + 1 : Nat) : Int))])
    (fun n w' => n ≤ 4 ∧ Ext w1 w' ∧ leastAt K p s classes = leastAt K p s (classes.drop n)) (fun n => 4 - n) 0
    ⟨rfl, rfl, rfl, rfl, trivial⟩ ⟨Nat.zero_le _, Ext.refl _, rfl⟩ ?_
  rintro n w2 ⟨hn, e2, hc⟩
  refine brE_dec (fun hlt => ?_) (fun hge => ?_)
  case' refine_2 =>
    have : n = 4 := by have : ¬ ((n + 1 : Nat) : Int) < 5 := hge; omega
    subst this
    exact ⟨by rw [hc]; rfl, e1.trans e2⟩
  have hlt : n < 4 := by have : ((n + 1 : Nat) : Int) < 5 := hlt; omega
  have next : IntKind.i64.wrap (((n + 1 : Nat) : Int) + 1) = ((n + 1 + 1 : Nat) : Int) := by rw [fit ⟨by omega, by omega⟩]; omega
  have hd : leastAt K p s (classes.drop n) = if (decide (p ∈ livingL K 2 s ((n + 1 : Nat) : Int)) || actsB K p s ((n + 1 : Nat) : Int)) = true then ((n + 1 : Nat) : Int) else leastAt K p s (classes.drop (n + 1)) := by
    rw [classes_drop hlt]; rfl
  rw [hd] at hc
  refine (living_spec (hrK.ext e2) hKl 2 s ((n + 1 : Nat) : Int)).mono ?_
  rintro v w3 ⟨ho3, e3⟩
  have hl3 := livingL_length K 2 s ((n + 1 : Nat) : Int)
  obtain ⟨A3, k3, rfl, hr3, _⟩ := ho3.slice
  refine (ContainsI_spec hr3 (by omega) p).mono ?_
  rintro v w4 ⟨rfl, rfl⟩
  have e23 := e2.trans e3
  refine brE_mk (fun t => ?_) (fun t => ?_)
  · rw [t, Bool.true_or, if_pos rfl] at hc
    exact ⟨by rw [hc], e1.trans e23⟩
  rw [t, Bool.false_or] at hc
  refine (living_spec (hrK.ext e23) hKl 3 s ((n + 1 : Nat) : Int)).mono ?_
  rintro v w6 ⟨ho6, e6⟩
  have hl6 := livingL_length K 3 s ((n + 1 : Nat) : Int)
  obtain ⟨A6, k6, rfl, hr6, _⟩ := ho6.slice
  refine (ContainsI_spec hr6 (by omega) p).mono ?_
  rintro v w7 ⟨rfl, rfl⟩
  refine brE_mk (fun u => ?_) (fun u => ?_)
  · rw [show actsB K p s ((n + 1 : Nat) : Int) = true from u, if_pos rfl] at hc
    exact ⟨by rw [hc], (e1.trans e23).trans e6⟩
  · rw [show actsB K p s ((n + 1 : Nat) : Int) = false from u, if_neg (by decide)] at hc
    refine ⟨_, next, ?_⟩
    exact ⟨n + 1, ⟨rfl, rfl, rfl, rfl, trivial⟩, ⟨hlt, e23.trans e6, hc⟩, by omega⟩

def contB (K : List Fact) (x : Fact) : Bool := decide (x.kind = 2 ∧ x.other = 1) && decide (1 < (livingL K 2 x.what 1).length)
theorem contestedL_eq (K : List Fact) : contestedL K = sortD ((K.filter (contB K)).map Fact.what) := rfl

end Go.Proofs.YtcnbpfecgokhiaaGreatDoor
