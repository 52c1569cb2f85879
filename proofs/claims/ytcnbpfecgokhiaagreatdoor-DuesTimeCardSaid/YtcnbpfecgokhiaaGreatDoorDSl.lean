/- a part of the proof: steps, walks and plain laws that the law below stands on; no condition. -/
import Derived.Test.YtcnbpfecgokhiaaGreatDoorDSa
import Derived.Test.YtcnbpfecgokhiaaGreatDoorDSb
import Derived.Test.YtcnbpfecgokhiaaGreatDoorDSc
import Derived.Test.YtcnbpfecgokhiaaGreatDoorDSd
import Derived.Test.YtcnbpfecgokhiaaGreatDoorDSe
import Derived.Test.YtcnbpfecgokhiaaGreatDoorDSf
import Derived.Test.YtcnbpfecgokhiaaGreatDoorDSg
import Derived.Test.YtcnbpfecgokhiaaGreatDoorDSh
import Derived.Test.YtcnbpfecgokhiaaGreatDoorDSi
import Derived.Test.YtcnbpfecgokhiaaGreatDoorDSj
import Derived.Test.YtcnbpfecgokhiaaGreatDoorDSk
import Derived.Scope
import Derived.Laws.StructEq
import Derived.Sort.Walk0
import Derived.Ground.SlsfProg
set_option linter.unusedVariables false
set_option linter.unusedSimpArgs false
set_option linter.unnecessarySimpa false
set_option linter.unusedSectionVars false
namespace Go.Proofs.YtcnbpfecgokhiaaGreatDoor
open Go.Eng Go.RowKit
def plainF (x : Fact) : Fact := ⟨x.id, x.known, x.kind, 0, 0, 0, x.since, x.til, ⟨#[]⟩⟩
set_option maxRecDepth 100000 in
theorem plain_spec (x : Fact) (w : World) : CallsV C.P 193 #[x.val] w fun v w' => v = (plainF x).val ∧ Ext w w' := by
  refine callsV_of C_ok (args := [_]) (plans := []) Tryz.func193 rfl Tryz.ntmps193 (by kernel_rfl) (Nat.le_of_ble_eq_true rfl) ?_
  intro g1 w1 h1
  have M1 : Mem w w1 [(g1, .cells x.cells.toArray 81 (0, 0))] := (Mem.start w).alloc h1
  intro g2 w2 h2
  have M2 := M1.alloc h2
  refine ⟨_, M2.cell 1 rfl rfl, ?_⟩
  refine ⟨_, M2.cell 1 rfl rfl, ?_⟩
  refine ⟨_, M2.cell 1 rfl rfl, ?_⟩
  refine ⟨_, M2.cell 1 rfl rfl, ?_⟩
  refine ⟨_, M2.cell 1 rfl rfl, ?_⟩
  refine ⟨rfl, _, _, M2.get 0 rfl, Nat.le_of_ble_eq_true rfl, rfl, ?_⟩
  intro w3 h3
  have M3 : Mem w w3 [(g2, .cells (plainF x).cells.toArray 81 (0, 0)), (g1, .cells x.cells.toArray 81 (0, 0))] := M2.put 0 rfl h3
  exact ⟨(plainF x).cells, rfl, M3.rd 0 rfl, rfl, M3.ext⟩
def daysB (x : Fact) : Bool := dayB x.known && dayB x.since && (decide (x.til = 0) || decide (x.since < x.til ∧ x.til ≤ 100000))
theorem head_days (x : Fact) : headB x = (decide (1 ≤ x.kind ∧ x.kind ≤ 11) && (daysB x && idB x.id)) := by
  unfold headB daysB
  generalize decide (1 ≤ x.kind ∧ x.kind ≤ 11) = a
  generalize idB x.id = b
  generalize dayB x.known = c
  generalize dayB x.since = d
  generalize (decide (x.til = 0) || decide (x.since < x.til ∧ x.til ≤ 100000)) = e
  revert a b c d e
  decide
/-- What stands for each kind: whether the fields are right, and what the fact must be. -/
def refOk (x : Fact) : Bool :=
  if x.kind = 1 then idB x.who && decide (1 ≤ x.other ∧ x.other ≤ 3)
  else if x.kind = 2 ∨ x.kind = 3 then idB x.who && (idB x.what && decide (1 ≤ x.other ∧ x.other ≤ 4))
  else if x.kind = 4 then idB x.who && (idB x.what && idB x.other)
  else if x.kind = 5 then idB x.who && idB x.what
  else if x.kind = 6 ∨ x.kind = 9 then idB x.who && (idB x.other && !decide (x.other = x.who))
  else if x.kind = 7 then idB x.who
  else if x.kind = 8 then idB x.who && (idB x.what && decide (1 ≤ x.other ∧ x.other ≤ 2))
  else if x.kind = 10 then idB x.who && decide (x.til = 0)
  else if x.kind = 11 then idB x.what && (!decide (x.what = x.id) && (decide (x.since = 0) && decide (x.til = 0)))
  else false
def refY (x : Fact) : Fact :=
  if x.kind = 1 then { plainF x with who := x.who, other := x.other, name := x.name }
  else if x.kind = 2 ∨ x.kind = 3 ∨ x.kind = 4 ∨ x.kind = 8 then { plainF x with who := x.who, what := x.what, other := x.other }
  else if x.kind = 5 then { plainF x with who := x.who, what := x.what }
  else if x.kind = 6 ∨ x.kind = 9 then { plainF x with who := x.who, other := x.other }
  else if x.kind = 7 ∨ x.kind = 10 then { plainF x with who := x.who }
  else if x.kind = 11 then { plainF x with what := x.what }
  else plainF x
theorem ref_fin {x : Fact} (h1 : 1 ≤ x.kind) (h2 : x.kind ≤ 11) : (refOk x && decide (x = refY x)) = (restB x && rightB x) := by
  obtain ⟨x0, x1, x2, x3, x4, x5, x6, x7, x8⟩ := x
  have h1 : 1 ≤ x2 := h1
  have h2 : x2 ≤ 11 := h2
  have cases : x2 = 1 ∨ x2 = 2 ∨ x2 = 3 ∨ x2 = 4 ∨ x2 = 5 ∨ x2 = 6 ∨ x2 = 7 ∨ x2 = 8 ∨ x2 = 9 ∨ x2 = 10 ∨ x2 = 11 := by omega
  rw [Bool.eq_iff_iff]
  rcases cases with rfl | rfl | rfl | rfl | rfl | rfl | rfl | rfl | rfl | rfl | rfl <;> simp [refOk, refY, plainF, restB, rightB, offs, Fact.mk.injEq] <;> (try constructor) <;> intros <;> simp_all <;> omega
theorem form_ref {x : Fact} (hh : headB x = true) : formE x = if (refOk x && decide (x = refY x)) = true then (if x.kind = 1 ∧ nameB x.name.data.toList = false then 4 else 0) else 1 := by
  have hk := (headB_iff.1 hh).1
  unfold formE
  rw [ref_fin hk.1 hk.2, hh, Bool.true_and]
theorem ref_kind {x : Fact} (h : refOk x = true) : 1 ≤ x.kind ∧ x.kind ≤ 11 := by
  unfold refOk at h
  by_cases h0 : 1 ≤ x.kind ∧ x.kind ≤ 11
  · exact h0
  · rw [if_neg (by omega), if_neg (by omega), if_neg (by omega), if_neg (by omega), if_neg (by omega), if_neg (by omega), if_neg (by omega), if_neg (by omega), if_neg (by omega)] at h
    cases h
set_option maxRecDepth 100000 in
set_option maxHeartbeats 2000000 in
theorem refFormed_spec (x : Fact) (hx : x.Nums) (w : World) : CallsV C.P 167 #[x.val] w fun v w' => v = .int .i64 (formE x) ∧ Ext w w' := by
  refine callsV_ofS (args := [_]) Tryz.func167 rfl Tryz.ntmps167 C_ok (Nat.le_of_ble_eq_true rfl) ?_
  refine Snd.go C_ok plans167 (by kernel_rfl) ?_
  intro g1 w1 h1
  have M1 : Mem w w1 [(g1, .cells x.cells.toArray 81 (0, 0))] := (Mem.start w).alloc h1
  refine ⟨Snd.join C_ok plans167 (fun b : Bool => [(1, .pointer (some ⟨g1, 0, none⟩)), (3, .bool b)]) (fun b w' => w' = w1 ∧ b = daysB x) (by kernel_rfl) ?_ ?_⟩
  · refine ⟨_, M1.cell 0 rfl rfl, ?_⟩
    refine (within_spec x.known 0 100000 _).mono ?_
    rintro _ w2 ⟨rfl, rfl⟩
    refine brE_dec (fun a1 => ?_) (fun a1 => ?_)
    · have a1 : 0 ≤ x.known ∧ x.known ≤ 100000 := a1
      refine ⟨_, M1.cell 0 rfl rfl, ?_⟩
      refine (within_spec x.since 0 100000 _).mono ?_
      rintro _ w2 ⟨rfl, rfl⟩
      refine brE_dec (fun a2 => ?_) (fun a2 => ?_)
      · have a2 : 0 ≤ x.since ∧ x.since ≤ 100000 := a2
        refine ⟨_, M1.cell 0 rfl rfl, ?_⟩
        refine brE_dec (fun a3 => ?_) (fun a3 => ?_)
        · have a3 : x.til = 0 := a3
          refine ⟨true, ⟨rfl, rfl, trivial⟩, rfl, ?_⟩
          simp [daysB, dayB, a1, a2, a3]
        · have a3 : ¬ x.til = 0 := a3
          refine ⟨_, M1.cell 0 rfl rfl, ?_⟩
          refine ⟨_, M1.cell 0 rfl rfl, ?_⟩
          refine brE_dec (fun a4 => ?_) (fun a4 => ?_)
          · have a4 : x.til > x.since := a4
            refine ⟨_, M1.cell 0 rfl rfl, ?_⟩
            refine ⟨decide (x.til ≤ 100000), ⟨rfl, rfl, trivial⟩, rfl, ?_⟩
            have a5 : x.since < x.til := a4
            simp [daysB, dayB, a1, a2, a3, a5]
          · have a4 : ¬ x.since < x.til := a4
            refine ⟨false, ⟨rfl, rfl, trivial⟩, rfl, ?_⟩
            simp [daysB, dayB, a1, a2, a3, a4]
      · have a2 : ¬ (0 ≤ x.since ∧ x.since ≤ 100000) := a2
        refine ⟨false, ⟨rfl, rfl, trivial⟩, rfl, ?_⟩
        unfold daysB dayB
        rw [decide_eq_false a2]; simp
    · have a1 : ¬ (0 ≤ x.known ∧ x.known ≤ 100000) := a1
      refine ⟨false, ⟨rfl, rfl, trivial⟩, rfl, ?_⟩
      unfold daysB dayB
      rw [decide_eq_false a1]; simp
  rintro b w2 ⟨rfl, hb⟩
  refine Snd.go C_ok plans167 (by kernel_rfl) ?_
  refine ⟨_, M1.cell 0 rfl rfl, ?_⟩
  refine (refId_spec x.id _).mono ?_
  rintro _ w3 ⟨rfl, rfl⟩
  refine ⟨Snd.go C_ok plans167 (by kernel_rfl) ?_⟩
  have bad : ∀ {w' : World}, (headB x = true → False) → Ext w w' → Value.int .i64 1 = .int .i64 (formE x) ∧ Ext w w' := fun h e => ⟨by rw [formE_head (headB_no h)], e⟩
  refine brE_mk (fun a1 => ?_) (fun a1 => ?_)
  · exact bad (fun h => by rw [head_days, ← hb] at h; cases b <;> simp at a1 h) M1.ext
  have a1 : daysB x = true := by rw [← hb]; simpa using a1
  refine brE_mk (fun a2 => ?_) (fun a2 => ?_)
  · exact bad (fun h => by rw [head_days] at h; cases hi : idB x.id <;> rw [hi] at a2 h <;> simp at a2 h) M1.ext
  have a2 : idB x.id = true := by simpa using a2
  have hhead : (1 ≤ x.kind ∧ x.kind ≤ 11) → headB x = true := fun h => by rw [head_days, a1, a2, decide_eq_true h]; rfl
  clear bad
  refine ⟨Snd.go C_ok plans167 (by kernel_rfl) ?_⟩
  refine ⟨_, M1.cell 0 rfl rfl, ?_⟩
  refine (refId_spec x.who _).mono ?_
  rintro _ w3 ⟨rfl, rfl⟩
  refine ⟨Snd.go C_ok plans167 (by kernel_rfl) ?_⟩
  refine ⟨_, M1.cell 0 rfl rfl, ?_⟩
  refine (refId_spec x.what _).mono ?_
  rintro _ w3 ⟨rfl, rfl⟩
  refine ⟨Snd.go C_ok plans167 (by kernel_rfl) ?_⟩
  refine ⟨_, M1.cell 0 rfl rfl, ?_⟩
  refine (refId_spec x.other _).mono ?_
  rintro _ w3 ⟨rfl, rfl⟩
  refine ⟨Snd.go C_ok plans167 (by kernel_rfl) ?_⟩
  refine ⟨x.cells, rfl, M1.rd 0 rfl, ?_⟩
  refine (plain_spec x _).mono ?_
  rintro _ w4 ⟨rfl, e4⟩
  have M4 := M1.grow e4
  intro g8 w5 h5
  have M5 := M4.alloc h5
  refine ⟨rfl, _, _, M5.get 0 rfl, Nat.le_of_ble_eq_true rfl, rfl, ?_⟩
  intro w6 h6
  have M6 : Mem w w6 [(g8, .cells (plainF x).cells.toArray 81 (0, 0)), (g1, .cells x.cells.toArray 81 (0, 0))] := M5.put 0 rfl h6
  have hne : g1 ≠ g8 := fun e => by
    have := M6.nodup
    simp [e] at this
  clear M5 M4 h5 h6 e4
  refine ⟨Snd.go C_ok plans167 (by kernel_rfl) ?_⟩
  refine ⟨Snd.join C_ok plans167 (fun ok : Bool => [(1, .pointer (some ⟨g1, 0, none⟩)), (8, .pointer (some ⟨g8, 0, none⟩)), (9, .bool ok)])
    (fun ok w' => ok = refOk x ∧ Mem w w' [(g8, .cells (refY x).cells.toArray 81 (0, 0)), (g1, .cells x.cells.toArray 81 (0, 0))]) (by kernel_rfl) ?_ ?_⟩
  · refine ⟨_, M6.cell 1 rfl rfl, ?_⟩
    refine brE_dec (fun k1 => ?_) (fun k1 => ?_)
    · have k1 : x.kind = 1 := k1
      refine ⟨fun k => k ≠ g8, ?_⟩
      refine ⟨_, M6.cell 1 rfl rfl, ?_⟩
      refine ⟨.int .i64 x.other, fun u hu => ⟨_, hu.cell hne (M6.cell 1 (i := 5) rfl rfl), rfl⟩, ?_⟩
      refine ⟨.string x.name, fun u hu => ⟨_, hu.cell hne (M6.cell 1 (i := 8) rfl rfl), rfl⟩, ?_⟩
      refine ⟨rfl, _, _, M6.get 0 rfl, Nat.le_of_ble_eq_true rfl, rfl, ?_⟩
      intro v0 s0
      have N0 := M6.put 0 rfl s0
      have kp0 : Keep (fun k => k ≠ g8) w6 v0 := (Keep.refl _ w6).put s0 (fun h => h rfl)
      refine ⟨kp0, ?_⟩
      refine ⟨rfl, _, _, N0.get 0 rfl, Nat.le_of_ble_eq_true rfl, rfl, ?_⟩
      intro v1 s1
      have N1 := N0.put 0 rfl s1
      have kp1 : Keep (fun k => k ≠ g8) w6 v1 := kp0.put s1 (fun h => h rfl)
      refine ⟨kp1, ?_⟩
      refine ⟨rfl, _, _, N1.get 0 rfl, Nat.le_of_ble_eq_true rfl, rfl, ?_⟩
      intro v2 s2
      have N2 := N1.put 0 rfl s2
      refine brE_mk (fun t_who => ?_) (fun t_who => ?_)
      · have t_who : idB x.who = true := t_who
        refine ⟨_, N2.cell 1 rfl rfl, ?_⟩
        refine (within_spec x.other 1 3 _).mono ?_
        rintro _ w8 ⟨rfl, rfl⟩
        exact ⟨decide (1 ≤ x.other ∧ x.other ≤ 3), ⟨rfl, rfl, rfl, trivial⟩, by simp [refOk, k1, t_who], by unfold refY; simp only [k1, reduceIte, Int.reduceEq, or_true, true_or, or_false, or_self, false_or]; exact N2⟩
      · have t_who : idB x.who = false := t_who
        exact ⟨false, ⟨rfl, rfl, rfl, trivial⟩, by simp [refOk, k1, t_who], by unfold refY; simp only [k1, reduceIte, Int.reduceEq, or_true, true_or, or_false, or_self, false_or]; exact N2⟩
    have k1 : ¬ x.kind = 1 := k1
    refine brE_dec (fun k2 => ?_) (fun k2 => ?_)
    · have k2 : x.kind = 2 := k2
      refine brE_true (decide_eq_true k2) ?_
      refine ⟨fun k => k ≠ g8, ?_⟩
      refine ⟨_, M6.cell 1 rfl rfl, ?_⟩
      refine ⟨.int .i64 x.what, fun u hu => ⟨_, hu.cell hne (M6.cell 1 (i := 4) rfl rfl), rfl⟩, ?_⟩
      refine ⟨.int .i64 x.other, fun u hu => ⟨_, hu.cell hne (M6.cell 1 (i := 5) rfl rfl), rfl⟩, ?_⟩
      refine ⟨rfl, _, _, M6.get 0 rfl, Nat.le_of_ble_eq_true rfl, rfl, ?_⟩
      intro v0 s0
      have N0 := M6.put 0 rfl s0
      have kp0 : Keep (fun k => k ≠ g8) w6 v0 := (Keep.refl _ w6).put s0 (fun h => h rfl)
      refine ⟨kp0, ?_⟩
      refine ⟨rfl, _, _, N0.get 0 rfl, Nat.le_of_ble_eq_true rfl, rfl, ?_⟩
      intro v1 s1
      have N1 := N0.put 0 rfl s1
      have kp1 : Keep (fun k => k ≠ g8) w6 v1 := kp0.put s1 (fun h => h rfl)
      refine ⟨kp1, ?_⟩
      refine ⟨rfl, _, _, N1.get 0 rfl, Nat.le_of_ble_eq_true rfl, rfl, ?_⟩
      intro v2 s2
      have N2 := N1.put 0 rfl s2
      refine brE_mk (fun t_who => ?_) (fun t_who => ?_)
      · have t_who : idB x.who = true := t_who
        refine brE_mk (fun t_what => ?_) (fun t_what => ?_)
        · have t_what : idB x.what = true := t_what
          refine ⟨_, N2.cell 1 rfl rfl, ?_⟩
          refine (within_spec x.other 1 4 _).mono ?_
          rintro _ w8 ⟨rfl, rfl⟩
          exact ⟨decide (1 ≤ x.other ∧ x.other ≤ 4), ⟨rfl, rfl, rfl, trivial⟩, by simp [refOk, k2, t_who, t_what], by unfold refY; simp only [k2, reduceIte, Int.reduceEq, or_true, true_or, or_false, or_self, false_or]; exact N2⟩
        · have t_what : idB x.what = false := t_what
          exact ⟨false, ⟨rfl, rfl, rfl, trivial⟩, by simp [refOk, k2, t_who, t_what], by unfold refY; simp only [k2, reduceIte, Int.reduceEq, or_true, true_or, or_false, or_self, false_or]; exact N2⟩
      · have t_who : idB x.who = false := t_who
        exact ⟨false, ⟨rfl, rfl, rfl, trivial⟩, by simp [refOk, k2, t_who], by unfold refY; simp only [k2, reduceIte, Int.reduceEq, or_true, true_or, or_false, or_self, false_or]; exact N2⟩
    have k2 : ¬ x.kind = 2 := k2
    refine brE_dec (fun k3 => ?_) (fun k3 => ?_)
    · have k3 : x.kind = 3 := k3
      refine ⟨fun k => k ≠ g8, ?_⟩
      refine ⟨_, M6.cell 1 rfl rfl, ?_⟩
      refine ⟨.int .i64 x.what, fun u hu => ⟨_, hu.cell hne (M6.cell 1 (i := 4) rfl rfl), rfl⟩, ?_⟩
      refine ⟨.int .i64 x.other, fun u hu => ⟨_, hu.cell hne (M6.cell 1 (i := 5) rfl rfl), rfl⟩, ?_⟩
      refine ⟨rfl, _, _, M6.get 0 rfl, Nat.le_of_ble_eq_true rfl, rfl, ?_⟩
      intro v0 s0
      have N0 := M6.put 0 rfl s0
      have kp0 : Keep (fun k => k ≠ g8) w6 v0 := (Keep.refl _ w6).put s0 (fun h => h rfl)
      refine ⟨kp0, ?_⟩
      refine ⟨rfl, _, _, N0.get 0 rfl, Nat.le_of_ble_eq_true rfl, rfl, ?_⟩
      intro v1 s1
      have N1 := N0.put 0 rfl s1
      have kp1 : Keep (fun k => k ≠ g8) w6 v1 := kp0.put s1 (fun h => h rfl)
      refine ⟨kp1, ?_⟩
      refine ⟨rfl, _, _, N1.get 0 rfl, Nat.le_of_ble_eq_true rfl, rfl, ?_⟩
      intro v2 s2
      have N2 := N1.put 0 rfl s2
      refine brE_mk (fun t_who => ?_) (fun t_who => ?_)
      · have t_who : idB x.who = true := t_who
        refine brE_mk (fun t_what => ?_) (fun t_what => ?_)
        · have t_what : idB x.what = true := t_what
          refine ⟨_, N2.cell 1 rfl rfl, ?_⟩
          refine (within_spec x.other 1 4 _).mono ?_
          rintro _ w8 ⟨rfl, rfl⟩
          exact ⟨decide (1 ≤ x.other ∧ x.other ≤ 4), ⟨rfl, rfl, rfl, trivial⟩, by simp [refOk, k3, t_who, t_what], by unfold refY; simp only [k3, reduceIte, Int.reduceEq, or_true, true_or, or_false, or_self, false_or]; exact N2⟩
        · have t_what : idB x.what = false := t_what
          exact ⟨false, ⟨rfl, rfl, rfl, trivial⟩, by simp [refOk, k3, t_who, t_what], by unfold refY; simp only [k3, reduceIte, Int.reduceEq, or_true, true_or, or_false, or_self, false_or]; exact N2⟩
      · have t_who : idB x.who = false := t_who
        exact ⟨false, ⟨rfl, rfl, rfl, trivial⟩, by simp [refOk, k3, t_who], by unfold refY; simp only [k3, reduceIte, Int.reduceEq, or_true, true_or, or_false, or_self, false_or]; exact N2⟩
    have k3 : ¬ x.kind = 3 := k3
    refine brE_dec (fun k4 => ?_) (fun k4 => ?_)
    · have k4 : x.kind = 4 := k4
      refine ⟨fun k => k ≠ g8, ?_⟩
      refine ⟨_, M6.cell 1 rfl rfl, ?_⟩
      refine ⟨.int .i64 x.what, fun u hu => ⟨_, hu.cell hne (M6.cell 1 (i := 4) rfl rfl), rfl⟩, ?_⟩
      refine ⟨.int .i64 x.other, fun u hu => ⟨_, hu.cell hne (M6.cell 1 (i := 5) rfl rfl), rfl⟩, ?_⟩
      refine ⟨rfl, _, _, M6.get 0 rfl, Nat.le_of_ble_eq_true rfl, rfl, ?_⟩
      intro v0 s0
      have N0 := M6.put 0 rfl s0
      have kp0 : Keep (fun k => k ≠ g8) w6 v0 := (Keep.refl _ w6).put s0 (fun h => h rfl)
      refine ⟨kp0, ?_⟩
      refine ⟨rfl, _, _, N0.get 0 rfl, Nat.le_of_ble_eq_true rfl, rfl, ?_⟩
      intro v1 s1
      have N1 := N0.put 0 rfl s1
      have kp1 : Keep (fun k => k ≠ g8) w6 v1 := kp0.put s1 (fun h => h rfl)
      refine ⟨kp1, ?_⟩
      refine ⟨rfl, _, _, N1.get 0 rfl, Nat.le_of_ble_eq_true rfl, rfl, ?_⟩
      intro v2 s2
      have N2 := N1.put 0 rfl s2
      refine brE_mk (fun t_who => ?_) (fun t_who => ?_)
      · have t_who : idB x.who = true := t_who
        refine brE_mk (fun t_what => ?_) (fun t_what => ?_)
        · have t_what : idB x.what = true := t_what
          exact ⟨idB x.other, ⟨rfl, rfl, rfl, trivial⟩, by simp [refOk, k4, t_who, t_what], by unfold refY; simp only [k4, reduceIte, Int.reduceEq, or_true, true_or, or_false, or_self, false_or]; exact N2⟩
        · have t_what : idB x.what = false := t_what
          exact ⟨false, ⟨rfl, rfl, rfl, trivial⟩, by simp [refOk, k4, t_who, t_what], by unfold refY; simp only [k4, reduceIte, Int.reduceEq, or_true, true_or, or_false, or_self, false_or]; exact N2⟩
      · have t_who : idB x.who = false := t_who
        exact ⟨false, ⟨rfl, rfl, rfl, trivial⟩, by simp [refOk, k4, t_who], by unfold refY; simp only [k4, reduceIte, Int.reduceEq, or_true, true_or, or_false, or_self, false_or]; exact N2⟩
    have k4 : ¬ x.kind = 4 := k4
    refine brE_dec (fun k5 => ?_) (fun k5 => ?_)
    · have k5 : x.kind = 5 := k5
      refine ⟨fun k => k ≠ g8, ?_⟩
      refine ⟨_, M6.cell 1 rfl rfl, ?_⟩
      refine ⟨.int .i64 x.what, fun u hu => ⟨_, hu.cell hne (M6.cell 1 (i := 4) rfl rfl), rfl⟩, ?_⟩
      refine ⟨rfl, _, _, M6.get 0 rfl, Nat.le_of_ble_eq_true rfl, rfl, ?_⟩
      intro v0 s0
      have N0 := M6.put 0 rfl s0
      have kp0 : Keep (fun k => k ≠ g8) w6 v0 := (Keep.refl _ w6).put s0 (fun h => h rfl)
      refine ⟨kp0, ?_⟩
      refine ⟨rfl, _, _, N0.get 0 rfl, Nat.le_of_ble_eq_true rfl, rfl, ?_⟩
      intro v1 s1
      have N1 := N0.put 0 rfl s1
      refine brE_mk (fun t_who => ?_) (fun t_who => ?_)
      · have t_who : idB x.who = true := t_who
        exact ⟨idB x.what, ⟨rfl, rfl, rfl, trivial⟩, by simp [refOk, k5, t_who], by unfold refY; simp only [k5, reduceIte, Int.reduceEq, or_true, true_or, or_false, or_self, false_or]; exact N1⟩
      · have t_who : idB x.who = false := t_who
        exact ⟨false, ⟨rfl, rfl, rfl, trivial⟩, by simp [refOk, k5, t_who], by unfold refY; simp only [k5, reduceIte, Int.reduceEq, or_true, true_or, or_false, or_self, false_or]; exact N1⟩
    have k5 : ¬ x.kind = 5 := k5
    refine brE_dec (fun k6 => ?_) (fun k6 => ?_)
    · have k6 : x.kind = 6 := k6
      refine brE_true (decide_eq_true k6) ?_
      refine ⟨fun k => k ≠ g8, ?_⟩
      refine ⟨_, M6.cell 1 rfl rfl, ?_⟩
      refine ⟨.int .i64 x.other, fun u hu => ⟨_, hu.cell hne (M6.cell 1 (i := 5) rfl rfl), rfl⟩, ?_⟩
      refine ⟨rfl, _, _, M6.get 0 rfl, Nat.le_of_ble_eq_true rfl, rfl, ?_⟩
      intro v0 s0
      have N0 := M6.put 0 rfl s0
      have kp0 : Keep (fun k => k ≠ g8) w6 v0 := (Keep.refl _ w6).put s0 (fun h => h rfl)
      refine ⟨kp0, ?_⟩
      refine ⟨rfl, _, _, N0.get 0 rfl, Nat.le_of_ble_eq_true rfl, rfl, ?_⟩
      intro v1 s1
      have N1 := N0.put 0 rfl s1
      refine brE_mk (fun t_who => ?_) (fun t_who => ?_)
      · have t_who : idB x.who = true := t_who
        refine brE_mk (fun t_other => ?_) (fun t_other => ?_)
        · have t_other : idB x.other = true := t_other
          refine ⟨_, N1.cell 1 rfl rfl, ?_⟩
          refine ⟨_, N1.cell 1 rfl rfl, ?_⟩
          exact ⟨(!decide (x.other = x.who)), ⟨rfl, rfl, rfl, trivial⟩, by simp [refOk, k6, t_who, t_other], by unfold refY; simp only [k6, reduceIte, Int.reduceEq, or_true, true_or, or_false, or_self, false_or]; exact N1⟩
        · have t_other : idB x.other = false := t_other
          exact ⟨false, ⟨rfl, rfl, rfl, trivial⟩, by simp [refOk, k6, t_who, t_other], by unfold refY; simp only [k6, reduceIte, Int.reduceEq, or_true, true_or, or_false, or_self, false_or]; exact N1⟩
      · have t_who : idB x.who = false := t_who
        exact ⟨false, ⟨rfl, rfl, rfl, trivial⟩, by simp [refOk, k6, t_who], by unfold refY; simp only [k6, reduceIte, Int.reduceEq, or_true, true_or, or_false, or_self, false_or]; exact N1⟩
    have k6 : ¬ x.kind = 6 := k6
    refine brE_dec (fun k9 => ?_) (fun k9 => ?_)
    · have k9 : x.kind = 9 := k9
      refine ⟨fun k => k ≠ g8, ?_⟩
      refine ⟨_, M6.cell 1 rfl rfl, ?_⟩
      refine ⟨.int .i64 x.other, fun u hu => ⟨_, hu.cell hne (M6.cell 1 (i := 5) rfl rfl), rfl⟩, ?_⟩
      refine ⟨rfl, _, _, M6.get 0 rfl, Nat.le_of_ble_eq_true rfl, rfl, ?_⟩
      intro v0 s0
      have N0 := M6.put 0 rfl s0
      have kp0 : Keep (fun k => k ≠ g8) w6 v0 := (Keep.refl _ w6).put s0 (fun h => h rfl)
      refine ⟨kp0, ?_⟩
      refine ⟨rfl, _, _, N0.get 0 rfl, Nat.le_of_ble_eq_true rfl, rfl, ?_⟩
      intro v1 s1
      have N1 := N0.put 0 rfl s1
      refine brE_mk (fun t_who => ?_) (fun t_who => ?_)
      · have t_who : idB x.who = true := t_who
        refine brE_mk (fun t_other => ?_) (fun t_other => ?_)
        · have t_other : idB x.other = true := t_other
          refine ⟨_, N1.cell 1 rfl rfl, ?_⟩
          refine ⟨_, N1.cell 1 rfl rfl, ?_⟩
          exact ⟨(!decide (x.other = x.who)), ⟨rfl, rfl, rfl, trivial⟩, by simp [refOk, k9, t_who, t_other], by unfold refY; simp only [k9, reduceIte, Int.reduceEq, or_true, true_or, or_false, or_self, false_or]; exact N1⟩
        · have t_other : idB x.other = false := t_other
          exact ⟨false, ⟨rfl, rfl, rfl, trivial⟩, by simp [refOk, k9, t_who, t_other], by unfold refY; simp only [k9, reduceIte, Int.reduceEq, or_true, true_or, or_false, or_self, false_or]; exact N1⟩
      · have t_who : idB x.who = false := t_who
        exact ⟨false, ⟨rfl, rfl, rfl, trivial⟩, by simp [refOk, k9, t_who], by unfold refY; simp only [k9, reduceIte, Int.reduceEq, or_true, true_or, or_false, or_self, false_or]; exact N1⟩
    have k9 : ¬ x.kind = 9 := k9
    refine brE_dec (fun k7 => ?_) (fun k7 => ?_)
    · have k7 : x.kind = 7 := k7
      refine ⟨_, M6.cell 1 rfl rfl, ?_⟩
      refine ⟨rfl, _, _, M6.get 0 rfl, Nat.le_of_ble_eq_true rfl, rfl, ?_⟩
      intro v0 s0
      have N0 := M6.put 0 rfl s0
      exact ⟨idB x.who, ⟨rfl, rfl, rfl, trivial⟩, by simp [refOk, k7], by unfold refY; simp only [k7, reduceIte, Int.reduceEq, or_true, true_or, or_false, or_self, false_or]; exact N0⟩
    have k7 : ¬ x.kind = 7 := k7
    refine brE_dec (fun k8 => ?_) (fun k8 => ?_)
    · have k8 : x.kind = 8 := k8
      refine ⟨fun k => k ≠ g8, ?_⟩
      refine ⟨_, M6.cell 1 rfl rfl, ?_⟩
      refine ⟨.int .i64 x.what, fun u hu => ⟨_, hu.cell hne (M6.cell 1 (i := 4) rfl rfl), rfl⟩, ?_⟩
      refine ⟨.int .i64 x.other, fun u hu => ⟨_, hu.cell hne (M6.cell 1 (i := 5) rfl rfl), rfl⟩, ?_⟩
      refine ⟨rfl, _, _, M6.get 0 rfl, Nat.le_of_ble_eq_true rfl, rfl, ?_⟩
      intro v0 s0
      have N0 := M6.put 0 rfl s0
      have kp0 : Keep (fun k => k ≠ g8) w6 v0 := (Keep.refl _ w6).put s0 (fun h => h rfl)
      refine ⟨kp0, ?_⟩
      refine ⟨rfl, _, _, N0.get 0 rfl, Nat.le_of_ble_eq_true rfl, rfl, ?_⟩
      intro v1 s1
      have N1 := N0.put 0 rfl s1
      have kp1 : Keep (fun k => k ≠ g8) w6 v1 := kp0.put s1 (fun h => h rfl)
      refine ⟨kp1, ?_⟩
      refine ⟨rfl, _, _, N1.get 0 rfl, Nat.le_of_ble_eq_true rfl, rfl, ?_⟩
      intro v2 s2
      have N2 := N1.put 0 rfl s2
      refine brE_mk (fun t_who => ?_) (fun t_who => ?_)
      · have t_who : idB x.who = true := t_who
        refine brE_mk (fun t_what => ?_) (fun t_what => ?_)
        · have t_what : idB x.what = true := t_what
          refine ⟨_, N2.cell 1 rfl rfl, ?_⟩
          refine (within_spec x.other 1 2 _).mono ?_
          rintro _ w8 ⟨rfl, rfl⟩
          exact ⟨decide (1 ≤ x.other ∧ x.other ≤ 2), ⟨rfl, rfl, rfl, trivial⟩, by simp [refOk, k8, t_who, t_what], by unfold refY; simp only [k8, reduceIte, Int.reduceEq, or_true, true_or, or_false, or_self, false_or]; exact N2⟩
        · have t_what : idB x.what = false := t_what
          exact ⟨false, ⟨rfl, rfl, rfl, trivial⟩, by simp [refOk, k8, t_who, t_what], by unfold refY; simp only [k8, reduceIte, Int.reduceEq, or_true, true_or, or_false, or_self, false_or]; exact N2⟩
      · have t_who : idB x.who = false := t_who
        exact ⟨false, ⟨rfl, rfl, rfl, trivial⟩, by simp [refOk, k8, t_who], by unfold refY; simp only [k8, reduceIte, Int.reduceEq, or_true, true_or, or_false, or_self, false_or]; exact N2⟩
    have k8 : ¬ x.kind = 8 := k8
    refine brE_dec (fun k10 => ?_) (fun k10 => ?_)
    · have k10 : x.kind = 10 := k10
      refine ⟨_, M6.cell 1 rfl rfl, ?_⟩
      refine ⟨rfl, _, _, M6.get 0 rfl, Nat.le_of_ble_eq_true rfl, rfl, ?_⟩
      intro v0 s0
      have N0 := M6.put 0 rfl s0
      refine brE_mk (fun t_who => ?_) (fun t_who => ?_)
      · have t_who : idB x.who = true := t_who
        refine ⟨_, N0.cell 1 rfl rfl, ?_⟩
        exact ⟨(decide (x.til = 0)), ⟨rfl, rfl, rfl, trivial⟩, by simp [refOk, k10, t_who], by unfold refY; simp only [k10, reduceIte, Int.reduceEq, or_true, true_or, or_false, or_self, false_or]; exact N0⟩
      · have t_who : idB x.who = false := t_who
        exact ⟨false, ⟨rfl, rfl, rfl, trivial⟩, by simp [refOk, k10, t_who], by unfold refY; simp only [k10, reduceIte, Int.reduceEq, or_true, true_or, or_false, or_self, false_or]; exact N0⟩
    have k10 : ¬ x.kind = 10 := k10
    refine brE_dec (fun k11 => ?_) (fun k11 => ?_)
    · have k11 : x.kind = 11 := k11
      refine ⟨_, M6.cell 1 rfl rfl, ?_⟩
      refine ⟨rfl, _, _, M6.get 0 rfl, Nat.le_of_ble_eq_true rfl, rfl, ?_⟩
      intro v0 s0
      have N0 := M6.put 0 rfl s0
      refine brE_mk (fun t_what => ?_) (fun t_what => ?_)
      · have t_what : idB x.what = true := t_what
        refine ⟨_, N0.cell 1 rfl rfl, ?_⟩
        refine ⟨_, N0.cell 1 rfl rfl, ?_⟩
        refine brE_ndec (fun c2 => ?_) (fun c2 => ?_)
        · have c2 : ¬ x.what = x.id := c2
          refine ⟨_, N0.cell 1 rfl rfl, ?_⟩
          refine brE_dec (fun c3 => ?_) (fun c3 => ?_)
          · have c3 : x.since = 0 := c3
            refine ⟨_, N0.cell 1 rfl rfl, ?_⟩
            exact ⟨(decide (x.til = 0)), ⟨rfl, rfl, rfl, trivial⟩, by simp [refOk, k11, t_what, c2, c3], by unfold refY; simp only [k11, reduceIte, Int.reduceEq, or_true, true_or, or_false, or_self, false_or]; exact N0⟩
          · have c3 : ¬ x.since = 0 := c3
            exact ⟨false, ⟨rfl, rfl, rfl, trivial⟩, by simp [refOk, k11, t_what, c2, c3], by unfold refY; simp only [k11, reduceIte, Int.reduceEq, or_true, true_or, or_false, or_self, false_or]; exact N0⟩
        · have c2 : x.what = x.id := c2
          exact ⟨false, ⟨rfl, rfl, rfl, trivial⟩, by simp [refOk, k11, t_what, c2], by unfold refY; simp only [k11, reduceIte, Int.reduceEq, or_true, true_or, or_false, or_self, false_or]; exact N0⟩
      · have t_what : idB x.what = false := t_what
        exact ⟨false, ⟨rfl, rfl, rfl, trivial⟩, by simp [refOk, k11, t_what], by unfold refY; simp only [k11, reduceIte, Int.reduceEq, or_true, true_or, or_false, or_self, false_or]; exact N0⟩
    have k11 : ¬ x.kind = 11 := k11
    exact ⟨false, ⟨rfl, rfl, rfl, trivial⟩, by simp [refOk, k1, k2, k3, k4, k5, k6, k9, k7, k8, k10, k11], by unfold refY; simp only [k1, k2, k3, k4, k5, k6, k9, k7, k8, k10, k11, or_self, if_false]; exact M6⟩
  rintro ok w7 ⟨hok, M7⟩
  refine Snd.go C_ok plans167 (by kernel_rfl) ?_
  have hfin : ∀ {w' : World}, ¬ (refOk x && decide (x = refY x)) = true → Ext w w' → Value.int .i64 1 = .int .i64 (formE x) ∧ Ext w w' := fun h e => by
    refine ⟨?_, e⟩
    by_cases hk : 1 ≤ x.kind ∧ x.kind ≤ 11
    · rw [form_ref (hhead hk), if_neg h]
    · rw [formE_head (headB_no fun hh => hk (headB_iff.1 hh).1)]
  refine brE_mk (fun b1 => ?_) (fun b1 => ?_)
  · have b1 : refOk x = false := by rw [← hok]; simpa using b1
    exact hfin (by rw [b1]; simp) M7.ext
  have b1 : refOk x = true := by rw [← hok]; simpa using b1
  refine ⟨x.cells, rfl, M7.rd 1 rfl, ?_⟩
  refine ⟨(refY x).cells, rfl, M7.rd 0 rfl, ?_⟩
  refine ⟨_, neqF _ _ x (refY x), ?_⟩
  refine brE_ndec (fun b2 => ?_) (fun b2 => ?_)
  · exact hfin (by rw [decide_eq_false b2]; simp) M7.ext
  have b2 : x = refY x := b2
  have hform := form_ref (hhead (ref_kind b1))
  rw [if_pos (by rw [b1, decide_eq_true b2]; rfl)] at hform
  clear b2 hfin
  refine ⟨Snd.go C_ok plans167 (by kernel_rfl) ?_⟩
  refine ⟨_, M7.cell 1 rfl rfl, ?_⟩
  refine brE_dec (fun b3 => ?_) (fun b3 => ?_)
  · have b3 : x.kind = 1 := b3
    refine ⟨_, M7.cell 1 rfl rfl, ?_⟩
    refine (refIsName_spec x.name _ hx.name).mono ?_
    rintro _ w8 ⟨rfl, rfl⟩
    refine brE_mk (fun b4 => ?_) (fun b4 => ?_)
    · have b4 : nameB x.name.data.toList = false := by simpa using b4
      exact ⟨by rw [hform, if_pos ⟨b3, b4⟩], M7.ext⟩
    · have b4 : nameB x.name.data.toList = true := by simpa using b4
      refine ⟨Snd.fin C_ok (plans := []) (by kernel_rfl) ?_⟩
      exact ⟨by rw [hform, if_neg (fun h => by rw [b4] at h; cases h.2)], M7.ext⟩
  · have b3 : ¬ x.kind = 1 := b3
    refine ⟨Snd.fin C_ok (plans := []) (by kernel_rfl) ?_⟩
    exact ⟨by rw [hform, if_neg (fun h => b3 h.1)], M7.ext⟩
end Go.Proofs.YtcnbpfecgokhiaaGreatDoor
namespace Go.Proofs.YtcnbpfecgokhiaaGreatDoor
open Go.Eng Go.RowKit
theorem insD_in {n : Int} : ∀ {l : List Int}, l.Pairwise (· < ·) → n ∈ l → insD n l = l
  | [], _, h => by cases h
  | x :: r, hp, h => by
    obtain ⟨h1, h2⟩ := List.pairwise_cons.1 hp
    unfold insD
    rcases List.mem_cons.1 h with rfl | h
    · rw [if_neg (Int.lt_irrefl _), if_pos rfl]
    · have := h1 n h
      rw [if_neg (by omega), if_neg (by omega), insD_in h2 h]
theorem insD_out {n : Int} : ∀ {l : List Int}, n ∉ l → (insD n l).length = l.length + 1
  | [], _ => rfl
  | x :: r, h => by
    unfold insD
    split
    · rfl
    · split
      · rename_i e; exact absurd (by rw [e]; simp) h
      · rw [List.length_cons, insD_out (fun e => h (by simp [e])), List.length_cons]
theorem statesN_snoc (l : List Fact) (x : Fact) : statesN (l ++ [x]) = statesN l + if x.kind = 1 ∧ namedIn l x.who = false then 1 else 0 := by
  unfold statesN
  rw [whos_snoc]
  by_cases hk : x.kind = 1
  · rw [if_pos hk, sortD_snoc, namedIn_eq]
    by_cases hm : x.who ∈ whos l
    · rw [insD_in (sortD_asc _) (mem_sortD.2 hm), if_neg (by simp [hm])]; rfl
    · rw [insD_out (fun e => hm (mem_sortD.1 e)), if_pos ⟨hk, decide_eq_false hm⟩]
  · rw [if_neg hk, List.append_nil, if_neg (fun e => hk e.1)]; rfl
theorem statesN_take {l : List Fact} {i : Nat} (hi : i < l.length) : statesN (l.take (i + 1)) = statesN (l.take i) + if l[i].kind = 1 ∧ namedIn (l.take i) l[i].who = false then 1 else 0 := by
  rw [List.take_succ_eq_append_getElem hi, statesN_snoc]
theorem statesN_le (l : List Fact) : statesN l ≤ l.length := by
  unfold statesN
  refine Nat.le_trans (sortD_length _) ?_
  unfold whos
  rw [List.length_map]
  exact List.length_filter_le _ _
set_option maxRecDepth 100000 in
theorem refstates_spec {w1 : World} {A : Option Addr} {l : List Fact} {c : Nat} (hr : Reads w1 A (fcells l)) (hl : l.length ≤ 2 ^ 20) (hc : l.length ≤ c) :
    CallsV C.P 170 #[.slice A l.length c] w1 fun v w' => v = .int .i64 (statesN l) ∧ w' = w1 := by
  refine callsV_of C_ok (args := [_]) (plans := plans170) Tryz.func170 rfl Tryz.ntmps170 (by kernel_rfl) (Nat.le_of_ble_eq_true rfl) ?_
  refine loopE C_ok (fun (i : Nat) => [(0, .slice A l.length c), (3, .int .i64 (statesN (l.take i))), (4, .int .i64 i)])
    (fun i w' => w' = w1 ∧ i ≤ l.length) (fun i => l.length - i) 0 ⟨rfl, rfl, rfl, trivial⟩ ⟨rfl, Nat.zero_le _⟩ ?_
  rintro i w2 ⟨rfl, hi⟩
  refine brE_dec (fun hlt => ?_) (fun hge => ?_)
  · have hlt : i < l.length := by have : (i : Int) < (l.length : Nat) := hlt; omega
    have next : IntKind.i64.wrap ((i : Int) + 1) = ((i + 1 : Nat) : Int) := fit ⟨by omega, by omega⟩
    have hlen : (l.take i).length = i := by rw [List.length_take]; omega
    have hsn := statesN_le (l.take i)
    have hst := statesN_take hlt
    obtain ⟨b, o, hA, hcl⟩ := Reads.fact hr hlt
    refine ⟨0, i, rfl, rfl, Nat.zero_le _, by omega, ?_⟩
    refine ⟨i, b, o, rfl, hlt, hA, ?_⟩
    refine ⟨.int .i64 l[i].who, hcl 3 _ rfl, ?_⟩
    have hn := refnamed_spec (cK := c - 0) (Reads.front (c := c) (i := i) hr) (by omega) l[i].who
    rw [hlen] at hn
    refine hn.mono ?_
    rintro _ w3 ⟨rfl, rfl⟩
    refine ⟨i, b, o, rfl, hlt, hA, ?_⟩
    refine ⟨.int .u8 l[i].kind, hcl 2 _ rfl, ?_⟩
    refine brE_dec (fun k1 => ?_) (fun k1 => ?_)
    · have k1 : l[i].kind = 1 := k1
      refine brE_mk (fun k2 => ?_) (fun k2 => ?_)
      · have k2 : namedIn (l.take i) l[i].who = false := by simpa using k2
        rw [if_pos ⟨k1, k2⟩] at hst
        refine ⟨((statesN (l.take i) + 1 : Nat) : Int), fit ⟨by omega, by omega⟩, ?_⟩
        refine ⟨_, next, ?_⟩
        exact ⟨i + 1, ⟨rfl, by show _ = some (Value.int .i64 (statesN (l.take (i + 1)))); rw [hst]; rfl, rfl, trivial⟩, ⟨rfl, hlt⟩, by omega⟩
      · have k2 : ¬ namedIn (l.take i) l[i].who = false := by simpa using k2
        rw [if_neg (fun e => k2 e.2)] at hst
        refine ⟨_, next, ?_⟩
        exact ⟨i + 1, ⟨rfl, by show _ = some (Value.int .i64 (statesN (l.take (i + 1)))); rw [hst]; rfl, rfl, trivial⟩, ⟨rfl, hlt⟩, by omega⟩
    · have k1 : ¬ l[i].kind = 1 := k1
      rw [if_neg (fun e => k1 e.1)] at hst
      refine ⟨_, next, ?_⟩
      exact ⟨i + 1, ⟨rfl, by show _ = some (Value.int .i64 (statesN (l.take (i + 1)))); rw [hst]; rfl, rfl, trivial⟩, ⟨rfl, hlt⟩, by omega⟩
  · have : i = l.length := by have : ¬ (i : Int) < (l.length : Nat) := hge; omega
    subst this
    exact ⟨by rw [List.take_length], rfl⟩
theorem last_fact {l : List Fact} (h : 0 < l.length) : l.getLast? = some (l[l.length - 1]'(by omega)) := List.getLast?_eq_getElem? ▸ List.getElem?_eq_getElem (by omega)
set_option maxRecDepth 100000 in
set_option maxHeartbeats 2000000 in
theorem refBehind_spec {w : World} {A : Option Addr} {l : List Fact} {c : Nat} (hr : Reads w A (fcells l)) (hl : l.length ≤ 2 ^ 20) (hc : l.length ≤ c) {x : Fact} (hx : x.Nums) :
    CallsV C.P 136 #[.slice A l.length c, x.val] w fun v w' => v = .int .i64 (behindE l x) ∧ Ext w w' := by
  refine callsV_ofS (args := [_, _]) Tryz.func136 rfl Tryz.ntmps136 C_ok (Nat.le_of_ble_eq_true rfl) ?_
  unfold behindE
  refine Snd.go C_ok plans136 (by kernel_rfl) ?_
  intro g1 w1 h1
  have M1 : Mem w w1 [(g1, .cells x.cells.toArray 81 (0, 0))] := (Mem.start w).alloc h1
  refine ⟨Snd.go C_ok plans136 (by kernel_rfl) ?_⟩
  refine ⟨x.cells, rfl, M1.rd 0 rfl, ?_⟩
  refine (refFormed_spec x hx w1).mono ?_
  rintro _ w2 ⟨rfl, e2⟩
  have M2 := M1.grow e2
  clear M1 h1
  refine ⟨Snd.go C_ok plans136 (by kernel_rfl) ?_⟩
  refine brE_ndec (fun a1 => ?_) (fun a1 => ?_)
  · have a1 : ¬ formE x = 0 := a1
    exact ⟨by rw [if_pos a1], M2.ext⟩
  have a1 : formE x = 0 := a1
  rw [if_neg (fun e => e a1)]
  refine ⟨Snd.go C_ok plans136 (by kernel_rfl) ?_⟩
  refine brE_dec (fun a2 => ?_) (fun a2 => ?_)
  · have a2 : 300 ≤ l.length := by have : (l.length : Int) ≥ 300 := a2; omega
    exact ⟨by rw [if_pos a2], M2.ext⟩
  have a2 : ¬ 300 ≤ l.length := by have : ¬ (l.length : Int) ≥ 300 := a2; omega
  rw [if_neg a2]
  have hrl := hr.ext M2.ext
  refine ⟨Snd.join C_ok plans136 (fun _ : Unit => [(0, .slice A l.length c), (3, .pointer (some ⟨g1, 0, none⟩))]) (fun _ w' => w' = w2 ∧ l.getLast?.any (fun y => decide (x.known < y.known)) = false) (by kernel_rfl) ?_ ?_⟩
  · refine brE_dec (fun a3 => ?_) (fun a3 => ?_)
    · have a3 : 0 < l.length := by have : (l.length : Int) > 0 := a3; omega
      refine ⟨_, M2.cell 0 rfl rfl, ?_⟩
      obtain ⟨b, o, hA, hcl⟩ := Reads.fact hrl (show l.length - 1 < l.length by omega)
      refine ⟨((l.length - 1 : Nat) : Int), by rw [fit ⟨by omega, by omega⟩]; omega, ?_⟩
      refine ⟨l.length - 1, b, o, rfl, by omega, hA, ?_⟩
      refine ⟨.int .i64 (l[l.length - 1]'(by omega)).known, hcl 1 _ rfl, ?_⟩
      refine brE_dec (fun a4 => ?_) (fun a4 => ?_)
      · have a4 : x.known < (l[l.length - 1]'(by omega)).known := a4
        exact ⟨by rw [if_pos (by rw [last_fact a3]; exact decide_eq_true a4)], M2.ext⟩
      · have a4 : ¬ x.known < (l[l.length - 1]'(by omega)).known := a4
        exact ⟨(), ⟨rfl, rfl, trivial⟩, rfl, by rw [last_fact a3]; exact decide_eq_false a4⟩
    · have a3 : l = [] := List.length_eq_zero_iff.1 (by have : ¬ (l.length : Int) > 0 := a3; omega)
      exact ⟨(), ⟨rfl, rfl, trivial⟩, rfl, by rw [a3]; rfl⟩
  rintro _ w2' ⟨rfl, a4⟩
  rw [if_neg (by rw [a4]; decide)]
  refine Snd.fin C_ok (plans := plans136) (by kernel_rfl) ?_
  refine ⟨_, M2.cell 0 rfl rfl, ?_⟩
  refine (numbered_spec hrl hl x.id).mono ?_
  rintro _ w3 ⟨rfl, rfl⟩
  refine brE_mk (fun a5 => ?_) (fun a5 => ?_)
  · exact ⟨by rw [if_pos a5], M2.ext⟩
  rw [if_neg (by rw [a5]; decide)]
  refine ⟨_, M2.cell 0 rfl rfl, ?_⟩
  refine (refnamed_spec hrl hl x.who).mono ?_
  rintro _ w3 ⟨rfl, rfl⟩
  refine ⟨_, M2.cell 0 rfl rfl, ?_⟩
  refine (refnamed_spec hrl hl x.what).mono ?_
  rintro _ w3 ⟨rfl, rfl⟩
  refine ⟨_, M2.cell 0 rfl rfl, ?_⟩
  refine brE_dec (fun k2 => ?K2) (fun k2 => ?N2)
  case' K2 =>
    have hk : x.kind = 2 ∨ x.kind = 3 ∨ x.kind = 5 ∨ x.kind = 8 := .inl k2
    refine brE_true (decide_eq_true k2) ?_
  case' N2 =>
    have k2 : ¬ x.kind = 2 := k2
    refine brE_dec (fun k3 => ?K3) (fun k3 => ?N3)
    case' K3 =>
      have hk : x.kind = 2 ∨ x.kind = 3 ∨ x.kind = 5 ∨ x.kind = 8 := .inr (.inl k3)
      refine brE_true (decide_eq_true k3) ?_
    case' N3 =>
      have k3 : ¬ x.kind = 3 := k3
      refine brE_dec (fun k5 => ?K5) (fun k5 => ?N5)
      case' K5 =>
        have hk : x.kind = 2 ∨ x.kind = 3 ∨ x.kind = 5 ∨ x.kind = 8 := .inr (.inr (.inl k5))
        refine brE_true (decide_eq_true k5) ?_
      case' N5 =>
        have k5 : ¬ x.kind = 5 := k5
        refine brE_dec (fun k8 => ?K8) (fun k8 => ?N8)
        case' K8 =>
          have hk : x.kind = 2 ∨ x.kind = 3 ∨ x.kind = 5 ∨ x.kind = 8 := .inr (.inr (.inr k8))
        case' N8 =>
          have k8 : ¬ x.kind = 8 := k8
          have hs0 : ¬ (x.kind = 2 ∨ x.kind = 3 ∨ x.kind = 5 ∨ x.kind = 8) := by omega
          refine brE_dec (fun k4 => ?_) (fun k4 => ?_)
          · have k4 : x.kind = 4 := k4
            have hs : (speaks x).all (namedIn l) = (namedIn l x.who && namedIn l x.what) := by unfold speaks; rw [if_neg hs0, if_pos k4]; simp
            rw [hs]
            refine brE_mk (fun b1 => ?_) (fun b1 => ?_)
            · have b1 : namedIn l x.who = false := by simpa using b1
              exact ⟨by rw [if_pos (by rw [b1]; rfl)], M2.ext⟩
            have b1 : namedIn l x.who = true := by simpa using b1
            refine brE_mk (fun b2 => ?_) (fun b2 => ?_)
            · have b2 : namedIn l x.what = false := by simpa using b2
              exact ⟨by rw [if_pos (by rw [b2, Bool.and_false])], M2.ext⟩
            · have b2 : namedIn l x.what = true := by simpa using b2
              exact ⟨by rw [if_neg (by rw [b1, b2]; decide), if_neg (fun e => by omega), if_neg (fun e => by omega)], M2.ext⟩
          have k4 : ¬ x.kind = 4 := k4
          refine brE_dec (fun k7 => ?_) (fun k7 => ?_)
          · have k7 : x.kind = 7 := k7
            have hs : (speaks x).all (namedIn l) = namedIn l x.who := by unfold speaks; rw [if_neg hs0, if_neg k4, if_pos k7]; simp
            rw [hs]
            refine brE_mk (fun b1 => ?_) (fun b1 => ?_)
            · have b1 : namedIn l x.who = false := by simpa using b1
              exact ⟨by rw [if_pos b1], M2.ext⟩
            · have b1 : namedIn l x.who = true := by simpa using b1
              exact ⟨by rw [if_neg (by rw [b1]; decide), if_neg (fun e => by omega), if_neg (fun e => by omega)], M2.ext⟩
          have k7 : ¬ x.kind = 7 := k7
          have hs : (speaks x).all (namedIn l) = true := by unfold speaks; rw [if_neg hs0, if_neg k4, if_neg k7]; rfl
          rw [if_neg (by rw [hs]; decide)]
          refine brE_dec (fun k11 => ?_) (fun k11 => ?_)
          · have k11 : x.kind = 11 := k11
            refine ⟨_, M2.cell 0 rfl rfl, ?_⟩
            refine (numbered_spec hrl hl x.what).mono ?_
            rintro _ w3 ⟨rfl, rfl⟩
            refine brE_mk (fun b1 => ?_) (fun b1 => ?_)
            · have b1 : idIn l x.what = false := by simpa using b1
              exact ⟨by rw [if_pos ⟨k11, b1⟩], M2.ext⟩
            · have b1 : ¬ idIn l x.what = false := by simpa using b1
              exact ⟨by rw [if_neg (fun e => b1 e.2), if_neg (fun e => by omega)], M2.ext⟩
          have k11 : ¬ x.kind = 11 := k11
          rw [if_neg (fun e => k11 e.1)]
          refine brE_dec (fun k1 => ?_) (fun k1 => ?_)
          · have k1 : x.kind = 1 := k1
            refine (refstates_spec hrl hl hc).mono ?_
            rintro _ w3 ⟨rfl, rfl⟩
            refine brE_mk (fun b1 => ?_) (fun b1 => ?_)
            · have b1 : namedIn l x.who = false := by simpa using b1
              refine brE_dec (fun b2 => ?_) (fun b2 => ?_)
              · have b2 : 200 ≤ statesN l := by have : (statesN l : Int) ≥ 200 := b2; omega
                exact ⟨by rw [if_pos ⟨k1, b1, b2⟩], M2.ext⟩
              · have b2 : ¬ 200 ≤ statesN l := by have : ¬ (statesN l : Int) ≥ 200 := b2; omega
                exact ⟨by rw [if_neg (fun e => b2 e.2.2)], M2.ext⟩
            · have b1 : ¬ namedIn l x.who = false := by simpa using b1
              exact ⟨by rw [if_neg (fun e => b1 e.2.1)], M2.ext⟩
          · have k1 : ¬ x.kind = 1 := k1
            exact ⟨by rw [if_neg (fun e => k1 e.1)], M2.ext⟩
  all_goals
    have hs : (speaks x).all (namedIn l) = namedIn l x.what := by unfold speaks; rw [if_pos hk]; simp
    rw [hs]
    refine brE_mk (fun b1 => ?_) (fun b1 => ?_)
    · have b1 : namedIn l x.what = false := by simpa using b1
      exact ⟨by rw [if_pos b1], M2.ext⟩
    · have b1 : namedIn l x.what = true := by simpa using b1
      exact ⟨by rw [if_neg (by rw [b1]; decide), if_neg (fun e => by omega), if_neg (fun e => by omega)], M2.ext⟩
set_option maxRecDepth 100000 in
theorem refCheck_spec {w : World} {A : Option Addr} {l : List Fact} {c : Nat} (h : HF w A l c) (hl : l.length ≤ 2 ^ 20) :
    CallsV C.P 95 #[.slice A l.length c] w fun v w' => v = .tuple #[.int .i64 ((chkF l).1 : Nat), .int .i64 (chkF l).2] ∧ Ext w w' := by
  have hcap := h.len
  refine callsV_of C_ok (args := [_]) (plans := plans95) Tryz.func95 rfl Tryz.ntmps95 (by kernel_rfl) (Nat.le_of_ble_eq_true rfl) ?_
  refine loopE C_ok (fun (i : Nat) => [(0, .slice A l.length c), (4, .int .i64 i)])
    (fun i w' => i ≤ l.length ∧ Ext w w' ∧ chkF l = chkG (l.take i) (l.drop i)) (fun i => l.length - i) 0 ⟨rfl, rfl, trivial⟩ ⟨Nat.zero_le _, Ext.refl _, rfl⟩ ?_
  rintro i w1 ⟨hi, e1, hch⟩
  refine brE_dec (fun hlt => ?_) (fun hge => ?_)
  · have hlt : i < l.length := by have : (i : Int) < (l.length : Nat) := hlt; omega
    have next : IntKind.i64.wrap ((i : Int) + 1) = ((i + 1 : Nat) : Int) := fit ⟨by omega, by omega⟩
    have hlen : (l.take i).length = i := by rw [List.length_take]; omega
    rw [chkG_at hlt] at hch
    obtain ⟨b, o, hA, hcl⟩ := Reads.fact (h.reads.ext e1) hlt
    refine ⟨0, i, rfl, rfl, Nat.zero_le _, by omega, ?_⟩
    refine ⟨i, b, o, rfl, hlt, hA, ?_⟩
    refine ⟨l[i].cells, rfl, hcl, ?_⟩
    have hn := refBehind_spec (c := c - 0) (Reads.front (c := c) (i := i) (h.reads.ext e1)) (by omega) (by omega) (h.nums _ (List.getElem_mem hlt))
    rw [hlen] at hn
    refine hn.mono ?_
    rintro _ w2 ⟨rfl, e2⟩
    refine brE_ndec (fun a1 => ?_) (fun a1 => ?_)
    · have a1 : ¬ behindE (l.take i) l[i] = 0 := a1
      rw [if_pos a1] at hch
      exact ⟨by rw [hch], e1.trans e2⟩
    · have a1 : behindE (l.take i) l[i] = 0 := a1
      rw [if_neg (fun e => e a1)] at hch
      refine ⟨_, next, ?_⟩
      exact ⟨i + 1, ⟨rfl, rfl, trivial⟩, ⟨hlt, e1.trans e2, hch⟩, by omega⟩
  · have : i = l.length := by have : ¬ (i : Int) < (l.length : Nat) := hge; omega
    subst this
    rw [List.drop_length] at hch
    exact ⟨by rw [hch]; rfl, e1⟩
end Go.Proofs.YtcnbpfecgokhiaaGreatDoor
namespace Go.Proofs.YtcnbpfecgokhiaaGreatDoor
open Go.Eng Go.RowKit
/-- Whom the host has recognised so far: of the first 'i' holders all, of the next one if one of the first 'j' facts says so. -/
def Chosen (K : List Fact) (host s0 : Int) (H : List Int) (i j : Nat) (M : List Int) : Prop :=
  M.Pairwise (· < ·) ∧ ∀ x, x ∈ M ↔ (x ∈ H.take i ∧ K.any (recogB host s0 x) = true) ∨ (∃ hi : i < H.length, x = H[i] ∧ (K.take j).any (recogB host s0 x) = true)
theorem Chosen.next {K : List Fact} {host s0 : Int} {H M : List Int} {i : Nat} (hi : i < H.length) (h : Chosen K host s0 H i K.length M) : Chosen K host s0 H (i + 1) 0 M := by
  refine ⟨h.1, fun x => ?_⟩
  rw [h.2, List.take_succ_eq_append_getElem hi, List.take_length]
  constructor
  · rintro (⟨h1, h2⟩ | ⟨_, h1, h2⟩)
    · exact .inl ⟨List.mem_append_left _ h1, h2⟩
    · exact .inl ⟨List.mem_append_right _ (by rw [h1]; simp), h2⟩
  · rintro (⟨h1, h2⟩ | ⟨_, _, h2⟩)
    · rcases List.mem_append.1 h1 with h1 | h1
      · exact .inl ⟨h1, h2⟩
      · exact .inr ⟨hi, List.mem_singleton.1 h1, h2⟩
    · simp at h2
theorem Chosen.miss {K : List Fact} {host s0 : Int} {H M : List Int} {i j : Nat} (hi : i < H.length) (hj : j < K.length) (hm : recogB host s0 H[i] K[j] = false) (h : Chosen K host s0 H i j M) : Chosen K host s0 H i (j + 1) M := by
  refine ⟨h.1, fun x => ?_⟩
  rw [h.2]
  refine or_congr Iff.rfl ⟨fun ⟨a, b, d⟩ => ⟨a, b, ?_⟩, fun ⟨a, b, d⟩ => ⟨a, b, ?_⟩⟩
  · rw [any_step hj, d]; rfl
  · rw [any_step hj] at d
    rw [b, hm, Bool.or_false] at d
    rw [b]; exact d
theorem Chosen.hit {K : List Fact} {host s0 : Int} {H M : List Int} {i j : Nat} (hi : i < H.length) (hj : j < K.length) (hm : recogB host s0 H[i] K[j] = true) (h : Chosen K host s0 H i j M) : Chosen K host s0 H i (j + 1) (insD H[i] M) := by
  refine ⟨insD_asc h.1, fun x => ?_⟩
  rw [mem_insD, h.2]
  constructor
  · rintro (rfl | h1 | ⟨_, h1, h2⟩)
    · exact .inr ⟨hi, rfl, by rw [any_step hj, hm, Bool.or_true]⟩
    · exact .inl h1
    · exact .inr ⟨hi, h1, by rw [any_step hj, h2]; rfl⟩
  · rintro (h1 | ⟨_, h1, h2⟩)
    · exact .inr (.inl h1)
    · exact .inl h1
theorem Chosen.length {K : List Fact} {host s0 : Int} {H M : List Int} {i j : Nat} (h : Chosen K host s0 H i j M) : M.length ≤ H.length := by
  refine asc_length h.1 fun x hx => ?_
  rcases (h.2 x).1 hx with ⟨h1, _⟩ | ⟨hi, h1, _⟩
  · exact List.mem_of_mem_take h1
  · rw [h1]; exact List.getElem_mem hi
theorem four_drop {i : Nat} (h1 : 1 ≤ i) (h5 : i < 5) : ([1, 2, 3, 4] : List Int).drop (i - 1) = (i : Int) :: ([1, 2, 3, 4] : List Int).drop i := by
  obtain rfl | rfl | rfl | rfl : i = 1 ∨ i = 2 ∨ i = 3 ∨ i = 4 := by omega
  all_goals rfl
set_option maxRecDepth 100000 in
theorem refHoldsClass_spec {w : World} {A : Option Addr} {l : List Fact} {c : Nat} (h : HF w A l c) (hl : l.length ≤ 2 ^ 20) (k day n s0 : Int) :
    CallsV C.P 96 #[.slice A l.length c, .int .i64 k, .int .i64 day, .int .i64 n, .int .i64 s0] w fun v w' => v = .int .i64 (leastL (atL k day l) n s0) ∧ Ext w w' := by
  refine callsV_of C_ok (args := [_, _, _, _, _]) (plans := []) Tryz.func96 rfl Tryz.ntmps96 (by kernel_rfl) (Nat.le_of_ble_eq_true rfl) ?_
  have hK := atL_length k day l
  refine loopE C_ok (fun (i : Nat) => [(0, .slice A l.length c), (1, .int .i64 k), (2, .int .i64 day), (3, .int .i64 n), (4, .int .i64 s0), (11, .int .i64 i)])
    (fun i w' => 1 ≤ i ∧ i ≤ 5 ∧ Ext w w' ∧ leastL (atL k day l) n s0 = leastAt (atL k day l) n s0 (([1, 2, 3, 4] : List Int).drop (i - 1))) (fun i => 5 - i) 1 ⟨rfl, rfl, rfl, rfl, rfl, rfl, trivial⟩ ⟨Nat.le_refl _, by omega, Ext.refl _, rfl⟩ ?_
  rintro i w1 ⟨h1, h5, e1, hs⟩
  refine brE_dec (fun hlt2 => ?_) (fun hge => ?_)
  · have hlt : i < 5 := by have : (i : Int) < 5 := hlt2; omega
    rw [four_drop h1 hlt, leastAt] at hs
    have next : IntKind.i64.wrap ((i : Int) + 1) = ((i + 1 : Nat) : Int) := fit ⟨by omega, by omega⟩
    refine (refHolders_spec (h.ext e1) hl k day s0 i).mono ?_
    rintro v2 w2 ⟨ho2, e2⟩
    refine (refActing_spec (h.ext (e1.trans e2)) hl k day s0 i).mono ?_
    rintro v3 w3 ⟨ho3, e3⟩
    have l2 := living_length (atL k day l) 2 s0 i
    have l3 := living_length (atL k day l) 3 s0 i
    obtain ⟨A2, c2, rfl, hr2, _⟩ := NewInts.slice ho2
    obtain ⟨A3, c3, rfl, hr3, _⟩ := NewInts.slice ho3
    refine (in1_spec (hr2.ext e3) (by omega) n).mono ?_
    rintro _ w4 ⟨rfl, rfl⟩
    refine (in1_spec hr3 (by omega) n).mono ?_
    rintro _ w5 ⟨rfl, rfl⟩
    have e5 := (e1.trans e2).trans e3
    refine brE_dec (fun m1 => ?_) (fun m1 => ?_)
    · rw [if_pos (by rw [decide_eq_true m1]; rfl)] at hs
      exact ⟨by rw [hs], e5⟩
    · refine brE_dec (fun m2 => ?_) (fun m2 => ?_)
      · rw [if_pos (by unfold actsB; rw [decide_eq_true m2, Bool.or_true])] at hs
        exact ⟨by rw [hs], e5⟩
      · rw [if_neg (by unfold actsB; rw [decide_eq_false m1, decide_eq_false m2]; decide)] at hs
        refine ⟨_, next, ?_⟩
        exact ⟨i + 1, ⟨rfl, rfl, rfl, rfl, rfl, rfl, trivial⟩, ⟨by omega, by omega, e5, hs⟩, by omega⟩
  · have : i = 5 := by have : ¬ (i : Int) < 5 := hge; omega
    subst this
    exact ⟨by rw [hs]; rfl, e1⟩
end Go.Proofs.YtcnbpfecgokhiaaGreatDoor
namespace Go.Proofs.YtcnbpfecgokhiaaGreatDoor
open Go.Eng Go.RowKit
def mayE (f : List Fact) (x : Waiv) : Int := if rightW { x with id := 1 } = false then 1 else (chkF f).2
def mayB (f : List Fact) (x : Waiv) : Bool := rightW { x with id := 1 } && decide ((chkF f).2 = 0) && decide (leastL (atL x.day x.day f) x.signer x.giver ≤ 2)
theorem refMaySign_spec {w : World} {A : Option Addr} {f : List Fact} {c : Nat} (hf : HF w A f c) (hl : f.length ≤ 2 ^ 20) (x : Waiv) :
    CallsV C.P 40 #[.slice A f.length c, x.val] w fun v w' => v = .tuple #[.bool (mayB f x), .int .i64 (mayE f x)] ∧ Ext w w' := by
  refine callsV_of C_ok (args := [_, _]) (plans := []) Tryz.func40 rfl Tryz.ntmps40 (by kernel_rfl) (Nat.le_of_ble_eq_true rfl) ?_
  intro g1 w1 h1
  have M1 : Mem w w1 [(g1, .cells x.cells.toArray 35 (0, 0))] := (Mem.start w).alloc h1
  refine ⟨rfl, _, _, M1.get 0 rfl, Nat.le_of_ble_eq_true rfl, rfl, ?_⟩
  intro w2 h2
  obtain ⟨y, hy⟩ : ∃ y : Waiv, y = { x with id := 1 } := ⟨_, rfl⟩
  have M2 : Mem w w2 [(g1, .cells y.cells.toArray 35 (0, 0))] := by rw [hy]; exact M1.put 0 rfl h2
  have y1 : y.day = x.day := by rw [hy]
  have y2 : y.signer = x.signer := by rw [hy]
  have y3 : y.giver = x.giver := by rw [hy]
  unfold mayB mayE
  rw [← hy, ← y1, ← y2, ← y3]
  refine ⟨y.cells, rfl, M2.rd 0 rfl, ?_⟩
  refine (valid_spec y w2).mono ?_
  rintro v w3 ⟨rfl, e3⟩
  have M3 := M2.grow e3
  refine brE_mk (fun b1 => ?_) (fun b1 => ?_)
  · have b1 : rightW y = false := by simpa using b1
    exact ⟨by rw [b1]; rfl, M3.ext⟩
  have b1 : rightW y = true := by simpa using b1
  refine (refCheck_spec (hf.ext M3.ext) hl).mono ?_
  rintro v w4 ⟨rfl, e4⟩
  have M4 := M3.grow e4
  refine brE_ndec (fun b2 => ?_) (fun b2 => ?_)
  · have b2 : ¬ (chkF f).2 = 0 := b2
    exact ⟨by rw [b1, decide_eq_false b2]; rfl, M4.ext⟩
  have b2 : (chkF f).2 = 0 := b2
  refine ⟨_, M4.cell 0 rfl rfl, ?_⟩
  refine ⟨_, M4.cell 0 rfl rfl, ?_⟩
  refine ⟨_, M4.cell 0 rfl rfl, ?_⟩
  refine ⟨_, M4.cell 0 rfl rfl, ?_⟩
  refine (refHoldsClass_spec (hf.ext M4.ext) hl _ _ _ _).mono ?_
  rintro v w5 ⟨rfl, e5⟩
  exact ⟨by rw [b1, decide_eq_true b2, if_neg (by decide), b2]; rfl, M4.ext.trans e5⟩
abbrev metD (x : Waiv) (d : Due) : Bool := decide (d.cred = x.taker ∧ d.debt = x.giver)
theorem dueS_none {l : List Due} {x : Waiv} (h : l.any (metD x) = false) : l.filter (fun d => !metD x d) = l := by
  refine List.filter_eq_self.2 fun d hd => ?_
  have := List.any_eq_false.1 h d hd
  rw [Bool.not_eq_true] at this
  rw [this]; rfl
theorem dueS_length (l : List Due) (x : Waiv) : (dueS l x).length ≤ l.length + 1 := by
  unfold dueS
  split
  · exact Nat.le_succ_of_le (List.length_filter_le _ _)
  · simp
theorem fold_due_len : ∀ (ws : List Waiv) (l : List Due), (ws.foldl dueS l).length ≤ l.length + ws.length
  | [], l => by simp
  | x :: r, l => by
    have h1 := fold_due_len r (dueS l x)
    have h2 := dueS_length l x
    rw [List.foldl_cons, List.length_cons]; omega
set_option maxRecDepth 100000 in
theorem owing_spec {w : World} {A : Option Addr} {ws : List Waiv} {c : Nat} (h : HL Waiv.cells w A ws c) (hl : ws.length ≤ 2 ^ 16) :
    CallsV C.P 103 #[.slice A ws.length c] w fun v w' => NewL Due.cells 74 3 w.heap.size w' v (ws.foldl dueS []) ∧ Ext w w' := by
  refine callsV_of C_ok (args := [_]) (plans := plans103) Tryz.func103 rfl Tryz.ntmps103 (by kernel_rfl) (Nat.le_of_ble_eq_true rfl) ?_
  refine loopE C_ok (fun (p : Nat × Value) => [(0, .slice A ws.length c), (3, p.2), (4, .int .i64 p.1)])
    (fun p w' => p.1 ≤ ws.length ∧ NewL Due.cells 74 3 w.heap.size w' p.2 ((ws.take p.1).foldl dueS []) ∧ Ext w w') (fun p => ws.length - p.1) (0, .slice none 0 0) ⟨rfl, rfl, rfl, trivial⟩
    ⟨Nat.zero_le _, newL_nil, Ext.refl _⟩ ?_
  rintro ⟨i, v⟩ w1 ⟨hi', ho', e1⟩
  have hi : i ≤ ws.length := hi'
  have ho : NewL Due.cells 74 3 w.heap.size w1 v ((ws.take i).foldl dueS []) := ho'
  clear hi' ho'
  have hlen : ((ws.take i).foldl dueS []).length ≤ i := by
    have := fold_due_len (ws.take i) []
    rw [List.length_take] at this
    simp only [List.length_nil] at this
    omega
  refine brE_dec (fun hlt => ?_) (fun hge => ?_)
  · have hlti : i < ws.length := by have : (i : Int) < (ws.length : Nat) := hlt; omega
    have next : IntKind.i64.wrap ((i : Int) + 1) = ((i + 1 : Nat) : Int) := fit ⟨by omega, by omega⟩
    have hsucc : (ws.take (i + 1)).foldl dueS [] = dueS ((ws.take i).foldl dueS []) ws[i] := by rw [List.take_succ_eq_append_getElem hlti, List.foldl_append]; rfl
    obtain ⟨b, o, hAd, hc⟩ := h.at Waiv.len (by omega) hlti
    obtain ⟨l, hle⟩ : ∃ l, l = (ws.take i).foldl dueS [] := ⟨_, rfl⟩
    rw [← hle] at ho hlen hsucc
    obtain ⟨x, hx⟩ : ∃ x, x = ws[i] := ⟨_, rfl⟩
    rw [← hx] at hsucc hc
    obtain ⟨Al, cl, rfl, hHl⟩ := ho.hl
    refine loopE C_ok (fun (p : Nat × Value × Bool) => [(0, .slice A ws.length c), (3, .slice Al l.length cl), (4, .int .i64 i), (5, p.2.1), (6, .bool p.2.2), (7, .int .i64 p.1)])
      (fun p w' => p.1 ≤ l.length ∧ NewL Due.cells 74 3 w1.heap.size w' p.2.1 ((l.take p.1).filter fun d => !metD x d) ∧ p.2.2 = (l.take p.1).any (metD x) ∧ Mem w1 w' []) (fun p => l.length - p.1) (0, .slice none 0 0, false) ⟨rfl, rfl, rfl, rfl, rfl, rfl, trivial⟩
      ⟨Nat.zero_le _, newL_nil, rfl, Mem.start _⟩ ?_
    rintro ⟨j, u, q⟩ w2 ⟨hj', hu', hq', M2⟩
    have hj : j ≤ l.length := hj'
    have hu : NewL Due.cells 74 3 w1.heap.size w2 u ((l.take j).filter fun d => !metD x d) := hu'
    have hq : q = (l.take j).any (metD x) := hq'
    clear hj' hu' hq'
    have hfl : ((l.take j).filter fun d => !metD x d).length ≤ j := Nat.le_trans (List.length_filter_le _ _) (by rw [List.length_take]; omega)
    refine brE_dec (fun hlt2 => ?_) (fun hge2 => ?_)
    · have hltj : j < l.length := by have : (j : Int) < (l.length : Nat) := hlt2; omega
      have next2 : IntKind.i64.wrap ((j : Int) + 1) = ((j + 1 : Nat) : Int) := fit ⟨by omega, by omega⟩
      obtain ⟨bd, od, hAl, hd⟩ := (hHl.ext M2.ext).at Due.len (by omega) hltj
      have hcx : Rd w2 b (o + i * 9) x.cells := fun k v hv => (e1.trans M2.ext).cell (hc k v hv)
      have hs1 : (l.take (j + 1)).filter (fun d => !metD x d) = ((l.take j).filter fun d => !metD x d) ++ if metD x l[j] = true then [] else [l[j]] := by
        rw [List.take_succ_eq_append_getElem hltj, List.filter_append, List.filter_cons, List.filter_nil]
        cases metD x l[j] <;> rfl
      have hs2 : (l.take (j + 1)).any (metD x) = (q || metD x l[j]) := by
        rw [List.take_succ_eq_append_getElem hltj, List.any_append, ← hq]; simp
      refine ⟨j, bd, od, rfl, hltj, hAl, ?_⟩
      refine ⟨_, hd 0 _ rfl, ?_⟩
      refine ⟨i, b, o, rfl, hlti, hAd, ?_⟩
      refine ⟨_, hcx 4 _ rfl, ?_⟩
      refine brE_dec (fun c1 => ?_) (fun c1 => ?_)
      · have c1 : l[j].cred = x.taker := c1
        refine ⟨j, bd, od, rfl, hltj, hAl, ?_⟩
        refine ⟨_, hd 1 _ rfl, ?_⟩
        refine ⟨i, b, o, rfl, hlti, hAd, ?_⟩
        refine ⟨_, hcx 3 _ rfl, ?_⟩
        refine brE_dec (fun c2 => ?_) (fun c2 => ?_)
        · have c2 : l[j].debt = x.giver := c2
          have hm : metD x l[j] = true := decide_eq_true ⟨c1, c2⟩
          refine ⟨_, next2, ?_⟩
          refine ⟨(j + 1, u, true), ⟨rfl, rfl, rfl, rfl, rfl, rfl, trivial⟩, ⟨hltj, ?_, by show true = _; rw [hs2, hm, Bool.or_true], M2⟩, by show l.length - (j + 1) < l.length - j; omega⟩
          show NewL _ _ _ _ _ _ ((l.take (j + 1)).filter fun d => !metD x d)
          rw [hs1, if_pos hm, List.append_nil]; exact hu
        · have c2 : ¬ l[j].debt = x.giver := c2
          have hm : metD x l[j] = false := decide_eq_false fun e => c2 e.2
          refine ⟨j, bd, od, rfl, hltj, hAl, ?_⟩
          refine ⟨l[j].cells, rfl, hd, ?_⟩
          intro g6 w3 h3
          have hu3 := hu.ext h3.ext
          have M3 := M2.grow h3.ext
          refine ⟨rfl, rfl, rfl, w1.heap.size, _, _, l[j].cells, hu3, M3.ext.size, Nat.le_of_ble_eq_true rfl, rfl, rfl, .inr ⟨g6, 0, rfl, Rd.of_block h3.here⟩, rfl, rfl, by omega, by simp only [maxLen]; omega, ?_⟩
          intro u4 w4 hu4 hg4 hpl
          have M4 := M3.grown hg4 (fun k hk => (hu3.lt k hk).1) (fun p hp => by cases hp)
          refine ⟨_, next2, ?_⟩
          refine ⟨(j + 1, u4, q), ⟨rfl, rfl, rfl, rfl, rfl, rfl, trivial⟩, ⟨hltj, ?_, by show q = _; rw [hs2, hm, Bool.or_false], M4⟩, by show l.length - (j + 1) < l.length - j; omega⟩
          show NewL _ _ _ _ _ _ ((l.take (j + 1)).filter fun d => !metD x d)
          rw [hs1, if_neg (by rw [hm]; decide)]
          unfold NewL
          rw [List.length_append, List.flatMap_append]
          simpa using hu4
      · have c1 : ¬ l[j].cred = x.taker := c1
        have hm : metD x l[j] = false := decide_eq_false fun e => c1 e.1
        refine ⟨j, bd, od, rfl, hltj, hAl, ?_⟩
        refine ⟨l[j].cells, rfl, hd, ?_⟩
        intro g6 w3 h3
        have hu3 := hu.ext h3.ext
        have M3 := M2.grow h3.ext
        refine ⟨rfl, rfl, rfl, w1.heap.size, _, _, l[j].cells, hu3, M3.ext.size, Nat.le_of_ble_eq_true rfl, rfl, rfl, .inr ⟨g6, 0, rfl, Rd.of_block h3.here⟩, rfl, rfl, by omega, by simp only [maxLen]; omega, ?_⟩
        intro u4 w4 hu4 hg4 hpl
        have M4 := M3.grown hg4 (fun k hk => (hu3.lt k hk).1) (fun p hp => by cases hp)
        refine ⟨_, next2, ?_⟩
        refine ⟨(j + 1, u4, q), ⟨rfl, rfl, rfl, rfl, rfl, rfl, trivial⟩, ⟨hltj, ?_, by show q = _; rw [hs2, hm, Bool.or_false], M4⟩, by show l.length - (j + 1) < l.length - j; omega⟩
        show NewL _ _ _ _ _ _ ((l.take (j + 1)).filter fun d => !metD x d)
        rw [hs1, if_neg (by rw [hm]; decide)]
        unfold NewL
        rw [List.length_append, List.flatMap_append]
        simpa using hu4
    · have hje : j = l.length := by have : ¬ (j : Int) < (l.length : Nat) := hge2; omega
      rw [hje, List.take_length] at hu hq
      have hcx : Rd w2 b (o + i * 9) x.cells := fun k v hv => (e1.trans M2.ext).cell (hc k v hv)
      refine brE_mk (fun b1 => ?_) (fun b1 => ?_)
      · have b1 : q = false := by simpa using b1
        rw [b1] at hq
        rw [dueS_none hq.symm] at hu
        refine ⟨i, b, o, rfl, hlti, hAd, ?_⟩
        refine ⟨_, hcx 3 _ rfl, ?_⟩
        refine ⟨i, b, o, rfl, hlti, hAd, ?_⟩
        refine ⟨_, hcx 4 _ rfl, ?_⟩
        refine ⟨i, b, o, rfl, hlti, hAd, ?_⟩
        refine ⟨_, hcx 0 _ rfl, ?_⟩
        intro g6 w3 h3
        have hu3 := hu.ext h3.ext
        have M3 := M2.grow h3.ext
        refine ⟨rfl, rfl, rfl, w1.heap.size, _, _, (⟨x.giver, x.taker, x.id⟩ : Due).cells, hu3, M3.ext.size, Nat.le_of_ble_eq_true rfl, rfl, rfl, .inr ⟨g6, 0, rfl, Rd.of_block h3.here⟩, rfl, rfl, by omega, by simp only [maxLen]; omega, ?_⟩
        intro u4 w4 hu4 hg4 hpl
        have M4 := M3.grown hg4 (fun k hk => (hu3.lt k hk).1) (fun p hp => by cases hp)
        refine ⟨_, next, ?_⟩
        refine ⟨(i + 1, u4), ⟨rfl, rfl, rfl, trivial⟩, ⟨hlti, ?_, e1.trans M4.ext⟩, by show ws.length - (i + 1) < ws.length - i; omega⟩
        show NewL _ _ _ _ _ _ ((ws.take (i + 1)).foldl dueS [])
        rw [hsucc]
        unfold dueS
        rw [if_neg (by rw [← hq]; decide)]
        refine NewL.base ?_ e1.size
        unfold NewL
        rw [List.length_append, List.flatMap_append]
        simpa using hu4
      · have b1 : q = true := by simpa using b1
        rw [b1] at hq
        refine ⟨_, next, ?_⟩
        refine ⟨(i + 1, u), ⟨rfl, rfl, rfl, trivial⟩, ⟨hlti, ?_, e1.trans M2.ext⟩, by show ws.length - (i + 1) < ws.length - i; omega⟩
        show NewL _ _ _ _ _ _ ((ws.take (i + 1)).foldl dueS [])
        rw [hsucc]
        unfold dueS
        rw [if_pos hq.symm]
        exact hu.base e1.size
  · have hie : i = ws.length := by have : ¬ (i : Int) < (ws.length : Nat) := hge; omega
    rw [hie, List.take_length] at ho
    exact ⟨ho, e1⟩
end Go.Proofs.YtcnbpfecgokhiaaGreatDoor
namespace Go.Proofs.YtcnbpfecgokhiaaGreatDoor
open Go.Eng Go.RowKit
theorem insDue_none {d : Due} : ∀ {l : List Due}, (∀ x ∈ l, dueLt d x = false) → insDue d l = l ++ [d]
  | [], _ => rfl
  | y :: r, h => by
    rw [insDue, if_neg (by rw [h y (by simp)]; decide), insDue_none fun x hx => h x (by simp [hx])]; rfl
theorem insDue_some {d y : Due} : ∀ {l : List Due}, (∃ x ∈ l, dueLt d x = true) → insDue d (l ++ [y]) = insDue d l ++ [y]
  | [], h => by obtain ⟨x, hx, _⟩ := h; cases hx
  | z :: r, h => by
    show (if dueLt d z = true then d :: z :: (r ++ [y]) else z :: insDue d (r ++ [y])) = (if dueLt d z = true then d :: z :: r else z :: insDue d r) ++ [y]
    by_cases hz : dueLt d z = true
    · rw [if_pos hz, if_pos hz]; rfl
    · rw [if_neg hz, if_neg hz]
      obtain ⟨x, hx, hl⟩ := h
      rcases List.mem_cons.1 hx with rfl | hx
      · exact absurd hl hz
      · rw [insDue_some ⟨x, hx, hl⟩]; rfl
theorem insDue_first {d y : Due} : ∀ {l : List Due}, (∀ x ∈ l, dueLt d x = false) → dueLt d y = true → insDue d (l ++ [y]) = l ++ [d] ++ [y]
  | [], _, hy => by show (if dueLt d y = true then d :: y :: [] else y :: insDue d []) = _; rw [if_pos hy]; rfl
  | z :: r, h, hy => by
    show (if dueLt d z = true then d :: z :: (r ++ [y]) else z :: insDue d (r ++ [y])) = _
    rw [if_neg (by rw [h z (by simp)]; decide), insDue_first (fun x hx => h x (by simp [hx])) hy]; rfl
theorem insDue_len (d : Due) (l : List Due) : (insDue d l).length = l.length + 1 := (insDue_perm d l).length_eq
/-- Where the insertion of 'd' stands behind 'j' elements: what has been laid down, and whether 'd' is among it. -/
structure InsAt (d : Due) (out : List Due) (j : Nat) (N : List Due) (q : Bool) : Prop where
  done : q = true → N = insDue d (out.take j) ∧ ∃ x ∈ out.take j, dueLt d x = true
  yet : q = false → N = out.take j ∧ ∀ x ∈ out.take j, dueLt d x = false
theorem InsAt.start (d : Due) (out : List Due) : InsAt d out 0 [] false := ⟨(fun h => by cases h), fun _ => ⟨rfl, fun x hx => by cases hx⟩⟩
theorem InsAt.len {d : Due} {out : List Due} {j : Nat} {N : List Due} {q : Bool} (h : InsAt d out j N q) : N.length ≤ out.length + 1 := by
  cases q with
  | true => rw [(h.done rfl).1, insDue_len, List.length_take]; omega
  | false => rw [(h.yet rfl).1, List.length_take]; omega
theorem InsAt.skip {d : Due} {out : List Due} {j : Nat} {N : List Due} {q : Bool} (h : InsAt d out j N q) (hj : j < out.length) (hq : q = true ∨ dueLt d out[j] = false) : InsAt d out (j + 1) (N ++ [out[j]]) q := by
  have ht : out.take (j + 1) = out.take j ++ [out[j]] := List.take_succ_eq_append_getElem hj
  refine ⟨fun e => ?_, fun e => ?_⟩
  · obtain ⟨h1, x, hx, hl⟩ := h.done e
    rw [ht]
    exact ⟨by rw [insDue_some ⟨x, hx, hl⟩, h1], x, List.mem_append_left _ hx, hl⟩
  · obtain ⟨h1, h2⟩ := h.yet e
    rw [ht]
    refine ⟨by rw [h1], fun x hx => ?_⟩
    rcases List.mem_append.1 hx with hx | hx
    · exact h2 x hx
    · rw [List.mem_singleton.1 hx]
      rcases hq with hq | hq
      · rw [hq] at e; cases e
      · exact hq
theorem InsAt.put {d : Due} {out : List Due} {j : Nat} {N : List Due} (h : InsAt d out j N false) (hj : j < out.length) (hl : dueLt d out[j] = true) : InsAt d out (j + 1) ((N ++ [d]) ++ [out[j]]) true := by
  have ht : out.take (j + 1) = out.take j ++ [out[j]] := List.take_succ_eq_append_getElem hj
  obtain ⟨h1, h2⟩ := h.yet rfl
  refine ⟨fun _ => ?_, (fun e => by cases e)⟩
  rw [ht, insDue_first h2 hl, h1]
  exact ⟨rfl, out[j], List.mem_append_right _ (List.mem_singleton.2 rfl), hl⟩
theorem asOfL_dues {es : List Entry} (day : Int) : (dueL (asOfL es day)).length ≤ es.length := by
  have h1 := fold_due_len (waivL (asOfL es day)) []
  rw [owing_eq] at h1
  have h2 := waivL_length (asOfL es day)
  have h3 := asOfL_length es day
  simp only [List.length_nil] at h1
  omega
theorem fold_ins_len (l : List Due) : (l.foldl (fun acc d => insDue d acc) []).length = l.length := by
  have := (sortDue_fold l []).length_eq
  simpa using this
set_option maxRecDepth 100000 in
set_option maxHeartbeats 2000000 in
theorem refDues_spec {w : World} {A : Option Addr} {es : List Entry} {c : Nat} (h : HL Entry.cells w A es c) (hl : es.length ≤ 2 ^ 16) (hA : Acc es) (day : Int) :
    CallsV C.P 53 #[.agg #[.slice A es.length c], .int .i64 day] w fun v w' => NewL Due.cells 74 3 w.heap.size w' v (duesAt es day) ∧ Ext w w' := by
  have hal := asOfL_length es day
  have hwl := waivL_length (asOfL es day)
  have hdl := asOfL_dues (es := es) day
  refine callsV_of C_ok (args := [_, _]) (plans := plans53) Tryz.func53 rfl Tryz.ntmps53 (by kernel_rfl) (Nat.le_of_ble_eq_true rfl) ?_
  intro g2 w1 h1
  have M1 : Mem w w1 [(g2, .cells #[.slice A es.length c] 30 (0, 0))] := (Mem.start w).alloc h1
  refine ⟨[_], rfl, M1.rd 0 rfl, ?_⟩
  refine (refAsOf_spec (h.ext M1.ext) hl day).mono ?_
  rintro v w2 ⟨⟨v', rfl, hv⟩, e2⟩
  obtain ⟨A2, c2, rfl, h2⟩ := hv.hl
  refine (Granted_spec h2 (by omega) (acc_asOf hA day)).mono ?_
  rintro v w3 ⟨hw, e3⟩
  obtain ⟨A3, c3, rfl, h3⟩ := hw.hl
  refine (owing_spec h3 (by omega)).mono ?_
  rintro v w4 ⟨hd, e4⟩
  obtain ⟨l, hle⟩ : ∃ l, l = dueL (asOfL es day) := ⟨_, rfl⟩
  rw [owing_eq, ← hle] at hd
  rw [← hle] at hdl
  obtain ⟨A4, c4, rfl, h4⟩ := hd.hl
  have e04 : Ext w w4 := M1.ext.trans (e2.trans (e3.trans e4))
  have hfin : duesAt es day = l.foldl (fun acc d => insDue d acc) [] := by rw [hle]; rfl
  refine loopE C_ok (fun (p : Nat × Value) => [(5, .slice A4 l.length c4), (6, p.2), (7, .int .i64 p.1)])
    (fun p w' => p.1 ≤ l.length ∧ NewL Due.cells 74 3 w4.heap.size w' p.2 ((l.take p.1).foldl (fun acc d => insDue d acc) []) ∧ Ext w4 w') (fun p => l.length - p.1) (0, .slice none 0 0) ⟨rfl, rfl, rfl, trivial⟩
    ⟨Nat.zero_le _, newL_nil, Ext.refl _⟩ ?_
  rintro ⟨i, v⟩ w5 ⟨hi', ho', e5⟩
  have hi : i ≤ l.length := hi'
  have ho : NewL Due.cells 74 3 w4.heap.size w5 v ((l.take i).foldl (fun acc d => insDue d acc) []) := ho'
  clear hi' ho'
  refine brE_dec (fun hlt => ?_) (fun hge => ?_)
  · have hlti : i < l.length := by have : (i : Int) < (l.length : Nat) := hlt; omega
    have next : IntKind.i64.wrap ((i : Int) + 1) = ((i + 1 : Nat) : Int) := fit ⟨by omega, by omega⟩
    obtain ⟨d, hde⟩ : ∃ d, d = l[i] := ⟨_, rfl⟩
    have hsucc : (l.take (i + 1)).foldl (fun acc d => insDue d acc) [] = insDue d ((l.take i).foldl (fun acc d => insDue d acc) []) := by rw [List.take_succ_eq_append_getElem hlti, List.foldl_append, hde]; rfl
    have hol := fold_ins_len (l.take i)
    rw [List.length_take] at hol
    obtain ⟨out, hout⟩ : ∃ out, out = (l.take i).foldl (fun acc d => insDue d acc) [] := ⟨_, rfl⟩
    rw [← hout] at ho hsucc hol
    obtain ⟨Ao, co, rfl, hHo⟩ := ho.hl
    refine loopE C_ok (fun (p : Nat × Value × List Due × Bool) => [(5, .slice A4 l.length c4), (6, .slice Ao out.length co), (7, .int .i64 i), (8, p.2.1), (9, .bool p.2.2.2), (10, .int .i64 p.1)])
      (fun p w' => p.1 ≤ out.length ∧ NewL Due.cells 74 3 w5.heap.size w' p.2.1 p.2.2.1 ∧ InsAt d out p.1 p.2.2.1 p.2.2.2 ∧ Ext w5 w') (fun p => out.length - p.1) (0, .slice none 0 0, [], false) ⟨rfl, rfl, rfl, rfl, rfl, rfl, trivial⟩
      ⟨Nat.zero_le _, newL_nil, InsAt.start d out, Ext.refl _⟩ ?_
    rintro ⟨j, u, N, q⟩ w6 ⟨hj', hu', hI', e6⟩
    have hj : j ≤ out.length := hj'
    have hu : NewL Due.cells 74 3 w5.heap.size w6 u N := hu'
    have hI : InsAt d out j N q := hI'
    clear hj' hu' hI'
    have hNl := hI.len
    obtain ⟨bl, ol, hAl, hdl0⟩ := (h4.ext (e5.trans e6)).at Due.len (by omega) hlti
    rw [← hde] at hdl0
    refine brE_dec (fun hlt2 => ?_) (fun hge2 => ?_)
    · have hltj : j < out.length := by have : (j : Int) < (out.length : Nat) := hlt2; omega
      have next2 : IntKind.i64.wrap ((j : Int) + 1) = ((j + 1 : Nat) : Int) := fit ⟨by omega, by omega⟩
      obtain ⟨bo, oo, hAo, hdo⟩ := (hHo.ext e6).at Due.len (by omega) hltj
      refine brE_mk (fun hq => ?y0) (fun hq => ?q0)
      case' q0 =>
        have hq : q = true := by simpa using hq
        have hI7 := hI.skip hltj (.inl hq)
        have ho7 := hu
        have e7 := e6
        have hl7 : N.length ≤ out.length + 2 := by omega
        obtain ⟨N7, hN7⟩ : ∃ N7, N7 = N := ⟨_, rfl⟩
        rw [← hN7] at hI7 ho7 hl7
      case' y0 =>
        have hq : q = false := by simpa using hq
        subst hq
        refine ⟨i, bl, ol, rfl, hlti, hAl, ?_⟩
        refine ⟨_, hdl0 0 _ rfl, ?_⟩
        refine ⟨j, bo, oo, rfl, hltj, hAo, ?_⟩
        refine ⟨_, hdo 0 _ rfl, ?_⟩
        refine brE_dec (fun k1 => ?y1) (fun k1 => ?n1)
      case' y1 =>
        have k1 : d.cred < out[j].cred := k1
        have hlt' : dueLt d out[j] = true := dueLt_iff.2 (.inl k1)
      case' n1 =>
        have k1 : ¬ d.cred < out[j].cred := k1
        refine ⟨i, bl, ol, rfl, hlti, hAl, ?_⟩
        refine ⟨_, hdl0 0 _ rfl, ?_⟩
        refine ⟨j, bo, oo, rfl, hltj, hAo, ?_⟩
        refine ⟨_, hdo 0 _ rfl, ?_⟩
        refine brE_dec (fun k2 => ?y2) (fun k2 => ?n2)
      case' n2 =>
        have k2 : ¬ d.cred = out[j].cred := k2
        have hnl : dueLt d out[j] = false := by
          cases e : dueLt d out[j] with
          | false => rfl
          | true => exact absurd (dueLt_iff.1 e) (by omega)
      case' y2 =>
        have k2 : d.cred = out[j].cred := k2
        refine ⟨i, bl, ol, rfl, hlti, hAl, ?_⟩
        refine ⟨_, hdl0 1 _ rfl, ?_⟩
        refine ⟨j, bo, oo, rfl, hltj, hAo, ?_⟩
        refine ⟨_, hdo 1 _ rfl, ?_⟩
        refine brE_dec (fun k3 => ?y3) (fun k3 => ?n3)
      case' y3 =>
        have k3 : d.debt < out[j].debt := k3
        have hlt' : dueLt d out[j] = true := dueLt_iff.2 (.inr ⟨k2, k3⟩)
      case' n3 =>
        have k3 : ¬ d.debt < out[j].debt := k3
        have hnl : dueLt d out[j] = false := by
          cases e : dueLt d out[j] with
          | false => rfl
          | true => exact absurd (dueLt_iff.1 e) (by omega)
      case' n2 | n3 =>
        have hI7 := hI.skip hltj (.inr hnl)
        have ho7 := hu
        have e7 := e6
        have hl7 : N.length ≤ out.length + 2 := by omega
        obtain ⟨N7, hN7⟩ : ∃ N7, N7 = N := ⟨_, rfl⟩
        rw [← hN7] at hI7 ho7 hl7
      case' y1 | y3 =>
        refine ⟨i, bl, ol, rfl, hlti, hAl, ?_⟩
        refine ⟨d.cells, rfl, hdl0, ?_⟩
        intro g7 w7 h7
        have hu7 := hu.ext h7.ext
        refine ⟨rfl, rfl, rfl, w5.heap.size, _, _, d.cells, hu7, (e6.trans h7.ext).size, Nat.le_of_ble_eq_true rfl, rfl, rfl, .inr ⟨g7, 0, rfl, Rd.of_block h7.here⟩, rfl, rfl, by omega, by simp only [maxLen]; omega, ?_⟩
        intro u7 w7' ho7' hg7 _
        have ho7 : NewL Due.cells 74 3 w5.heap.size w7' u7 (N ++ [d]) := by
          unfold NewL
          rw [List.length_append, List.flatMap_append]
          simpa using ho7'
        have e7 : Ext w5 w7' := app_ext (e6.trans h7.ext) hu7 hg7
        have hI7 := hI.put hltj hlt'
        have hl7 : (N ++ [d]).length ≤ out.length + 2 := by rw [List.length_append, List.length_singleton]; omega
        obtain ⟨N7, hN7⟩ : ∃ N7, N7 = N ++ [d] := ⟨_, rfl⟩
        rw [← hN7] at hI7 ho7 hl7
      all_goals
        obtain ⟨bo2, oo2, hAo2, hdo2⟩ := (hHo.ext e7).at Due.len (by omega) hltj
        refine ⟨j, bo2, oo2, rfl, hltj, hAo2, ?_⟩
        refine ⟨out[j].cells, rfl, hdo2, ?_⟩
        intro g8 w8 h8
        have ho8 := ho7.ext h8.ext
        refine ⟨rfl, rfl, rfl, w5.heap.size, _, _, out[j].cells, ho8, (e7.trans h8.ext).size, Nat.le_of_ble_eq_true rfl, rfl, rfl, .inr ⟨g8, 0, rfl, Rd.of_block h8.here⟩, rfl, rfl, by omega, by simp only [maxLen]; omega, ?_⟩
        intro u9 w9 ho9 hg9 _
        refine ⟨_, next2, ?_⟩
        refine ⟨(j + 1, u9, N7 ++ [out[j]], _), ⟨rfl, rfl, rfl, rfl, rfl, rfl, trivial⟩, ⟨hltj, ?_, hI7, app_ext (e7.trans h8.ext) ho8 hg9⟩, by show out.length - (j + 1) < out.length - j; omega⟩
        show NewL _ _ _ _ _ _ (N7 ++ [out[j]])
        unfold NewL
        rw [List.length_append, List.flatMap_append]
        simpa using ho9
    · have hje : j = out.length := by have : ¬ (j : Int) < (out.length : Nat) := hge2; omega
      rw [hje] at hI
      refine brE_mk (fun hq => ?_) (fun hq => ?_)
      · have hq : q = false := by simpa using hq
        subst hq
        obtain ⟨hN, hno⟩ := hI.yet rfl
        rw [List.take_length] at hN hno
        refine ⟨i, bl, ol, rfl, hlti, hAl, ?_⟩
        refine ⟨d.cells, rfl, hdl0, ?_⟩
        intro g7 w7 h7
        have hu7 := hu.ext h7.ext
        refine ⟨rfl, rfl, rfl, w5.heap.size, _, _, d.cells, hu7, (e6.trans h7.ext).size, Nat.le_of_ble_eq_true rfl, rfl, rfl, .inr ⟨g7, 0, rfl, Rd.of_block h7.here⟩, rfl, rfl, by omega, by simp only [maxLen]; omega, ?_⟩
        intro u7 w7' ho7' hg7 _
        have ho7 : NewL Due.cells 74 3 w5.heap.size w7' u7 (N ++ [d]) := by
          unfold NewL
          rw [List.length_append, List.flatMap_append]
          simpa using ho7'
        have e7 : Ext w5 w7' := app_ext (e6.trans h7.ext) hu7 hg7
        refine ⟨_, next, ?_⟩
        refine ⟨(i + 1, u7), ⟨rfl, rfl, rfl, trivial⟩, ⟨hlti, ?_, e5.trans e7⟩, by show l.length - (i + 1) < l.length - i; omega⟩
        show NewL _ _ _ _ _ _ ((l.take (i + 1)).foldl (fun acc d => insDue d acc) [])
        rw [hsucc, insDue_none hno, ← hN]
        exact ho7.base e5.size
      · have hq : q = true := by simpa using hq
        subst hq
        obtain ⟨hN, _⟩ := hI.done rfl
        rw [List.take_length] at hN
        refine ⟨_, next, ?_⟩
        refine ⟨(i + 1, u), ⟨rfl, rfl, rfl, trivial⟩, ⟨hlti, ?_, e5.trans e6⟩, by show l.length - (i + 1) < l.length - i; omega⟩
        show NewL _ _ _ _ _ _ ((l.take (i + 1)).foldl (fun acc d => insDue d acc) [])
        rw [hsucc, ← hN]
        exact hu.base e5.size
  · have hie : i = l.length := by have : ¬ (i : Int) < (l.length : Nat) := hge; omega
    rw [hie, List.take_length] at ho
    rw [hfin]
    exact ⟨NewL.base ho e04.size, e04.trans e5⟩
theorem owesL_found {l : List Due} {c d : Int} {i : Nat} (hi : i < l.length) (h1 : l[i].cred = c) (h2 : l[i].debt = d) (hno : ∀ j (hj : j < l.length), j < i → ¬ (l[j].debt = d ∧ l[j].cred = c)) : owesL l c d = some l[i] := by
  unfold owesL
  rw [List.find?_eq_some_iff_getElem]
  refine ⟨by simp [h1, h2], i, hi, rfl, fun j hj => ?_⟩
  have := hno j (by omega) hj
  simp only [Bool.not_eq_true', decide_eq_false_iff_not]
  exact fun e => this ⟨e.2, e.1⟩
theorem owesL_none {l : List Due} {c d : Int} (hno : ∀ j (hj : j < l.length), ¬ (l[j].debt = d ∧ l[j].cred = c)) : owesL l c d = none := by
  unfold owesL
  rw [List.find?_eq_none]
  intro x hx
  obtain ⟨j, hj, rfl⟩ := List.getElem_of_mem hx
  have := hno j hj
  simp only [decide_eq_true_eq]
  exact fun e => this ⟨e.2, e.1⟩
set_option maxRecDepth 100000 in
set_option maxHeartbeats 1000000 in
theorem refOwes_spec {w : World} {A : Option Addr} {es : List Entry} {c : Nat} (h : HL Entry.cells w A es c) (hl : es.length ≤ 2 ^ 16) (hA : Acc es) (debt cred day : Int) :
    CallsV C.P 50 #[.agg #[.slice A es.length c], .int .i64 debt, .int .i64 cred, .int .i64 day] w fun v w' => v = .tuple #[(owesAt es debt cred day).1.val, .bool (owesAt es debt cred day).2] ∧ Ext w w' := by
  have hdl := asOfL_dues (es := es) day
  have hsort : owesL (duesAt es day) cred debt = owesL (dueL (asOfL es day)) cred debt := owes_sort (acc_ok (acc_asOf hA day)).dues cred debt
  have hlen : (duesAt es day).length = (dueL (asOfL es day)).length := (sortDue_perm _).length_eq
  refine callsV_of C_ok (args := [_, _, _, _]) (plans := []) Tryz.func50 rfl Tryz.ntmps50 (by kernel_rfl) (Nat.le_of_ble_eq_true rfl) ?_
  intro g4 w1 h1
  have M1 : Mem w w1 [(g4, .cells #[.slice A es.length c] 30 (0, 0))] := (Mem.start w).alloc h1
  intro g8 w2 h2
  have M2 : Mem w w2 [(g8, .cells dueZ.cells.toArray 74 (0, 0)), (g4, .cells #[.slice A es.length c] 30 (0, 0))] := M1.alloc h2
  clear M1 h1 h2
  refine ⟨[_], rfl, M2.rd 1 rfl, ?_⟩
  refine (refDues_spec (h.ext M2.ext) hl hA day).mono ?_
  rintro v w3 ⟨hv, e3⟩
  have M3 := M2.grow e3
  obtain ⟨l, hle⟩ : ∃ l, l = duesAt es day := ⟨_, rfl⟩
  rw [← hle] at hv hsort hlen
  obtain ⟨A3, c3, rfl, h3⟩ := hv.hl
  refine loopE C_ok (fun (i : Nat) => [(1, .int .i64 debt), (2, .int .i64 cred), (8, .pointer (some ⟨g8, 0, none⟩)), (10, .slice A3 l.length c3), (11, .int .i64 i)])
    (fun i w' => i ≤ l.length ∧ (∀ j (hj : j < l.length), j < i → ¬ (l[j].debt = debt ∧ l[j].cred = cred)) ∧ w' = w3) (fun i => l.length - i) 0 ⟨rfl, rfl, rfl, rfl, rfl, trivial⟩
    ⟨Nat.zero_le _, (fun _ _ h => absurd h (Nat.not_lt_zero _)), rfl⟩ ?_
  rintro i w4 ⟨hi, hno, rfl⟩
  refine brE_dec (fun hlt => ?_) (fun hge => ?_)
  · have hlti : i < l.length := by have : (i : Int) < (l.length : Nat) := hlt; omega
    have next : IntKind.i64.wrap ((i : Int) + 1) = ((i + 1 : Nat) : Int) := fit ⟨by omega, by omega⟩
    obtain ⟨b, o, hA3, hc⟩ := h3.at Due.len (by omega) hlti
    have no : ¬ (l[i].debt = debt ∧ l[i].cred = cred) → (i + 1 ≤ l.length ∧ (∀ j (hj : j < l.length), j < i + 1 → ¬ (l[j].debt = debt ∧ l[j].cred = cred)) ∧ w4 = w4) := fun hP =>
      ⟨hlti, fun j hj hji => by
        rcases Nat.lt_or_ge j i with hlt | hge
        · exact hno j hj hlt
        · obtain rfl : j = i := by omega
          exact hP, rfl⟩
    refine ⟨i, b, o, rfl, hlti, hA3, ?_⟩
    refine ⟨_, hc 1 _ rfl, ?_⟩
    refine brE_dec (fun k1 => ?_) (fun k1 => ?_)
    · have k1 : l[i].debt = debt := k1
      refine ⟨i, b, o, rfl, hlti, hA3, ?_⟩
      refine ⟨_, hc 0 _ rfl, ?_⟩
      refine brE_dec (fun k2 => ?_) (fun k2 => ?_)
      · have k2 : l[i].cred = cred := k2
        refine ⟨i, b, o, rfl, hlti, hA3, ?_⟩
        refine ⟨l[i].cells, rfl, hc, ?_⟩
        refine ⟨rfl, _, _, M3.get 0 rfl, Nat.le_of_ble_eq_true rfl, rfl, ?_⟩
        intro w5 h5
        have M5 : Mem w w5 [(g8, .cells l[i].cells.toArray 74 (0, 0)), (g4, .cells #[.slice A es.length c] 30 (0, 0))] := M3.put 0 rfl h5
        refine ⟨l[i].cells, rfl, M5.rd 0 rfl, ?_⟩
        have ho : owesAt es debt cred day = (l[i], true) := by
          unfold owesAt
          rw [← hsort, owesL_found hlti k2 k1 hno]
        rw [ho]
        exact ⟨rfl, M5.ext⟩
      · have k2 : ¬ l[i].cred = cred := k2
        refine ⟨_, next, ?_⟩
        exact ⟨i + 1, ⟨rfl, rfl, rfl, rfl, rfl, trivial⟩, no (fun e => k2 e.2), by show l.length - (i + 1) < l.length - i; omega⟩
    · have k1 : ¬ l[i].debt = debt := k1
      refine ⟨_, next, ?_⟩
      exact ⟨i + 1, ⟨rfl, rfl, rfl, rfl, rfl, trivial⟩, no (fun e => k1 e.1), by show l.length - (i + 1) < l.length - i; omega⟩
  · have hie : i = l.length := by have : ¬ (i : Int) < (l.length : Nat) := hge; omega
    refine ⟨rfl, _, _, M3.get 0 rfl, Nat.le_of_ble_eq_true rfl, rfl, ?_⟩
    intro w5 h5
    have M5 : Mem w w5 [(g8, .cells dueZ.cells.toArray 74 (0, 0)), (g4, .cells #[.slice A es.length c] 30 (0, 0))] := M3.put 0 rfl h5
    refine ⟨dueZ.cells, rfl, M5.rd 0 rfl, ?_⟩
    have ho : owesAt es debt cred day = (dueZ, false) := by
      unfold owesAt
      rw [← hsort, owesL_none fun j hj => hno j hj (by omega)]
    rw [ho]
    exact ⟨rfl, M5.ext⟩
end Go.Proofs.YtcnbpfecgokhiaaGreatDoor
