/- Facts, the reference: whether a fact is well-formed: the program (printed by tools/fform.py). -/
import Derived.Test.YtcnbpfecgokhiaaGreatDoorDBe
set_option linter.unusedVariables false
set_option linter.unusedSimpArgs false
set_option linter.unnecessarySimpa false
set_option linter.unusedSectionVars false
namespace Go.Proofs.YtcnbpfecgokhiaaGreatDoor
open Go.Eng Go.RowKit

def plainF (x : Fact) : Fact := ⟨x.id, x.known, x.kind, 0, 0, 0, x.since, x.til, ⟨#[]⟩⟩
set_option maxRecDepth 100000 in
theorem plain_spec (x : Fact) (w : World) : CallsV C.P 193 #[x.val] w fun v w' => v = (plainF x).val ∧ Ext w w' := by
  refine callsV_of C_ok (args := [_]) (plans := []) Tryz.func193 rfl Tryz.ntmps193 (by kernel_rfl) (Nat.le_of_ble_eq_true rfl) ?_
  intro g1 w1 h1
  have M1 : Mem w w1 [(g1, .cells x.cells.toArray 81 (0, 0))] := (Mem.start w).alloc h1
  intro g2 w2 h2
  have M2 := M1.alloc h2
  refine ⟨_, M2.cell 1 rfl rfl, ?_⟩
  refine ⟨_, M2.cell 1 rfl rfl, ?_⟩
  refine ⟨_, M2.cell 1 rfl rfl, ?_⟩
  refine ⟨_, M2.cell 1 rfl rfl, ?_⟩
  refine ⟨_, M2.cell 1 rfl rfl, ?_⟩
  refine ⟨rfl, _, _, M2.get 0 rfl, Nat.le_of_ble_eq_true rfl, rfl, ?_⟩
  intro w3 h3
  have M3 : Mem w w3 [(g2, .cells (plainF x).cells.toArray 81 (0, 0)), (g1, .cells x.cells.toArray 81 (0, 0))] := M2.put 0 rfl h3
  exact ⟨(plainF x).cells, rfl, M3.rd 0 rfl, rfl, M3.ext⟩

def daysB (x : Fact) : Bool := dayB x.known && dayB x.since && (decide (x.til = 0) || decide (x.since < x.til ∧ x.til ≤ 100000))
theorem head_days (x : Fact) : headB x = (decide (1 ≤ x.kind ∧ x.kind ≤ 11) && (daysB x && idB x.id)) := by
  unfold headB daysB
  generalize decide (1 ≤ x.kind ∧ x.kind ≤ 11) = a
  generalize idB x.id = b
  generalize dayB x.known = c
  generalize dayB x.since = d
  generalize (decide (x.til = 0) || decide (x.since < x.til ∧ x.til ≤ 100000)) = e
  revert a b c d e
  decide

/-- What stands for each kind: whether the fields are right, and what the fact must be. -/
def refOk (x : Fact) : Bool :=
  if x.kind = 1 then idB x.who && decide (1 ≤ x.other ∧ x.other ≤ 3)
  else if x.kind = 2 ∨ x.kind = 3 then idB x.who && (idB x.what && decide (1 ≤ x.other ∧ x.other ≤ 4))
  else if x.kind = 4 then idB x.who && (idB x.what && idB x.other)
  else if x.kind = 5 then idB x.who && idB x.what
  else if x.kind = 6 ∨ x.kind = 9 then idB x.who && (idB x.other && !decide (x.other = x.who))
  else if x.kind = 7 then idB x.who
  else if x.kind = 8 then idB x.who && (idB x.what && decide (1 ≤ x.other ∧ x.other ≤ 2))
  else if x.kind = 10 then idB x.who && decide (x.til = 0)
  else if x.kind = 11 then idB x.what && (!decide (x.what = x.id) && (decide (x.since = 0) && decide (x.til = 0)))
  else false
def refY (x : Fact) : Fact :=
  if x.kind = 1 then { plainF x with who := x.who, other := x.other, name := x.name }
  else if x.kind = 2 ∨ x.kind = 3 ∨ x.kind = 4 ∨ x.kind = 8 then { plainF x with who := x.who, what := x.what, other := x.other }
  else if x.kind = 5 then { plainF x with who := x.who, what := x.what }
  else if x.kind = 6 ∨ x.kind = 9 then { plainF x with who := x.who, other := x.other }
  else if x.kind = 7 ∨ x.kind = 10 then { plainF x with who := x.who }
  else if x.kind = 11 then { plainF x with what := x.what }
  else plainF x
theorem ref_fin {x : Fact} (h1 : 1 ≤ x.kind) (h2 : x.kind ≤ 11) : (refOk x && decide (x = refY x)) = (restB x && rightB x) := by
  obtain ⟨x0, x1, x2, x3, x4, x5, x6, x7, x8⟩ := x
  have h1 : 1 ≤ x2 := h1
  have h2 : x2 ≤ 11 := h2
  have cases : x2 = 1 ∨ x2 = 2 ∨ x2 = 3 ∨ x2 = 4 ∨ x2 = 5 ∨ x2 = 6 ∨ x2 = 7 ∨ x2 = 8 ∨ x2 = 9 ∨ x2 = 10 ∨ x2 = 11 := by omega
  rw [Bool.eq_iff_iff]
  rcases cases with rfl | rfl | rfl | rfl | rfl | rfl | rfl | rfl | rfl | rfl | rfl <;> simp [refOk, refY, plainF, restB, rightB, offs, Fact.mk.injEq] <;> (try constructor) <;> intros <;> simp_all <;> omega
theorem form_ref {x : Fact} (hh : headB x = true) : formE x = if (refOk x && decide (x = refY x)) = true then (if x.kind = 1 ∧ nameB x.name.data.toList = false then 4 else 0) else 1 := by
  have hk := (headB_iff.1 hh).1
  unfold formE
  rw [ref_fin hk.1 hk.2, hh, Bool.true_and]
theorem ref_kind {x : Fact} (h : refOk x = true) : 1 ≤ x.kind ∧ x.kind ≤ 11 := by
  unfold refOk at h
  by_cases h0 : 1 ≤ x.kind ∧ x.kind ≤ 11
  · exact h0
  · rw [if_neg (by omega), if_neg (by omega), if_neg (by omega), if_neg (by omega), if_neg (by omega), if_neg (by omega), if_neg (by omega), if_neg (by omega), if_neg (by omega)] at h
    cases h

set_option maxRecDepth 100000 in
set_option maxHeartbeats 2000000 in
theorem refFormed_spec (x : Fact) (hx : x.Nums) (w : World) : CallsV C.P 167 #[x.val] w fun v w' => v = .int .i64 (formE x) ∧ Ext w w' := by
  refine callsV_ofS (args := [_]) Tryz.func167 rfl Tryz.ntmps167 C_ok (Nat.le_of_ble_eq_true rfl) ?_
  refine Snd.go C_ok plans167 (by kernel_rfl) ?_
  intro g1 w1 h1
  have M1 : Mem w w1 [(g1, .cells x.cells.toArray 81 (0, 0))] := (Mem.start w).alloc h1
  refine ⟨Snd.join C_ok plans167 (fun b : Bool => [(1, .pointer (some ⟨g1, 0, none⟩)), (3, .bool b)]) (fun b w' => w' = w1 ∧ b = daysB x) (by kernel_rfl) ?_ ?_⟩
  · refine ⟨_, M1.cell 0 rfl rfl, ?_⟩
    refine (within_spec x.known 0 100000 _).mono ?_
    rintro _ w2 ⟨rfl, rfl⟩
    refine brE_dec (fun a1 => ?_) (fun a1 => ?_)
    · have a1 : 0 ≤ x.known ∧ x.known ≤ 100000 := a1
      refine ⟨_, M1.cell 0 rfl rfl, ?_⟩
      refine (within_spec x.since 0 100000 _).mono ?_
      rintro _ w2 ⟨rfl, rfl⟩
      refine brE_dec (fun a2 => ?_) (fun a2 => ?_)
      · have a2 : 0 ≤ x.since ∧ x.since ≤ 100000 := a2
        refine ⟨_, M1.cell 0 rfl rfl, ?_⟩
        refine brE_dec (fun a3 => ?_) (fun a3 => ?_)
        · have a3 : x.til = 0 := a3
          refine ⟨true, ⟨rfl, rfl, trivial⟩, rfl, ?_⟩
          simp [daysB, dayB, a1, a2, a3]
        · have a3 : ¬ x.til = 0 := a3
          refine ⟨_, M1.cell 0 rfl rfl, ?_⟩
          refine ⟨_, M1.cell 0 rfl rfl, ?_⟩
          refine brE_dec (fun a4 => ?_) (fun a4 => ?_)
          · have a4 : x.til > x.since := a4
            refine ⟨_, M1.cell 0 rfl rfl, ?_⟩
            refine ⟨decide (x.til ≤ 100000), ⟨rfl, rfl, trivial⟩, rfl, ?_⟩
            have a5 : x.since < x.til := a4
            simp [daysB, dayB, a1, a2, a3, a5]
          · have a4 : ¬ x.since < x.til := a4
            refine ⟨false, ⟨rfl, rfl, trivial⟩, rfl, ?_⟩
            simp [daysB, dayB, a1, a2, a3, a4]
      · have a2 : ¬ (0 ≤ x.since ∧ x.since ≤ 100000) := a2
        refine ⟨false, ⟨rfl, rfl, trivial⟩, rfl, ?_⟩
        unfold daysB dayB
        rw [decide_eq_false a2]; simp
    · have a1 : ¬ (0 ≤ x.known ∧ x.known ≤ 100000) := a1
      refine ⟨false, ⟨rfl, rfl, trivial⟩, rfl, ?_⟩
      unfold daysB dayB
      rw [decide_eq_false a1]; simp
  rintro b w2 ⟨rfl, hb⟩
  refine Snd.go C_ok plans167 (by kernel_rfl) ?_
  refine ⟨_, M1.cell 0 rfl rfl, ?_⟩
  refine (refId_spec x.id _).mono ?_
  rintro _ w3 ⟨rfl, rfl⟩
  refine ⟨Snd.go C_ok plans167 (by kernel_rfl) ?_⟩
  have bad : ∀ {w' : World}, (headB x = true → False) → Ext w w' → Value.int .i64 1 = .int .i64 (formE x) ∧ Ext w w' := fun h e => ⟨by rw [formE_head (headB_no h)], e⟩
  refine brE_mk (fun a1 => ?_) (fun a1 => ?_)
  · exact bad (fun h => by rw [head_days, ← hb] at h; cases b <;> simp at a1 h) M1.ext
  have a1 : daysB x = true := by rw [← hb]; simpa using a1
  refine brE_mk (fun a2 => ?_) (fun a2 => ?_)
  · exact bad (fun h => by rw [head_days] at h; cases hi : idB x.id <;> rw [hi] at a2 h <;> simp at a2 h) M1.ext
  have a2 : idB x.id = true := by simpa using a2
  have hhead : (1 ≤ x.kind ∧ x.kind ≤ 11) → headB x = true := fun h => by rw [head_days, a1, a2, decide_eq_true h]; rfl
  clear bad
  refine ⟨Snd.go C_ok plans167 (by kernel_rfl) ?_⟩
  refine ⟨_, M1.cell 0 rfl rfl, ?_⟩
  refine (refId_spec x.who _).mono ?_
  rintro _ w3 ⟨rfl, rfl⟩
  refine ⟨Snd.go C_ok plans167 (by kernel_rfl) ?_⟩
  refine ⟨_, M1.cell 0 rfl rfl, ?_⟩
  refine (refId_spec x.what _).mono ?_
  rintro _ w3 ⟨rfl, rfl⟩
  refine ⟨Snd.go C_ok plans167 (by kernel_rfl) ?_⟩
  refine ⟨_, M1.cell 0 rfl rfl, ?_⟩
  refine (refId_spec x.other _).mono ?_
  rintro _ w3 ⟨rfl, rfl⟩
  refine ⟨Snd.go C_ok plans167 (by kernel_rfl) ?_⟩
  refine ⟨x.cells, rfl, M1.rd 0 rfl, ?_⟩
  refine (plain_spec x _).mono ?_
  rintro _ w4 ⟨rfl, e4⟩
  have M4 := M1.grow e4
  intro g8 w5 h5
  have M5 := M4.alloc h5
  refine ⟨rfl, _, _, M5.get 0 rfl, Nat.le_of_ble_eq_true rfl, rfl, ?_⟩
  intro w6 h6
  have M6 : Mem w w6 [(g8, .cells (plainF x).cells.toArray 81 (0, 0)), (g1, .cells x.cells.toArray 81 (0, 0))] := M5.put 0 rfl h6
  have hne : g1 ≠ g8 := fun e => by
    have := M6.nodup
    simp [e] at this
  clear M5 M4 h5 h6 e4
  refine ⟨Snd.go C_ok plans167 (by kernel_rfl) ?_⟩
  refine ⟨Snd.join C_ok plans167 (fun ok : Bool => [(1, .pointer (some ⟨g1, 0, none⟩)), (8, .pointer (some ⟨g8, 0, none⟩)), (9, .bool ok)])
    (fun ok w' => ok = refOk x ∧ Mem w w' [(g8, .cells (refY x).cells.toArray 81 (0, 0)), (g1, .cells x.cells.toArray 81 (0, 0))]) (by kernel_rfl) ?_ ?_⟩
  · refine ⟨_, M6.cell 1 rfl rfl, ?_⟩
    refine brE_dec (fun k1 => ?_) (fun k1 => ?_)
    · have k1 : x.kind = 1 := k1
      refine ⟨fun k => k ≠ g8, ?_⟩
      refine ⟨_, M6.cell 1 rfl rfl, ?_⟩
      refine ⟨.int .i64 x.other, fun u hu => ⟨_, hu.cell hne (M6.cell 1 (i := 5) rfl rfl), rfl⟩, ?_⟩
      refine ⟨.string x.name, fun u hu => ⟨_, hu.cell hne (M6.cell 1 (i := 8) rfl rfl), rfl⟩, ?_⟩
      refine ⟨rfl, _, _, M6.get 0 rfl, Nat.le_of_ble_eq_true rfl, rfl, ?_⟩
      intro v0 s0
      have N0 := M6.put 0 rfl s0
      have kp0 : Keep (fun k => k ≠ g8) w6 v0 := (Keep.refl _ w6).put s0 (fun h => h rfl)
      refine ⟨kp0, ?_⟩
      refine ⟨rfl, _, _, N0.get 0 rfl, Nat.le_of_ble_eq_true rfl, rfl, ?_⟩
      intro v1 s1
      have N1 := N0.put 0 rfl s1
      have kp1 : Keep (fun k => k ≠ g8) w6 v1 := kp0.put s1 (fun h => h rfl)
      refine ⟨kp1, ?_⟩
      refine ⟨rfl, _, _, N1.get 0 rfl, Nat.le_of_ble_eq_true rfl, rfl, ?_⟩
      intro v2 s2
      have N2 := N1.put 0 rfl s2
      refine brE_mk (fun t_who => ?_) (fun t_who => ?_)
      · have t_who : idB x.who = true := t_who
        refine ⟨_, N2.cell 1 rfl rfl, ?_⟩
        refine (within_spec x.other 1 3 _).mono ?_
        rintro _ w8 ⟨rfl, rfl⟩
        exact ⟨decide (1 ≤ x.other ∧ x.other ≤ 3), ⟨rfl, rfl, rfl, trivial⟩, by simp [refOk, k1, t_who], by unfold refY; simp only [k1, reduceIte, Int.reduceEq, or_true, true_or, or_false, or_self, false_or]; exact N2⟩
      · have t_who : idB x.who = false := t_who
        exact ⟨false, ⟨rfl, rfl, rfl, trivial⟩, by simp [refOk, k1, t_who], by unfold refY; simp only [k1, reduceIte, Int.reduceEq, or_true, true_or, or_false, or_self, false_or]; exact N2⟩
    have k1 : ¬ x.kind = 1 := k1
    refine brE_dec (fun k2 => ?_) (fun k2 => ?_)
    · have k2 : x.kind = 2 := k2
      refine brE_true (decide_eq_true k2) ?_
      refine ⟨fun k => k ≠ g8, ?_⟩
      refine ⟨_, M6.cell 1 rfl rfl, ?_⟩
      refine ⟨.int .i64 x.what, fun u hu => ⟨_, hu.cell hne (M6.cell 1 (i := 4) rfl rfl), rfl⟩, ?_⟩
      refine ⟨.int .i64 x.other, fun u hu => ⟨_, hu.cell hne (M6.cell 1 (i := 5) rfl rfl), rfl⟩, ?_⟩
      refine ⟨rfl, _, _, M6.get 0 rfl, Nat.le_of_ble_eq_true rfl, rfl, ?_⟩
      intro v0 s0
      have N0 := M6.put 0 rfl s0
      have kp0 : Keep (fun k => k ≠ g8) w6 v0 := (Keep.refl _ w6).put s0 (fun h => h rfl)
      refine ⟨kp0, ?_⟩
      refine ⟨rfl, _, _, N0.get 0 rfl, Nat.le_of_ble_eq_true rfl, rfl, ?_⟩
      intro v1 s1
      have N1 := N0.put 0 rfl s1
      have kp1 : Keep (fun k => k ≠ g8) w6 v1 := kp0.put s1 (fun h => h rfl)
      refine ⟨kp1, ?_⟩
      refine ⟨rfl, _, _, N1.get 0 rfl, Nat.le_of_ble_eq_true rfl, rfl, ?_⟩
      intro v2 s2
      have N2 := N1.put 0 rfl s2
      refine brE_mk (fun t_who => ?_) (fun t_who => ?_)
      · have t_who : idB x.who = true := t_who
        refine brE_mk (fun t_what => ?_) (fun t_what => ?_)
        · have t_what : idB x.what = true := t_what
          refine ⟨_, N2.cell 1 rfl rfl, ?_⟩
          refine (within_spec x.other 1 4 _).mono ?_
          rintro _ w8 ⟨rfl, rfl⟩
          exact ⟨decide (1 ≤ x.other ∧ x.other ≤ 4), ⟨rfl, rfl, rfl, trivial⟩, by simp [refOk, k2, t_who, t_what], by unfold refY; simp only [k2, reduceIte, Int.reduceEq, or_true, true_or, or_false, or_self, false_or]; exact N2⟩
        · have t_what : idB x.what = false := t_what
          exact ⟨false, ⟨rfl, rfl, rfl, trivial⟩, by simp [refOk, k2, t_who, t_what], by unfold refY; simp only [k2, reduceIte, Int.reduceEq, or_true, true_or, or_false, or_self, false_or]; exact N2⟩
      · have t_who : idB x.who = false := t_who
        exact ⟨false, ⟨rfl, rfl, rfl, trivial⟩, by simp [refOk, k2, t_who], by unfold refY; simp only [k2, reduceIte, Int.reduceEq, or_true, true_or, or_false, or_self, false_or]; exact N2⟩
    have k2 : ¬ x.kind = 2 := k2
    refine brE_dec (fun k3 => ?_) (fun k3 => ?_)
    · have k3 : x.kind = 3 := k3
      refine ⟨fun k => k ≠ g8, ?_⟩
      refine ⟨_, M6.cell 1 rfl rfl, ?_⟩
      refine ⟨.int .i64 x.what, fun u hu => ⟨_, hu.cell hne (M6.cell 1 (i := 4) rfl rfl), rfl⟩, ?_⟩
      refine ⟨.int .i64 x.other, fun u hu => ⟨_, hu.cell hne (M6.cell 1 (i := 5) rfl rfl), rfl⟩, ?_⟩
      refine ⟨rfl, _, _, M6.get 0 rfl, Nat.le_of_ble_eq_true rfl, rfl, ?_⟩
      intro v0 s0
      have N0 := M6.put 0 rfl s0
      have kp0 : Keep (fun k => k ≠ g8) w6 v0 := (Keep.refl _ w6).put s0 (fun h => h rfl)
      refine ⟨kp0, ?_⟩
      refine ⟨rfl, _, _, N0.get 0 rfl, Nat.le_of_ble_eq_true rfl, rfl, ?_⟩
      intro v1 s1
      have N1 := N0.put 0 rfl s1
      have kp1 : Keep (fun k => k ≠ g8) w6 v1 := kp0.put s1 (fun h => h rfl)
      refine ⟨kp1, ?_⟩
      refine ⟨rfl, _, _, N1.get 0 rfl, Nat.le_of_ble_eq_true rfl, rfl, ?_⟩
      intro v2 s2
      have N2 := N1.put 0 rfl s2
      refine brE_mk (fun t_who => ?_) (fun t_who => ?_)
      · have t_who : idB x.who = true := t_who
        refine brE_mk (fun t_what => ?_) (fun t_what => ?_)
        · have t_what : idB x.what = true := t_what
          refine ⟨_, N2.cell 1 rfl rfl, ?_⟩
          refine (within_spec x.other 1 4 _).mono ?_
          rintro _ w8 ⟨rfl, rfl⟩
          exact ⟨decide (1 ≤ x.other ∧ x.other ≤ 4), ⟨rfl, rfl, rfl, trivial⟩, by simp [refOk, k3, t_who, t_what], by unfold refY; simp only [k3, reduceIte, Int.reduceEq, or_true, true_or, or_false, or_self, false_or]; exact N2⟩
        · have t_what : idB x.what = false := t_what
          exact ⟨false, ⟨rfl, rfl, rfl, trivial⟩, by simp [refOk, k3, t_who, t_what], by unfold refY; simp only [k3, reduceIte, Int.reduceEq, or_true, true_or, or_false, or_self, false_or]; exact N2⟩
      · have t_who : idB x.who = false := t_who
        exact ⟨false, ⟨rfl, rfl, rfl, trivial⟩, by simp [refOk, k3, t_who], by unfold refY; simp only [k3, reduceIte, Int.reduceEq, or_true, true_or, or_false, or_self, false_or]; exact N2⟩
    have k3 : ¬ x.kind = 3 := k3
    refine brE_dec (fun k4 => ?_) (fun k4 => ?_)
    · have k4 : x.kind = 4 := k4
      refine ⟨fun k => k ≠ g8, ?_⟩
      refine ⟨_, M6.cell 1 rfl rfl, ?_⟩
      refine ⟨.int .i64 x.what, fun u hu => ⟨_, hu.cell hne (M6.cell 1 (i := 4) rfl rfl), rfl⟩, ?_⟩
      refine ⟨.int .i64 x.other, fun u hu => ⟨_, hu.cell hne (M6.cell 1 (i := 5) rfl rfl), rfl⟩, ?_⟩
      refine ⟨rfl, _, _, M6.get 0 rfl, Nat.le_of_ble_eq_true rfl, rfl, ?_⟩
      intro v0 s0
      have N0 := M6.put 0 rfl s0
      have kp0 : Keep (fun k => k ≠ g8) w6 v0 := (Keep.refl _ w6).put s0 (fun h => h rfl)
      refine ⟨kp0, ?_⟩
      refine ⟨rfl, _, _, N0.get 0 rfl, Nat.le_of_ble_eq_true rfl, rfl, ?_⟩
      intro v1 s1
      have N1 := N0.put 0 rfl s1
      have kp1 : Keep (fun k => k ≠ g8) w6 v1 := kp0.put s1 (fun h => h rfl)
      refine ⟨kp1, ?_⟩
      refine ⟨rfl, _, _, N1.get 0 rfl, Nat.le_of_ble_eq_true rfl, rfl, ?_⟩
      intro v2 s2
      have N2 := N1.put 0 rfl s2
      refine brE_mk (fun t_who => ?_) (fun t_who => ?_)
      · have t_who : idB x.who = true := t_who
        refine brE_mk (fun t_what => ?_) (fun t_what => ?_)
        · have t_what : idB x.what = true := t_what
          exact ⟨idB x.other, ⟨rfl, rfl, rfl, trivial⟩, by simp [refOk, k4, t_who, t_what], by unfold refY; simp only [k4, reduceIte, Int.reduceEq, or_true, true_or, or_false, or_self, false_or]; exact N2⟩
        · have t_what : idB x.what = false := t_what
          exact ⟨false, ⟨rfl, rfl, rfl, trivial⟩, by simp [refOk, k4, t_who, t_what], by unfold refY; simp only [k4, reduceIte, Int.reduceEq, or_true, true_or, or_false, or_self, false_or]; exact N2⟩
      · have t_who : idB x.who = false := t_who
        exact ⟨false, ⟨rfl, rfl, rfl, trivial⟩, by simp [refOk, k4, t_who], by unfold refY; simp only [k4, reduceIte, Int.reduceEq, or_true, true_or, or_false, or_self, false_or]; exact N2⟩
    have k4 : ¬ x.kind = 4 := k4
    refine brE_dec (fun k5 => ?_) (fun k5 => ?_)
    · have k5 : x.kind = 5 := k5
      refine ⟨fun k => k ≠ g8, ?_⟩
      refine ⟨_, M6.cell 1 rfl rfl, ?_⟩
      refine ⟨.int .i64 x.what, fun u hu => ⟨_, hu.cell hne (M6.cell 1 (i := 4) rfl rfl), rfl⟩, ?_⟩
      refine ⟨rfl, _, _, M6.get 0 rfl, Nat.le_of_ble_eq_true rfl, rfl, ?_⟩
      intro v0 s0
      have N0 := M6.put 0 rfl s0
      have kp0 : Keep (fun k => k ≠ g8) w6 v0 := (Keep.refl _ w6).put s0 (fun h => h rfl)
      refine ⟨kp0, ?_⟩
      refine ⟨rfl, _, _, N0.get 0 rfl, Nat.le_of_ble_eq_true rfl, rfl, ?_⟩
      intro v1 s1
      have N1 := N0.put 0 rfl s1
      refine brE_mk (fun t_who => ?_) (fun t_who => ?_)
      · have t_who : idB x.who = true := t_who
        exact ⟨idB x.what, ⟨rfl, rfl, rfl, trivial⟩, by simp [refOk, k5, t_who], by unfold refY; simp only [k5, reduceIte, Int.reduceEq, or_true, true_or, or_false, or_self, false_or]; exact N1⟩
      · have t_who : idB x.who = false := t_who
        exact ⟨false, ⟨rfl, rfl, rfl, trivial⟩, by simp [refOk, k5, t_who], by unfold refY; simp only [k5, reduceIte, Int.reduceEq, or_true, true_or, or_false, or_self, false_or]; exact N1⟩
    have k5 : ¬ x.kind = 5 := k5
    refine brE_dec (fun k6 => ?_) (fun k6 => ?_)
    · have k6 : x.kind = 6 := k6
      refine brE_true (decide_eq_true k6) ?_
      refine ⟨fun k => k ≠ g8, ?_⟩
      refine ⟨_, M6.cell 1 rfl rfl, ?_⟩
      refine ⟨.int .i64 x.other, fun u hu => ⟨_, hu.cell hne (M6.cell 1 (i := 5) rfl rfl), rfl⟩, ?_⟩
      refine ⟨rfl, _, _, M6.get 0 rfl, Nat.le_of_ble_eq_true rfl, rfl, ?_⟩
      intro v0 s0
      have N0 := M6.put 0 rfl s0
      have kp0 : Keep (fun k => k ≠ g8) w6 v0 := (Keep.refl _ w6).put s0 (fun h => h rfl)
      refine ⟨kp0, ?_⟩
      refine ⟨rfl, _, _, N0.get 0 rfl, Nat.le_of_ble_eq_true rfl, rfl, ?_⟩
      intro v1 s1
      have N1 := N0.put 0 rfl s1
      refine brE_mk (fun t_who => ?_) (fun t_who => ?_)
      · have t_who : idB x.who = true := t_who
        refine brE_mk (fun t_other => ?_) (fun t_other => ?_)
        · have t_other : idB x.other = true := t_other
          refine ⟨_, N1.cell 1 rfl rfl, ?_⟩
          refine ⟨_, N1.cell 1 rfl rfl, ?_⟩
          exact ⟨(!decide (x.other = x.who)), ⟨rfl, rfl, rfl, trivial⟩, by simp [refOk, k6, t_who, t_other], by unfold refY; simp only [k6, reduceIte, Int.reduceEq, or_true, true_or, or_false, or_self, false_or]; exact N1⟩
        · have t_other : idB x.other = false := t_other
          exact ⟨false, ⟨rfl, rfl, rfl, trivial⟩, by simp [refOk, k6, t_who, t_other], by unfold refY; simp only [k6, reduceIte, Int.reduceEq, or_true, true_or, or_false, or_self, false_or]; exact N1⟩
      · have t_who : idB x.who = false := t_who
        exact ⟨false, ⟨rfl, rfl, rfl, trivial⟩, by simp [refOk, k6, t_who], by unfold refY; simp only [k6, reduceIte, Int.reduceEq, or_true, true_or, or_false, or_self, false_or]; exact N1⟩
    have k6 : ¬ x.kind = 6 := k6
    refine brE_dec (fun k9 => ?_) (fun k9 => ?_)
    · have k9 : x.kind = 9 := k9
      refine ⟨fun k => k ≠ g8, ?_⟩
      refine ⟨_, M6.cell 1 rfl rfl, ?_⟩
      refine ⟨.int .i64 x.other, fun u hu => ⟨_, hu.cell hne (M6.cell 1 (i := 5) rfl rfl), rfl⟩, ?_⟩
      refine ⟨rfl, _, _, M6.get 0 rfl, Nat.le_of_ble_eq_true rfl, rfl, ?_⟩
      intro v0 s0
      have N0 := M6.put 0 rfl s0
      have kp0 : Keep (fun k => k ≠ g8) w6 v0 := (Keep.refl _ w6).put s0 (fun h => h rfl)
      refine ⟨kp0, ?_⟩
      refine ⟨rfl, _, _, N0.get 0 rfl, Nat.le_of_ble_eq_true rfl, rfl, ?_⟩
      intro v1 s1
      have N1 := N0.put 0 rfl s1
      refine brE_mk (fun t_who => ?_) (fun t_who => ?_)
      · have t_who : idB x.who = true := t_who
        refine brE_mk (fun t_other => ?_) (fun t_other => ?_)
        · have t_other : idB x.other = true := t_other
          refine ⟨_, N1.cell 1 rfl rfl, ?_⟩
          refine ⟨_, N1.cell 1 rfl rfl, ?_⟩
          exact ⟨(!decide (x.other = x.who)), ⟨rfl, rfl, rfl, trivial⟩, by simp [refOk, k9, t_who, t_other], by unfold refY; simp only [k9, reduceIte, Int.reduceEq, or_true, true_or, or_false, or_self, false_or]; exact N1⟩
        · have t_other : idB x.other = false := t_other
          exact ⟨false, ⟨rfl, rfl, rfl, trivial⟩, by simp [refOk, k9, t_who, t_other], by unfold refY; simp only [k9, reduceIte, Int.reduceEq, or_true, true_or, or_false, or_self, false_or]; exact N1⟩
      · have t_who : idB x.who = false := t_who
        exact ⟨false, ⟨rfl, rfl, rfl, trivial⟩, by simp [refOk, k9, t_who], by unfold refY; simp only [k9, reduceIte, Int.reduceEq, or_true, true_or, or_false, or_self, false_or]; exact N1⟩
    have k9 : ¬ x.kind = 9 := k9
    refine brE_dec (fun k7 => ?_) (fun k7 => ?_)
    · have k7 : x.kind = 7 := k7
      refine ⟨_, M6.cell 1 rfl rfl, ?_⟩
      refine ⟨rfl, _, _, M6.get 0 rfl, Nat.le_of_ble_eq_true rfl, rfl, ?_⟩
      intro v0 s0
      have N0 := M6.put 0 rfl s0
      exact ⟨idB x.who, ⟨rfl, rfl, rfl, trivial⟩, by simp [refOk, k7], by unfold refY; simp only [k7, reduceIte, Int.reduceEq, or_true, true_or, or_false, or_self, false_or]; exact N0⟩
    have k7 : ¬ x.kind = 7 := k7
    refine brE_dec (fun k8 => ?_) (fun k8 => ?_)
    · have k8 : x.kind = 8 := k8
      refine ⟨fun k => k ≠ g8, ?_⟩
      refine ⟨_, M6.cell 1 rfl rfl, ?_⟩
      refine ⟨.int .i64 x.what, fun u hu => ⟨_, hu.cell hne (M6.cell 1 (i := 4) rfl rfl), rfl⟩, ?_⟩
      refine ⟨.int .i64 x.other, fun u hu => ⟨_, hu.cell hne (M6.cell 1 (i := 5) rfl rfl), rfl⟩, ?_⟩
      refine ⟨rfl, _, _, M6.get 0 rfl, Nat.le_of_ble_eq_true rfl, rfl, ?_⟩
      intro v0 s0
      have N0 := M6.put 0 rfl s0
      have kp0 : Keep (fun k => k ≠ g8) w6 v0 := (Keep.refl _ w6).put s0 (fun h => h rfl)
      refine ⟨kp0, ?_⟩
      refine ⟨rfl, _, _, N0.get 0 rfl, Nat.le_of_ble_eq_true rfl, rfl, ?_⟩
      intro v1 s1
      have N1 := N0.put 0 rfl s1
      have kp1 : Keep (fun k => k ≠ g8) w6 v1 := kp0.put s1 (fun h => h rfl)
      refine ⟨kp1, ?_⟩
      refine ⟨rfl, _, _, N1.get 0 rfl, Nat.le_of_ble_eq_true rfl, rfl, ?_⟩
      intro v2 s2
      have N2 := N1.put 0 rfl s2
      refine brE_mk (fun t_who => ?_) (fun t_who => ?_)
      · have t_who : idB x.who = true := t_who
        refine brE_mk (fun t_what => ?_) (fun t_what => ?_)
        · have t_what : idB x.what = true := t_what
          refine ⟨_, N2.cell 1 rfl rfl, ?_⟩
          refine (within_spec x.other 1 2 _).mono ?_
          rintro _ w8 ⟨rfl, rfl⟩
          exact ⟨decide (1 ≤ x.other ∧ x.other ≤ 2), ⟨rfl, rfl, rfl, trivial⟩, by simp [refOk, k8, t_who, t_what], by unfold refY; simp only [k8, reduceIte, Int.reduceEq, or_true, true_or, or_false, or_self, false_or]; exact N2⟩
        · have t_what : idB x.what = false := t_what
          exact ⟨false, ⟨rfl, rfl, rfl, trivial⟩, by simp [refOk, k8, t_who, t_what], by unfold refY; simp only [k8, reduceIte, Int.reduceEq, or_true, true_or, or_false, or_self, false_or]; exact N2⟩
      · have t_who : idB x.who = false := t_who
        exact ⟨false, ⟨rfl, rfl, rfl, trivial⟩, by simp [refOk, k8, t_who], by unfold refY; simp only [k8, reduceIte, Int.reduceEq, or_true, true_or, or_false, or_self, false_or]; exact N2⟩
    have k8 : ¬ x.kind = 8 := k8
    refine brE_dec (fun k10 => ?_) (fun k10 => ?_)
    · have k10 : x.kind = 10 := k10
      refine ⟨_, M6.cell 1 rfl rfl, ?_⟩
      refine ⟨rfl, _, _, M6.get 0 rfl, Nat.le_of_ble_eq_true rfl, rfl, ?_⟩
      intro v0 s0
      have N0 := M6.put 0 rfl s0
      refine brE_mk (fun t_who => ?_) (fun t_who => ?_)
      · have t_who : idB x.who = true := t_who
        refine ⟨_, N0.cell 1 rfl rfl, ?_⟩
        exact ⟨(decide (x.til = 0)), ⟨rfl, rfl, rfl, trivial⟩, by simp [refOk, k10, t_who], by unfold refY; simp only [k10, reduceIte, Int.reduceEq, or_true, true_or, or_false, or_self, false_or]; exact N0⟩
      · have t_who : idB x.who = false := t_who
        exact ⟨false, ⟨rfl, rfl, rfl, trivial⟩, by simp [refOk, k10, t_who], by unfold refY; simp only [k10, reduceIte, Int.reduceEq, or_true, true_or, or_false, or_self, false_or]; exact N0⟩
    have k10 : ¬ x.kind = 10 := k10
    refine brE_dec (fun k11 => ?_) (fun k11 => ?_)
    · have k11 : x.kind = 11 := k11
      refine ⟨_, M6.cell 1 rfl rfl, ?_⟩
      refine ⟨rfl, _, _, M6.get 0 rfl, Nat.le_of_ble_eq_true rfl, rfl, ?_⟩
      intro v0 s0
      have N0 := M6.put 0 rfl s0
      refine brE_mk (fun t_what => ?_) (fun t_what => ?_)
      · have t_what : idB x.what = true := t_what
        refine ⟨_, N0.cell 1 rfl rfl, ?_⟩
        refine ⟨_, N0.cell 1 rfl rfl, ?_⟩
        refine brE_ndec (fun c2 => ?_) (fun c2 => ?_)
        · have c2 : ¬ x.what = x.id := c2
          refine ⟨_, N0.cell 1 rfl rfl, ?_⟩
          refine brE_dec (fun c3 => ?_) (fun c3 => ?_)
          · have c3 : x.since = 0 := c3
            refine ⟨_, N0.cell 1 rfl rfl, ?_⟩
            exact ⟨(decide (x.til = 0)), ⟨rfl, rfl, rfl, trivial⟩, by simp [refOk, k11, t_what, c2, c3], by unfold refY; simp only [k11, reduceIte, Int.reduceEq, or_true, true_or, or_false, or_self, false_or]; exact N0⟩
          · have c3 : ¬ x.since = 0 := c3
            exact ⟨false, ⟨rfl, rfl, rfl, trivial⟩, by simp [refOk, k11, t_what, c2, c3], by unfold refY; simp only [k11, reduceIte, Int.reduceEq, or_true, true_or, or_false, or_self, false_or]; exact N0⟩
        · have c2 : x.what = x.id := c2
          exact ⟨false, ⟨rfl, rfl, rfl, trivial⟩, by simp [refOk, k11, t_what, c2], by unfold refY; simp only [k11, reduceIte, Int.reduceEq, or_true, true_or, or_false, or_self, false_or]; exact N0⟩
      · have t_what : idB x.what = false := t_what
        exact ⟨false, ⟨rfl, rfl, rfl, trivial⟩, by simp [refOk, k11, t_what], by unfold refY; simp only [k11, reduceIte, Int.reduceEq, or_true, true_or, or_false, or_self, false_or]; exact N0⟩
    have k11 : ¬ x.kind = 11 := k11
    exact ⟨false, ⟨rfl, rfl, rfl, trivial⟩, by simp [refOk, k1, k2, k3, k4, k5, k6, k9, k7, k8, k10, k11], by unfold refY; simp only [k1, k2, k3, k4, k5, k6, k9, k7, k8, k10, k11, or_self, if_false]; exact M6⟩
  rintro ok w7 ⟨hok, M7⟩
  refine Snd.go C_ok plans167 (by kernel_rfl) ?_
  have hfin : ∀ {w' : World}, ¬ (refOk x && decide (x = refY x)) = true → Ext w w' → Value.int .i64 1 = .int .i64 (formE x) ∧ Ext w w' := fun h e => by
    refine ⟨?_, e⟩
    by_cases hk : 1 ≤ x.kind ∧ x.kind ≤ 11
    · rw [form_ref (hhead hk), if_neg h]
    · rw [formE_head (headB_no fun hh => hk (headB_iff.1 hh).1)]
  refine brE_mk (fun b1 => ?_) (fun b1 => ?_)
  · have b1 : refOk x = false := by rw [← hok]; simpa using b1
    exact hfin (by rw [b1]; simp) M7.ext
  have b1 : refOk x = true := by rw [← hok]; simpa using b1
  refine ⟨x.cells, rfl, M7.rd 1 rfl, ?_⟩
  refine ⟨(refY x).cells, rfl, M7.rd 0 rfl, ?_⟩
  refine ⟨_, neqF _ _ x (refY x), ?_⟩
  refine brE_ndec (fun b2 => ?_) (fun b2 => ?_)
  · exact hfin (by rw [decide_eq_false b2]; simp) M7.ext
  have b2 : x = refY x := b2
  have hform := form_ref (hhead (ref_kind b1))
  rw [if_pos (by rw [b1, decide_eq_true b2]; rfl)] at hform
  clear b2 hfin
  refine ⟨Snd.go C_ok plans167 (by kernel_rfl) ?_⟩
  refine ⟨_, M7.cell 1 rfl rfl, ?_⟩
  refine brE_dec (fun b3 => ?_) (fun b3 => ?_)
  · have b3 : x.kind = 1 := b3
    refine ⟨_, M7.cell 1 rfl rfl, ?_⟩
    refine (refIsName_spec x.name _ hx.name).mono ?_
    rintro _ w8 ⟨rfl, rfl⟩
    refine brE_mk (fun b4 => ?_) (fun b4 => ?_)
    · have b4 : nameB x.name.data.toList = false := by simpa using b4
      exact ⟨by rw [hform, if_pos ⟨b3, b4⟩], M7.ext⟩
    · have b4 : nameB x.name.data.toList = true := by simpa using b4
      refine ⟨Snd.fin C_ok (plans := []) (by kernel_rfl) ?_⟩
      exact ⟨by rw [hform, if_neg (fun h => by rw [b4] at h; cases h.2)], M7.ext⟩
  · have b3 : ¬ x.kind = 1 := b3
    refine ⟨Snd.fin C_ok (plans := []) (by kernel_rfl) ?_⟩
    exact ⟨by rw [hform, if_neg (fun h => b3 h.1)], M7.ext⟩

end Go.Proofs.YtcnbpfecgokhiaaGreatDoor
