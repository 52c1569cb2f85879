/- a part of the proof: steps, walks and plain laws that the law below stands on; no condition. -/
import Derived.Test.YtdpdjcopkehdjaaGreatRSa
import Derived.Test.YtdpdjcopkehdjaaGreatRSb
import Derived.Test.YtdpdjcopkehdjaaGreatRSc
import Derived.Test.YtdpdjcopkehdjaaGreatRSd
import Derived.Test.YtdpdjcopkehdjaaGreatRSe
import Derived.Test.YtdpdjcopkehdjaaGreatRSf
import Derived.Test.YtdpdjcopkehdjaaGreatRSg
import Derived.Test.YtdpdjcopkehdjaaGreatRSh
import Derived.Test.YtdpdjcopkehdjaaGreatRSi
import Derived.Test.YtdpdjcopkehdjaaGreatRSj
import Derived.Test.YtdpdjcopkehdjaaGreatRSk
import Derived.Shelf.Strings.OnBuilder
import Derived.Shelf.Strconv.AtoiAll
import Derived.Shelf.Strconv.Itoa3
import Derived.Shelf.Strings.Search2
import Derived.KernelRfl
import Derived.Test.YtdpdjcopkehdjaaGreatProg
set_option linter.unusedVariables false
set_option linter.unusedSimpArgs false
set_option linter.unnecessarySimpa false
set_option linter.unusedSectionVars false
namespace Go.Proofs.YtdpdjcopkehdjaaGreat
open Go.Eng Go.RowKit
def plainF (x : Fact) : Fact := ⟨x.id, x.known, x.kind, 0, 0, 0, x.since, x.til, ⟨#[]⟩⟩
set_option maxRecDepth 100000 in
theorem plain_spec (x : Fact) (w : World) : CallsV C.P 242 #[x.val] w fun v w' => v = (plainF x).val ∧ Ext w w' := by
  refine callsV_of C_ok (args := [_]) (plans := []) Tryz.func242 rfl Tryz.ntmps242 (by kernel_rfl) (Nat.le_of_ble_eq_true rfl) ?_
  intro g1 w1 h1
  have M1 : Mem w w1 [(g1, .cells x.cells.toArray 55 (0, 0))] := (Mem.start w).alloc h1
  intro g2 w2 h2
  have M2 := M1.alloc h2
  refine ⟨_, M2.cell 1 rfl rfl, ?_⟩
  refine ⟨_, M2.cell 1 rfl rfl, ?_⟩
  refine ⟨_, M2.cell 1 rfl rfl, ?_⟩
  refine ⟨_, M2.cell 1 rfl rfl, ?_⟩
  refine ⟨_, M2.cell 1 rfl rfl, ?_⟩
  refine ⟨rfl, _, _, M2.get 0 rfl, Nat.le_of_ble_eq_true rfl, rfl, ?_⟩
  intro w3 h3
  have M3 : Mem w w3 [(g2, .cells (plainF x).cells.toArray 55 (0, 0)), (g1, .cells x.cells.toArray 55 (0, 0))] := M2.put 0 rfl h3
  exact ⟨(plainF x).cells, rfl, M3.rd 0 rfl, rfl, M3.ext⟩
def daysB (x : Fact) : Bool := dayB x.known && dayB x.since && (decide (x.til = 0) || decide (x.since < x.til ∧ x.til ≤ 100000))
theorem head_days (x : Fact) : headB x = (decide (1 ≤ x.kind ∧ x.kind ≤ 11) && (daysB x && idB x.id)) := by
  unfold headB daysB
  generalize decide (1 ≤ x.kind ∧ x.kind ≤ 11) = a
  generalize idB x.id = b
  generalize dayB x.known = c
  generalize dayB x.since = d
  generalize (decide (x.til = 0) || decide (x.since < x.til ∧ x.til ≤ 100000)) = e
  revert a b c d e
  decide
/-- What stands for each kind: whether the fields are right, and what the fact must be. -/
def refOk (x : Fact) : Bool :=
  if x.kind = 1 then idB x.who && decide (1 ≤ x.other ∧ x.other ≤ 3)
  else if x.kind = 2 ∨ x.kind = 3 then idB x.who && (idB x.what && decide (1 ≤ x.other ∧ x.other ≤ 4))
  else if x.kind = 4 then idB x.who && (idB x.what && idB x.other)
  else if x.kind = 5 then idB x.who && idB x.what
  else if x.kind = 6 ∨ x.kind = 9 then idB x.who && (idB x.other && !decide (x.other = x.who))
  else if x.kind = 7 then idB x.who
  else if x.kind = 8 then idB x.who && (idB x.what && decide (1 ≤ x.other ∧ x.other ≤ 2))
  else if x.kind = 10 then idB x.who && decide (x.til = 0)
  else if x.kind = 11 then idB x.what && (!decide (x.what = x.id) && (decide (x.since = 0) && decide (x.til = 0)))
  else false
def refY (x : Fact) : Fact :=
  if x.kind = 1 then { plainF x with who := x.who, other := x.other, name := x.name }
  else if x.kind = 2 ∨ x.kind = 3 ∨ x.kind = 4 ∨ x.kind = 8 then { plainF x with who := x.who, what := x.what, other := x.other }
  else if x.kind = 5 then { plainF x with who := x.who, what := x.what }
  else if x.kind = 6 ∨ x.kind = 9 then { plainF x with who := x.who, other := x.other }
  else if x.kind = 7 ∨ x.kind = 10 then { plainF x with who := x.who }
  else if x.kind = 11 then { plainF x with what := x.what }
  else plainF x
theorem ref_fin {x : Fact} (h1 : 1 ≤ x.kind) (h2 : x.kind ≤ 11) : (refOk x && decide (x = refY x)) = (restB x && rightB x) := by
  obtain ⟨x0, x1, x2, x3, x4, x5, x6, x7, x8⟩ := x
  have h1 : 1 ≤ x2 := h1
  have h2 : x2 ≤ 11 := h2
  have cases : x2 = 1 ∨ x2 = 2 ∨ x2 = 3 ∨ x2 = 4 ∨ x2 = 5 ∨ x2 = 6 ∨ x2 = 7 ∨ x2 = 8 ∨ x2 = 9 ∨ x2 = 10 ∨ x2 = 11 := by omega
  rw [Bool.eq_iff_iff]
  rcases cases with rfl | rfl | rfl | rfl | rfl | rfl | rfl | rfl | rfl | rfl | rfl <;> simp [refOk, refY, plainF, restB, rightB, offs, Fact.mk.injEq] <;> (try constructor) <;> intros <;> simp_all <;> omega
theorem form_ref {x : Fact} (hh : headB x = true) : formE x = if (refOk x && decide (x = refY x)) = true then (if x.kind = 1 ∧ nameB x.name.data.toList = false then 4 else 0) else 1 := by
  have hk := (headB_iff.1 hh).1
  unfold formE
  rw [ref_fin hk.1 hk.2, hh, Bool.true_and]
theorem ref_kind {x : Fact} (h : refOk x = true) : 1 ≤ x.kind ∧ x.kind ≤ 11 := by
  unfold refOk at h
  by_cases h0 : 1 ≤ x.kind ∧ x.kind ≤ 11
  · exact h0
  · rw [if_neg (by omega), if_neg (by omega), if_neg (by omega), if_neg (by omega), if_neg (by omega), if_neg (by omega), if_neg (by omega), if_neg (by omega), if_neg (by omega)] at h
    cases h
set_option maxRecDepth 100000 in
set_option maxHeartbeats 2000000 in
theorem refFormed_spec (x : Fact) (hx : x.Nums) (w : World) : CallsV C.P 169 #[x.val] w fun v w' => v = .int .i64 (formE x) ∧ Ext w w' := by
  refine callsV_ofS (args := [_]) Tryz.func169 rfl Tryz.ntmps169 C_ok (Nat.le_of_ble_eq_true rfl) ?_
  refine Snd.go C_ok plans169 (by kernel_rfl) ?_
  intro g1 w1 h1
  have M1 : Mem w w1 [(g1, .cells x.cells.toArray 55 (0, 0))] := (Mem.start w).alloc h1
  refine ⟨Snd.join C_ok plans169 (fun b : Bool => [(1, .pointer (some ⟨g1, 0, none⟩)), (3, .bool b)]) (fun b w' => w' = w1 ∧ b = daysB x) (by kernel_rfl) ?_ ?_⟩
  · refine ⟨_, M1.cell 0 rfl rfl, ?_⟩
    refine (within_spec x.known 0 100000 _).mono ?_
    rintro _ w2 ⟨rfl, rfl⟩
    refine brE_dec (fun a1 => ?_) (fun a1 => ?_)
    · have a1 : 0 ≤ x.known ∧ x.known ≤ 100000 := a1
      refine ⟨_, M1.cell 0 rfl rfl, ?_⟩
      refine (within_spec x.since 0 100000 _).mono ?_
      rintro _ w2 ⟨rfl, rfl⟩
      refine brE_dec (fun a2 => ?_) (fun a2 => ?_)
      · have a2 : 0 ≤ x.since ∧ x.since ≤ 100000 := a2
        refine ⟨_, M1.cell 0 rfl rfl, ?_⟩
        refine brE_dec (fun a3 => ?_) (fun a3 => ?_)
        · have a3 : x.til = 0 := a3
          refine ⟨true, ⟨rfl, rfl, trivial⟩, rfl, ?_⟩
          simp [daysB, dayB, a1, a2, a3]
        · have a3 : ¬ x.til = 0 := a3
          refine ⟨_, M1.cell 0 rfl rfl, ?_⟩
          refine ⟨_, M1.cell 0 rfl rfl, ?_⟩
          refine brE_dec (fun a4 => ?_) (fun a4 => ?_)
          · have a4 : x.til > x.since := a4
            refine ⟨_, M1.cell 0 rfl rfl, ?_⟩
            refine ⟨decide (x.til ≤ 100000), ⟨rfl, rfl, trivial⟩, rfl, ?_⟩
            have a5 : x.since < x.til := a4
            simp [daysB, dayB, a1, a2, a3, a5]
          · have a4 : ¬ x.since < x.til := a4
            refine ⟨false, ⟨rfl, rfl, trivial⟩, rfl, ?_⟩
            simp [daysB, dayB, a1, a2, a3, a4]
      · have a2 : ¬ (0 ≤ x.since ∧ x.since ≤ 100000) := a2
        refine ⟨false, ⟨rfl, rfl, trivial⟩, rfl, ?_⟩
        unfold daysB dayB
        rw [decide_eq_false a2]; simp
    · have a1 : ¬ (0 ≤ x.known ∧ x.known ≤ 100000) := a1
      refine ⟨false, ⟨rfl, rfl, trivial⟩, rfl, ?_⟩
      unfold daysB dayB
      rw [decide_eq_false a1]; simp
  rintro b w2 ⟨rfl, hb⟩
  refine Snd.go C_ok plans169 (by kernel_rfl) ?_
  refine ⟨_, M1.cell 0 rfl rfl, ?_⟩
  refine (refId_spec x.id _).mono ?_
  rintro _ w3 ⟨rfl, rfl⟩
  refine ⟨Snd.go C_ok plans169 (by kernel_rfl) ?_⟩
  have bad : ∀ {w' : World}, (headB x = true → False) → Ext w w' → Value.int .i64 1 = .int .i64 (formE x) ∧ Ext w w' := fun h e => ⟨by rw [formE_head (headB_no h)], e⟩
  refine brE_mk (fun a1 => ?_) (fun a1 => ?_)
  · exact bad (fun h => by rw [head_days, ← hb] at h; cases b <;> simp at a1 h) M1.ext
  have a1 : daysB x = true := by rw [← hb]; simpa using a1
  refine brE_mk (fun a2 => ?_) (fun a2 => ?_)
  · exact bad (fun h => by rw [head_days] at h; cases hi : idB x.id <;> rw [hi] at a2 h <;> simp at a2 h) M1.ext
  have a2 : idB x.id = true := by simpa using a2
  have hhead : (1 ≤ x.kind ∧ x.kind ≤ 11) → headB x = true := fun h => by rw [head_days, a1, a2, decide_eq_true h]; rfl
  clear bad
  refine ⟨Snd.go C_ok plans169 (by kernel_rfl) ?_⟩
  refine ⟨_, M1.cell 0 rfl rfl, ?_⟩
  refine (refId_spec x.who _).mono ?_
  rintro _ w3 ⟨rfl, rfl⟩
  refine ⟨Snd.go C_ok plans169 (by kernel_rfl) ?_⟩
  refine ⟨_, M1.cell 0 rfl rfl, ?_⟩
  refine (refId_spec x.what _).mono ?_
  rintro _ w3 ⟨rfl, rfl⟩
  refine ⟨Snd.go C_ok plans169 (by kernel_rfl) ?_⟩
  refine ⟨_, M1.cell 0 rfl rfl, ?_⟩
  refine (refId_spec x.other _).mono ?_
  rintro _ w3 ⟨rfl, rfl⟩
  refine ⟨Snd.go C_ok plans169 (by kernel_rfl) ?_⟩
  refine ⟨x.cells, rfl, M1.rd 0 rfl, ?_⟩
  refine (plain_spec x _).mono ?_
  rintro _ w4 ⟨rfl, e4⟩
  have M4 := M1.grow e4
  intro g8 w5 h5
  have M5 := M4.alloc h5
  refine ⟨rfl, _, _, M5.get 0 rfl, Nat.le_of_ble_eq_true rfl, rfl, ?_⟩
  intro w6 h6
  have M6 : Mem w w6 [(g8, .cells (plainF x).cells.toArray 55 (0, 0)), (g1, .cells x.cells.toArray 55 (0, 0))] := M5.put 0 rfl h6
  have hne : g1 ≠ g8 := fun e => by
    have := M6.nodup
    simp [e] at this
  clear M5 M4 h5 h6 e4
  refine ⟨Snd.go C_ok plans169 (by kernel_rfl) ?_⟩
  refine ⟨Snd.join C_ok plans169 (fun ok : Bool => [(1, .pointer (some ⟨g1, 0, none⟩)), (8, .pointer (some ⟨g8, 0, none⟩)), (9, .bool ok)])
    (fun ok w' => ok = refOk x ∧ Mem w w' [(g8, .cells (refY x).cells.toArray 55 (0, 0)), (g1, .cells x.cells.toArray 55 (0, 0))]) (by kernel_rfl) ?_ ?_⟩
  · refine ⟨_, M6.cell 1 rfl rfl, ?_⟩
    refine brE_dec (fun k1 => ?_) (fun k1 => ?_)
    · have k1 : x.kind = 1 := k1
      refine ⟨fun k => k ≠ g8, ?_⟩
      refine ⟨_, M6.cell 1 rfl rfl, ?_⟩
      refine ⟨.int .i64 x.other, fun u hu => ⟨_, hu.cell hne (M6.cell 1 (i := 5) rfl rfl), rfl⟩, ?_⟩
      refine ⟨.string x.name, fun u hu => ⟨_, hu.cell hne (M6.cell 1 (i := 8) rfl rfl), rfl⟩, ?_⟩
      refine ⟨rfl, _, _, M6.get 0 rfl, Nat.le_of_ble_eq_true rfl, rfl, ?_⟩
      intro v0 s0
      have N0 := M6.put 0 rfl s0
      have kp0 : Keep (fun k => k ≠ g8) w6 v0 := (Keep.refl _ w6).put s0 (fun h => h rfl)
      refine ⟨kp0, ?_⟩
      refine ⟨rfl, _, _, N0.get 0 rfl, Nat.le_of_ble_eq_true rfl, rfl, ?_⟩
      intro v1 s1
      have N1 := N0.put 0 rfl s1
      have kp1 : Keep (fun k => k ≠ g8) w6 v1 := kp0.put s1 (fun h => h rfl)
      refine ⟨kp1, ?_⟩
      refine ⟨rfl, _, _, N1.get 0 rfl, Nat.le_of_ble_eq_true rfl, rfl, ?_⟩
      intro v2 s2
      have N2 := N1.put 0 rfl s2
      refine brE_mk (fun t_who => ?_) (fun t_who => ?_)
      · have t_who : idB x.who = true := t_who
        refine ⟨_, N2.cell 1 rfl rfl, ?_⟩
        refine (within_spec x.other 1 3 _).mono ?_
        rintro _ w8 ⟨rfl, rfl⟩
        exact ⟨decide (1 ≤ x.other ∧ x.other ≤ 3), ⟨rfl, rfl, rfl, trivial⟩, by simp [refOk, k1, t_who], by unfold refY; simp only [k1, reduceIte, Int.reduceEq, or_true, true_or, or_false, or_self, false_or]; exact N2⟩
      · have t_who : idB x.who = false := t_who
        exact ⟨false, ⟨rfl, rfl, rfl, trivial⟩, by simp [refOk, k1, t_who], by unfold refY; simp only [k1, reduceIte, Int.reduceEq, or_true, true_or, or_false, or_self, false_or]; exact N2⟩
    have k1 : ¬ x.kind = 1 := k1
    refine brE_dec (fun k2 => ?_) (fun k2 => ?_)
    · have k2 : x.kind = 2 := k2
      refine brE_true (decide_eq_true k2) ?_
      refine ⟨fun k => k ≠ g8, ?_⟩
      refine ⟨_, M6.cell 1 rfl rfl, ?_⟩
      refine ⟨.int .i64 x.what, fun u hu => ⟨_, hu.cell hne (M6.cell 1 (i := 4) rfl rfl), rfl⟩, ?_⟩
      refine ⟨.int .i64 x.other, fun u hu => ⟨_, hu.cell hne (M6.cell 1 (i := 5) rfl rfl), rfl⟩, ?_⟩
      refine ⟨rfl, _, _, M6.get 0 rfl, Nat.le_of_ble_eq_true rfl, rfl, ?_⟩
      intro v0 s0
      have N0 := M6.put 0 rfl s0
      have kp0 : Keep (fun k => k ≠ g8) w6 v0 := (Keep.refl _ w6).put s0 (fun h => h rfl)
      refine ⟨kp0, ?_⟩
      refine ⟨rfl, _, _, N0.get 0 rfl, Nat.le_of_ble_eq_true rfl, rfl, ?_⟩
      intro v1 s1
      have N1 := N0.put 0 rfl s1
      have kp1 : Keep (fun k => k ≠ g8) w6 v1 := kp0.put s1 (fun h => h rfl)
      refine ⟨kp1, ?_⟩
      refine ⟨rfl, _, _, N1.get 0 rfl, Nat.le_of_ble_eq_true rfl, rfl, ?_⟩
      intro v2 s2
      have N2 := N1.put 0 rfl s2
      refine brE_mk (fun t_who => ?_) (fun t_who => ?_)
      · have t_who : idB x.who = true := t_who
        refine brE_mk (fun t_what => ?_) (fun t_what => ?_)
        · have t_what : idB x.what = true := t_what
          refine ⟨_, N2.cell 1 rfl rfl, ?_⟩
          refine (within_spec x.other 1 4 _).mono ?_
          rintro _ w8 ⟨rfl, rfl⟩
          exact ⟨decide (1 ≤ x.other ∧ x.other ≤ 4), ⟨rfl, rfl, rfl, trivial⟩, by simp [refOk, k2, t_who, t_what], by unfold refY; simp only [k2, reduceIte, Int.reduceEq, or_true, true_or, or_false, or_self, false_or]; exact N2⟩
        · have t_what : idB x.what = false := t_what
          exact ⟨false, ⟨rfl, rfl, rfl, trivial⟩, by simp [refOk, k2, t_who, t_what], by unfold refY; simp only [k2, reduceIte, Int.reduceEq, or_true, true_or, or_false, or_self, false_or]; exact N2⟩
      · have t_who : idB x.who = false := t_who
        exact ⟨false, ⟨rfl, rfl, rfl, trivial⟩, by simp [refOk, k2, t_who], by unfold refY; simp only [k2, reduceIte, Int.reduceEq, or_true, true_or, or_false, or_self, false_or]; exact N2⟩
    have k2 : ¬ x.kind = 2 := k2
    refine brE_dec (fun k3 => ?_) (fun k3 => ?_)
    · have k3 : x.kind = 3 := k3
      refine ⟨fun k => k ≠ g8, ?_⟩
      refine ⟨_, M6.cell 1 rfl rfl, ?_⟩
      refine ⟨.int .i64 x.what, fun u hu => ⟨_, hu.cell hne (M6.cell 1 (i := 4) rfl rfl), rfl⟩, ?_⟩
      refine ⟨.int .i64 x.other, fun u hu => ⟨_, hu.cell hne (M6.cell 1 (i := 5) rfl rfl), rfl⟩, ?_⟩
      refine ⟨rfl, _, _, M6.get 0 rfl, Nat.le_of_ble_eq_true rfl, rfl, ?_⟩
      intro v0 s0
      have N0 := M6.put 0 rfl s0
      have kp0 : Keep (fun k => k ≠ g8) w6 v0 := (Keep.refl _ w6).put s0 (fun h => h rfl)
      refine ⟨kp0, ?_⟩
      refine ⟨rfl, _, _, N0.get 0 rfl, Nat.le_of_ble_eq_true rfl, rfl, ?_⟩
      intro v1 s1
      have N1 := N0.put 0 rfl s1
      have kp1 : Keep (fun k => k ≠ g8) w6 v1 := kp0.put s1 (fun h => h rfl)
      refine ⟨kp1, ?_⟩
      refine ⟨rfl, _, _, N1.get 0 rfl, Nat.le_of_ble_eq_true rfl, rfl, ?_⟩
      intro v2 s2
      have N2 := N1.put 0 rfl s2
      refine brE_mk (fun t_who => ?_) (fun t_who => ?_)
      · have t_who : idB x.who = true := t_who
        refine brE_mk (fun t_what => ?_) (fun t_what => ?_)
        · have t_what : idB x.what = true := t_what
          refine ⟨_, N2.cell 1 rfl rfl, ?_⟩
          refine (within_spec x.other 1 4 _).mono ?_
          rintro _ w8 ⟨rfl, rfl⟩
          exact ⟨decide (1 ≤ x.other ∧ x.other ≤ 4), ⟨rfl, rfl, rfl, trivial⟩, by simp [refOk, k3, t_who, t_what], by unfold refY; simp only [k3, reduceIte, Int.reduceEq, or_true, true_or, or_false, or_self, false_or]; exact N2⟩
        · have t_what : idB x.what = false := t_what
          exact ⟨false, ⟨rfl, rfl, rfl, trivial⟩, by simp [refOk, k3, t_who, t_what], by unfold refY; simp only [k3, reduceIte, Int.reduceEq, or_true, true_or, or_false, or_self, false_or]; exact N2⟩
      · have t_who : idB x.who = false := t_who
        exact ⟨false, ⟨rfl, rfl, rfl, trivial⟩, by simp [refOk, k3, t_who], by unfold refY; simp only [k3, reduceIte, Int.reduceEq, or_true, true_or, or_false, or_self, false_or]; exact N2⟩
    have k3 : ¬ x.kind = 3 := k3
    refine brE_dec (fun k4 => ?_) (fun k4 => ?_)
    · have k4 : x.kind = 4 := k4
      refine ⟨fun k => k ≠ g8, ?_⟩
      refine ⟨_, M6.cell 1 rfl rfl, ?_⟩
      refine ⟨.int .i64 x.what, fun u hu => ⟨_, hu.cell hne (M6.cell 1 (i := 4) rfl rfl), rfl⟩, ?_⟩
      refine ⟨.int .i64 x.other, fun u hu => ⟨_, hu.cell hne (M6.cell 1 (i := 5) rfl rfl), rfl⟩, ?_⟩
      refine ⟨rfl, _, _, M6.get 0 rfl, Nat.le_of_ble_eq_true rfl, rfl, ?_⟩
      intro v0 s0
      have N0 := M6.put 0 rfl s0
      have kp0 : Keep (fun k => k ≠ g8) w6 v0 := (Keep.refl _ w6).put s0 (fun h => h rfl)
      refine ⟨kp0, ?_⟩
      refine ⟨rfl, _, _, N0.get 0 rfl, Nat.le_of_ble_eq_true rfl, rfl, ?_⟩
      intro v1 s1
      have N1 := N0.put 0 rfl s1
      have kp1 : Keep (fun k => k ≠ g8) w6 v1 := kp0.put s1 (fun h => h rfl)
      refine ⟨kp1, ?_⟩
      refine ⟨rfl, _, _, N1.get 0 rfl, Nat.le_of_ble_eq_true rfl, rfl, ?_⟩
      intro v2 s2
      have N2 := N1.put 0 rfl s2
      refine brE_mk (fun t_who => ?_) (fun t_who => ?_)
      · have t_who : idB x.who = true := t_who
        refine brE_mk (fun t_what => ?_) (fun t_what => ?_)
        · have t_what : idB x.what = true := t_what
          exact ⟨idB x.other, ⟨rfl, rfl, rfl, trivial⟩, by simp [refOk, k4, t_who, t_what], by unfold refY; simp only [k4, reduceIte, Int.reduceEq, or_true, true_or, or_false, or_self, false_or]; exact N2⟩
        · have t_what : idB x.what = false := t_what
          exact ⟨false, ⟨rfl, rfl, rfl, trivial⟩, by simp [refOk, k4, t_who, t_what], by unfold refY; simp only [k4, reduceIte, Int.reduceEq, or_true, true_or, or_false, or_self, false_or]; exact N2⟩
      · have t_who : idB x.who = false := t_who
        exact ⟨false, ⟨rfl, rfl, rfl, trivial⟩, by simp [refOk, k4, t_who], by unfold refY; simp only [k4, reduceIte, Int.reduceEq, or_true, true_or, or_false, or_self, false_or]; exact N2⟩
    have k4 : ¬ x.kind = 4 := k4
    refine brE_dec (fun k5 => ?_) (fun k5 => ?_)
    · have k5 : x.kind = 5 := k5
      refine ⟨fun k => k ≠ g8, ?_⟩
      refine ⟨_, M6.cell 1 rfl rfl, ?_⟩
      refine ⟨.int .i64 x.what, fun u hu => ⟨_, hu.cell hne (M6.cell 1 (i := 4) rfl rfl), rfl⟩, ?_⟩
      refine ⟨rfl, _, _, M6.get 0 rfl, Nat.le_of_ble_eq_true rfl, rfl, ?_⟩
      intro v0 s0
      have N0 := M6.put 0 rfl s0
      have kp0 : Keep (fun k => k ≠ g8) w6 v0 := (Keep.refl _ w6).put s0 (fun h => h rfl)
      refine ⟨kp0, ?_⟩
      refine ⟨rfl, _, _, N0.get 0 rfl, Nat.le_of_ble_eq_true rfl, rfl, ?_⟩
      intro v1 s1
      have N1 := N0.put 0 rfl s1
      refine brE_mk (fun t_who => ?_) (fun t_who => ?_)
      · have t_who : idB x.who = true := t_who
        exact ⟨idB x.what, ⟨rfl, rfl, rfl, trivial⟩, by simp [refOk, k5, t_who], by unfold refY; simp only [k5, reduceIte, Int.reduceEq, or_true, true_or, or_false, or_self, false_or]; exact N1⟩
      · have t_who : idB x.who = false := t_who
        exact ⟨false, ⟨rfl, rfl, rfl, trivial⟩, by simp [refOk, k5, t_who], by unfold refY; simp only [k5, reduceIte, Int.reduceEq, or_true, true_or, or_false, or_self, false_or]; exact N1⟩
    have k5 : ¬ x.kind = 5 := k5
    refine brE_dec (fun k6 => ?_) (fun k6 => ?_)
    · have k6 : x.kind = 6 := k6
      refine brE_true (decide_eq_true k6) ?_
      refine ⟨fun k => k ≠ g8, ?_⟩
      refine ⟨_, M6.cell 1 rfl rfl, ?_⟩
      refine ⟨.int .i64 x.other, fun u hu => ⟨_, hu.cell hne (M6.cell 1 (i := 5) rfl rfl), rfl⟩, ?_⟩
      refine ⟨rfl, _, _, M6.get 0 rfl, Nat.le_of_ble_eq_true rfl, rfl, ?_⟩
      intro v0 s0
      have N0 := M6.put 0 rfl s0
      have kp0 : Keep (fun k => k ≠ g8) w6 v0 := (Keep.refl _ w6).put s0 (fun h => h rfl)
      refine ⟨kp0, ?_⟩
      refine ⟨rfl, _, _, N0.get 0 rfl, Nat.le_of_ble_eq_true rfl, rfl, ?_⟩
      intro v1 s1
      have N1 := N0.put 0 rfl s1
      refine brE_mk (fun t_who => ?_) (fun t_who => ?_)
      · have t_who : idB x.who = true := t_who
        refine brE_mk (fun t_other => ?_) (fun t_other => ?_)
        · have t_other : idB x.other = true := t_other
          refine ⟨_, N1.cell 1 rfl rfl, ?_⟩
          refine ⟨_, N1.cell 1 rfl rfl, ?_⟩
          exact ⟨(!decide (x.other = x.who)), ⟨rfl, rfl, rfl, trivial⟩, by simp [refOk, k6, t_who, t_other], by unfold refY; simp only [k6, reduceIte, Int.reduceEq, or_true, true_or, or_false, or_self, false_or]; exact N1⟩
        · have t_other : idB x.other = false := t_other
          exact ⟨false, ⟨rfl, rfl, rfl, trivial⟩, by simp [refOk, k6, t_who, t_other], by unfold refY; simp only [k6, reduceIte, Int.reduceEq, or_true, true_or, or_false, or_self, false_or]; exact N1⟩
      · have t_who : idB x.who = false := t_who
        exact ⟨false, ⟨rfl, rfl, rfl, trivial⟩, by simp [refOk, k6, t_who], by unfold refY; simp only [k6, reduceIte, Int.reduceEq, or_true, true_or, or_false, or_self, false_or]; exact N1⟩
    have k6 : ¬ x.kind = 6 := k6
    refine brE_dec (fun k9 => ?_) (fun k9 => ?_)
    · have k9 : x.kind = 9 := k9
      refine ⟨fun k => k ≠ g8, ?_⟩
      refine ⟨_, M6.cell 1 rfl rfl, ?_⟩
      refine ⟨.int .i64 x.other, fun u hu => ⟨_, hu.cell hne (M6.cell 1 (i := 5) rfl rfl), rfl⟩, ?_⟩
      refine ⟨rfl, _, _, M6.get 0 rfl, Nat.le_of_ble_eq_true rfl, rfl, ?_⟩
      intro v0 s0
      have N0 := M6.put 0 rfl s0
      have kp0 : Keep (fun k => k ≠ g8) w6 v0 := (Keep.refl _ w6).put s0 (fun h => h rfl)
      refine ⟨kp0, ?_⟩
      refine ⟨rfl, _, _, N0.get 0 rfl, Nat.le_of_ble_eq_true rfl, rfl, ?_⟩
      intro v1 s1
      have N1 := N0.put 0 rfl s1
      refine brE_mk (fun t_who => ?_) (fun t_who => ?_)
      · have t_who : idB x.who = true := t_who
        refine brE_mk (fun t_other => ?_) (fun t_other => ?_)
        · have t_other : idB x.other = true := t_other
          refine ⟨_, N1.cell 1 rfl rfl, ?_⟩
          refine ⟨_, N1.cell 1 rfl rfl, ?_⟩
          exact ⟨(!decide (x.other = x.who)), ⟨rfl, rfl, rfl, trivial⟩, by simp [refOk, k9, t_who, t_other], by unfold refY; simp only [k9, reduceIte, Int.reduceEq, or_true, true_or, or_false, or_self, false_or]; exact N1⟩
        · have t_other : idB x.other = false := t_other
          exact ⟨false, ⟨rfl, rfl, rfl, trivial⟩, by simp [refOk, k9, t_who, t_other], by unfold refY; simp only [k9, reduceIte, Int.reduceEq, or_true, true_or, or_false, or_self, false_or]; exact N1⟩
      · have t_who : idB x.who = false := t_who
        exact ⟨false, ⟨rfl, rfl, rfl, trivial⟩, by simp [refOk, k9, t_who], by unfold refY; simp only [k9, reduceIte, Int.reduceEq, or_true, true_or, or_false, or_self, false_or]; exact N1⟩
    have k9 : ¬ x.kind = 9 := k9
    refine brE_dec (fun k7 => ?_) (fun k7 => ?_)
    · have k7 : x.kind = 7 := k7
      refine ⟨_, M6.cell 1 rfl rfl, ?_⟩
      refine ⟨rfl, _, _, M6.get 0 rfl, Nat.le_of_ble_eq_true rfl, rfl, ?_⟩
      intro v0 s0
      have N0 := M6.put 0 rfl s0
      exact ⟨idB x.who, ⟨rfl, rfl, rfl, trivial⟩, by simp [refOk, k7], by unfold refY; simp only [k7, reduceIte, Int.reduceEq, or_true, true_or, or_false, or_self, false_or]; exact N0⟩
    have k7 : ¬ x.kind = 7 := k7
    refine brE_dec (fun k8 => ?_) (fun k8 => ?_)
    · have k8 : x.kind = 8 := k8
      refine ⟨fun k => k ≠ g8, ?_⟩
      refine ⟨_, M6.cell 1 rfl rfl, ?_⟩
      refine ⟨.int .i64 x.what, fun u hu => ⟨_, hu.cell hne (M6.cell 1 (i := 4) rfl rfl), rfl⟩, ?_⟩
      refine ⟨.int .i64 x.other, fun u hu => ⟨_, hu.cell hne (M6.cell 1 (i := 5) rfl rfl), rfl⟩, ?_⟩
      refine ⟨rfl, _, _, M6.get 0 rfl, Nat.le_of_ble_eq_true rfl, rfl, ?_⟩
      intro v0 s0
      have N0 := M6.put 0 rfl s0
      have kp0 : Keep (fun k => k ≠ g8) w6 v0 := (Keep.refl _ w6).put s0 (fun h => h rfl)
      refine ⟨kp0, ?_⟩
      refine ⟨rfl, _, _, N0.get 0 rfl, Nat.le_of_ble_eq_true rfl, rfl, ?_⟩
      intro v1 s1
      have N1 := N0.put 0 rfl s1
      have kp1 : Keep (fun k => k ≠ g8) w6 v1 := kp0.put s1 (fun h => h rfl)
      refine ⟨kp1, ?_⟩
      refine ⟨rfl, _, _, N1.get 0 rfl, Nat.le_of_ble_eq_true rfl, rfl, ?_⟩
      intro v2 s2
      have N2 := N1.put 0 rfl s2
      refine brE_mk (fun t_who => ?_) (fun t_who => ?_)
      · have t_who : idB x.who = true := t_who
        refine brE_mk (fun t_what => ?_) (fun t_what => ?_)
        · have t_what : idB x.what = true := t_what
          refine ⟨_, N2.cell 1 rfl rfl, ?_⟩
          refine (within_spec x.other 1 2 _).mono ?_
          rintro _ w8 ⟨rfl, rfl⟩
          exact ⟨decide (1 ≤ x.other ∧ x.other ≤ 2), ⟨rfl, rfl, rfl, trivial⟩, by simp [refOk, k8, t_who, t_what], by unfold refY; simp only [k8, reduceIte, Int.reduceEq, or_true, true_or, or_false, or_self, false_or]; exact N2⟩
        · have t_what : idB x.what = false := t_what
          exact ⟨false, ⟨rfl, rfl, rfl, trivial⟩, by simp [refOk, k8, t_who, t_what], by unfold refY; simp only [k8, reduceIte, Int.reduceEq, or_true, true_or, or_false, or_self, false_or]; exact N2⟩
      · have t_who : idB x.who = false := t_who
        exact ⟨false, ⟨rfl, rfl, rfl, trivial⟩, by simp [refOk, k8, t_who], by unfold refY; simp only [k8, reduceIte, Int.reduceEq, or_true, true_or, or_false, or_self, false_or]; exact N2⟩
    have k8 : ¬ x.kind = 8 := k8
    refine brE_dec (fun k10 => ?_) (fun k10 => ?_)
    · have k10 : x.kind = 10 := k10
      refine ⟨_, M6.cell 1 rfl rfl, ?_⟩
      refine ⟨rfl, _, _, M6.get 0 rfl, Nat.le_of_ble_eq_true rfl, rfl, ?_⟩
      intro v0 s0
      have N0 := M6.put 0 rfl s0
      refine brE_mk (fun t_who => ?_) (fun t_who => ?_)
      · have t_who : idB x.who = true := t_who
        refine ⟨_, N0.cell 1 rfl rfl, ?_⟩
        exact ⟨(decide (x.til = 0)), ⟨rfl, rfl, rfl, trivial⟩, by simp [refOk, k10, t_who], by unfold refY; simp only [k10, reduceIte, Int.reduceEq, or_true, true_or, or_false, or_self, false_or]; exact N0⟩
      · have t_who : idB x.who = false := t_who
        exact ⟨false, ⟨rfl, rfl, rfl, trivial⟩, by simp [refOk, k10, t_who], by unfold refY; simp only [k10, reduceIte, Int.reduceEq, or_true, true_or, or_false, or_self, false_or]; exact N0⟩
    have k10 : ¬ x.kind = 10 := k10
    refine brE_dec (fun k11 => ?_) (fun k11 => ?_)
    · have k11 : x.kind = 11 := k11
      refine ⟨_, M6.cell 1 rfl rfl, ?_⟩
      refine ⟨rfl, _, _, M6.get 0 rfl, Nat.le_of_ble_eq_true rfl, rfl, ?_⟩
      intro v0 s0
      have N0 := M6.put 0 rfl s0
      refine brE_mk (fun t_what => ?_) (fun t_what => ?_)
      · have t_what : idB x.what = true := t_what
        refine ⟨_, N0.cell 1 rfl rfl, ?_⟩
        refine ⟨_, N0.cell 1 rfl rfl, ?_⟩
        refine brE_ndec (fun c2 => ?_) (fun c2 => ?_)
        · have c2 : ¬ x.what = x.id := c2
          refine ⟨_, N0.cell 1 rfl rfl, ?_⟩
          refine brE_dec (fun c3 => ?_) (fun c3 => ?_)
          · have c3 : x.since = 0 := c3
            refine ⟨_, N0.cell 1 rfl rfl, ?_⟩
            exact ⟨(decide (x.til = 0)), ⟨rfl, rfl, rfl, trivial⟩, by simp [refOk, k11, t_what, c2, c3], by unfold refY; simp only [k11, reduceIte, Int.reduceEq, or_true, true_or, or_false, or_self, false_or]; exact N0⟩
          · have c3 : ¬ x.since = 0 := c3
            exact ⟨false, ⟨rfl, rfl, rfl, trivial⟩, by simp [refOk, k11, t_what, c2, c3], by unfold refY; simp only [k11, reduceIte, Int.reduceEq, or_true, true_or, or_false, or_self, false_or]; exact N0⟩
        · have c2 : x.what = x.id := c2
          exact ⟨false, ⟨rfl, rfl, rfl, trivial⟩, by simp [refOk, k11, t_what, c2], by unfold refY; simp only [k11, reduceIte, Int.reduceEq, or_true, true_or, or_false, or_self, false_or]; exact N0⟩
      · have t_what : idB x.what = false := t_what
        exact ⟨false, ⟨rfl, rfl, rfl, trivial⟩, by simp [refOk, k11, t_what], by unfold refY; simp only [k11, reduceIte, Int.reduceEq, or_true, true_or, or_false, or_self, false_or]; exact N0⟩
    have k11 : ¬ x.kind = 11 := k11
    exact ⟨false, ⟨rfl, rfl, rfl, trivial⟩, by simp [refOk, k1, k2, k3, k4, k5, k6, k9, k7, k8, k10, k11], by unfold refY; simp only [k1, k2, k3, k4, k5, k6, k9, k7, k8, k10, k11, or_self, if_false]; exact M6⟩
  rintro ok w7 ⟨hok, M7⟩
  refine Snd.go C_ok plans169 (by kernel_rfl) ?_
  have hfin : ∀ {w' : World}, ¬ (refOk x && decide (x = refY x)) = true → Ext w w' → Value.int .i64 1 = .int .i64 (formE x) ∧ Ext w w' := fun h e => by
    refine ⟨?_, e⟩
    by_cases hk : 1 ≤ x.kind ∧ x.kind ≤ 11
    · rw [form_ref (hhead hk), if_neg h]
    · rw [formE_head (headB_no fun hh => hk (headB_iff.1 hh).1)]
  refine brE_mk (fun b1 => ?_) (fun b1 => ?_)
  · have b1 : refOk x = false := by rw [← hok]; simpa using b1
    exact hfin (by rw [b1]; simp) M7.ext
  have b1 : refOk x = true := by rw [← hok]; simpa using b1
  refine ⟨x.cells, rfl, M7.rd 1 rfl, ?_⟩
  refine ⟨(refY x).cells, rfl, M7.rd 0 rfl, ?_⟩
  refine ⟨_, neqF _ _ x (refY x), ?_⟩
  refine brE_ndec (fun b2 => ?_) (fun b2 => ?_)
  · exact hfin (by rw [decide_eq_false b2]; simp) M7.ext
  have b2 : x = refY x := b2
  have hform := form_ref (hhead (ref_kind b1))
  rw [if_pos (by rw [b1, decide_eq_true b2]; rfl)] at hform
  clear b2 hfin
  refine ⟨Snd.go C_ok plans169 (by kernel_rfl) ?_⟩
  refine ⟨_, M7.cell 1 rfl rfl, ?_⟩
  refine brE_dec (fun b3 => ?_) (fun b3 => ?_)
  · have b3 : x.kind = 1 := b3
    refine ⟨_, M7.cell 1 rfl rfl, ?_⟩
    refine (refIsName_spec x.name _ hx.name).mono ?_
    rintro _ w8 ⟨rfl, rfl⟩
    refine brE_mk (fun b4 => ?_) (fun b4 => ?_)
    · have b4 : nameB x.name.data.toList = false := by simpa using b4
      exact ⟨by rw [hform, if_pos ⟨b3, b4⟩], M7.ext⟩
    · have b4 : nameB x.name.data.toList = true := by simpa using b4
      refine ⟨Snd.fin C_ok (plans := []) (by kernel_rfl) ?_⟩
      exact ⟨by rw [hform, if_neg (fun h => by rw [b4] at h; cases h.2)], M7.ext⟩
  · have b3 : ¬ x.kind = 1 := b3
    refine ⟨Snd.fin C_ok (plans := []) (by kernel_rfl) ?_⟩
    exact ⟨by rw [hform, if_neg (fun h => b3 h.1)], M7.ext⟩
end Go.Proofs.YtdpdjcopkehdjaaGreat
namespace Go.Proofs.YtdpdjcopkehdjaaGreat
open Go.Eng Go.RowKit
theorem insD_in {n : Int} : ∀ {l : List Int}, l.Pairwise (· < ·) → n ∈ l → insD n l = l
  | [], _, h => by cases h
  | x :: r, hp, h => by
    obtain ⟨h1, h2⟩ := List.pairwise_cons.1 hp
    unfold insD
    rcases List.mem_cons.1 h with rfl | h
    · rw [if_neg (Int.lt_irrefl _), if_pos rfl]
    · have := h1 n h
      rw [if_neg (by omega), if_neg (by omega), insD_in h2 h]
theorem insD_out {n : Int} : ∀ {l : List Int}, n ∉ l → (insD n l).length = l.length + 1
  | [], _ => rfl
  | x :: r, h => by
    unfold insD
    split
    · rfl
    · split
      · rename_i e; exact absurd (by rw [e]; simp) h
      · rw [List.length_cons, insD_out (fun e => h (by simp [e])), List.length_cons]
theorem statesN_snoc (l : List Fact) (x : Fact) : statesN (l ++ [x]) = statesN l + if x.kind = 1 ∧ namedIn l x.who = false then 1 else 0 := by
  unfold statesN
  rw [whos_snoc]
  by_cases hk : x.kind = 1
  · rw [if_pos hk, sortD_snoc, namedIn_eq]
    by_cases hm : x.who ∈ whos l
    · rw [insD_in (sortD_asc _) (mem_sortD.2 hm), if_neg (by simp [hm])]; rfl
    · rw [insD_out (fun e => hm (mem_sortD.1 e)), if_pos ⟨hk, decide_eq_false hm⟩]
  · rw [if_neg hk, List.append_nil, if_neg (fun e => hk e.1)]; rfl
theorem statesN_take {l : List Fact} {i : Nat} (hi : i < l.length) : statesN (l.take (i + 1)) = statesN (l.take i) + if l[i].kind = 1 ∧ namedIn (l.take i) l[i].who = false then 1 else 0 := by
  rw [List.take_succ_eq_append_getElem hi, statesN_snoc]
theorem statesN_le (l : List Fact) : statesN l ≤ l.length := by
  unfold statesN
  refine Nat.le_trans (sortD_length _) ?_
  unfold whos
  rw [List.length_map]
  exact List.length_filter_le _ _
set_option maxRecDepth 100000 in
theorem refstates_spec {w1 : World} {A : Option Addr} {l : List Fact} {c : Nat} (hr : Reads w1 A (fcells l)) (hl : l.length ≤ 2 ^ 20) (hc : l.length ≤ c) :
    CallsV C.P 172 #[.slice A l.length c] w1 fun v w' => v = .int .i64 (statesN l) ∧ w' = w1 := by
  refine callsV_of C_ok (args := [_]) (plans := plans172) Tryz.func172 rfl Tryz.ntmps172 (by kernel_rfl) (Nat.le_of_ble_eq_true rfl) ?_
  refine loopE C_ok (fun (i : Nat) => [(0, .slice A l.length c), (3, .int .i64 (statesN (l.take i))), (4, .int .i64 i)])
    (fun i w' => w' = w1 ∧ i ≤ l.length) (fun i => l.length - i) 0 ⟨rfl, rfl, rfl, trivial⟩ ⟨rfl, Nat.zero_le _⟩ ?_
  rintro i w2 ⟨rfl, hi⟩
  refine brE_dec (fun hlt => ?_) (fun hge => ?_)
  · have hlt : i < l.length := by have : (i : Int) < (l.length : Nat) := hlt; omega
    have next : IntKind.i64.wrap ((i : Int) + 1) = ((i + 1 : Nat) : Int) := fit ⟨by omega, by omega⟩
    have hlen : (l.take i).length = i := by rw [List.length_take]; omega
    have hsn := statesN_le (l.take i)
    have hst := statesN_take hlt
    obtain ⟨b, o, hA, hcl⟩ := Reads.fact hr hlt
    refine ⟨0, i, rfl, rfl, Nat.zero_le _, by omega, ?_⟩
    refine ⟨i, b, o, rfl, hlt, hA, ?_⟩
    refine ⟨.int .i64 l[i].who, hcl 3 _ rfl, ?_⟩
    have hn := refnamed_spec (cK := c - 0) (Reads.front (c := c) (i := i) hr) (by omega) l[i].who
    rw [hlen] at hn
    refine hn.mono ?_
    rintro _ w3 ⟨rfl, rfl⟩
    refine ⟨i, b, o, rfl, hlt, hA, ?_⟩
    refine ⟨.int .u8 l[i].kind, hcl 2 _ rfl, ?_⟩
    refine brE_dec (fun k1 => ?_) (fun k1 => ?_)
    · have k1 : l[i].kind = 1 := k1
      refine brE_mk (fun k2 => ?_) (fun k2 => ?_)
      · have k2 : namedIn (l.take i) l[i].who = false := by simpa using k2
        rw [if_pos ⟨k1, k2⟩] at hst
        refine ⟨((statesN (l.take i) + 1 : Nat) : Int), fit ⟨by omega, by omega⟩, ?_⟩
        refine ⟨_, next, ?_⟩
        exact ⟨i + 1, ⟨rfl, by show _ = some (Value.int .i64 (statesN (l.take (i + 1)))); rw [hst]; rfl, rfl, trivial⟩, ⟨rfl, hlt⟩, by omega⟩
      · have k2 : ¬ namedIn (l.take i) l[i].who = false := by simpa using k2
        rw [if_neg (fun e => k2 e.2)] at hst
        refine ⟨_, next, ?_⟩
        exact ⟨i + 1, ⟨rfl, by show _ = some (Value.int .i64 (statesN (l.take (i + 1)))); rw [hst]; rfl, rfl, trivial⟩, ⟨rfl, hlt⟩, by omega⟩
    · have k1 : ¬ l[i].kind = 1 := k1
      rw [if_neg (fun e => k1 e.1)] at hst
      refine ⟨_, next, ?_⟩
      exact ⟨i + 1, ⟨rfl, by show _ = some (Value.int .i64 (statesN (l.take (i + 1)))); rw [hst]; rfl, rfl, trivial⟩, ⟨rfl, hlt⟩, by omega⟩
  · have : i = l.length := by have : ¬ (i : Int) < (l.length : Nat) := hge; omega
    subst this
    exact ⟨by rw [List.take_length], rfl⟩
theorem last_fact {l : List Fact} (h : 0 < l.length) : l.getLast? = some (l[l.length - 1]'(by omega)) := List.getLast?_eq_getElem? ▸ List.getElem?_eq_getElem (by omega)
set_option maxRecDepth 100000 in
set_option maxHeartbeats 2000000 in
theorem refBehind_spec {w : World} {A : Option Addr} {l : List Fact} {c : Nat} (hr : Reads w A (fcells l)) (hl : l.length ≤ 2 ^ 20) (hc : l.length ≤ c) {x : Fact} (hx : x.Nums) :
    CallsV C.P 104 #[.slice A l.length c, x.val] w fun v w' => v = .int .i64 (behindE l x) ∧ Ext w w' := by
  refine callsV_ofS (args := [_, _]) Tryz.func104 rfl Tryz.ntmps104 C_ok (Nat.le_of_ble_eq_true rfl) ?_
  unfold behindE
  refine Snd.go C_ok plans104 (by kernel_rfl) ?_
  intro g1 w1 h1
  have M1 : Mem w w1 [(g1, .cells x.cells.toArray 55 (0, 0))] := (Mem.start w).alloc h1
  refine ⟨Snd.go C_ok plans104 (by kernel_rfl) ?_⟩
  refine ⟨x.cells, rfl, M1.rd 0 rfl, ?_⟩
  refine (refFormed_spec x hx w1).mono ?_
  rintro _ w2 ⟨rfl, e2⟩
  have M2 := M1.grow e2
  clear M1 h1
  refine ⟨Snd.go C_ok plans104 (by kernel_rfl) ?_⟩
  refine brE_ndec (fun a1 => ?_) (fun a1 => ?_)
  · have a1 : ¬ formE x = 0 := a1
    exact ⟨by rw [if_pos a1], M2.ext⟩
  have a1 : formE x = 0 := a1
  rw [if_neg (fun e => e a1)]
  refine ⟨Snd.go C_ok plans104 (by kernel_rfl) ?_⟩
  refine brE_dec (fun a2 => ?_) (fun a2 => ?_)
  · have a2 : 300 ≤ l.length := by have : (l.length : Int) ≥ 300 := a2; omega
    exact ⟨by rw [if_pos a2], M2.ext⟩
  have a2 : ¬ 300 ≤ l.length := by have : ¬ (l.length : Int) ≥ 300 := a2; omega
  rw [if_neg a2]
  have hrl := hr.ext M2.ext
  refine ⟨Snd.join C_ok plans104 (fun _ : Unit => [(0, .slice A l.length c), (3, .pointer (some ⟨g1, 0, none⟩))]) (fun _ w' => w' = w2 ∧ l.getLast?.any (fun y => decide (x.known < y.known)) = false) (by kernel_rfl) ?_ ?_⟩
  · refine brE_dec (fun a3 => ?_) (fun a3 => ?_)
    · have a3 : 0 < l.length := by have : (l.length : Int) > 0 := a3; omega
      refine ⟨_, M2.cell 0 rfl rfl, ?_⟩
      obtain ⟨b, o, hA, hcl⟩ := Reads.fact hrl (show l.length - 1 < l.length by omega)
      refine ⟨((l.length - 1 : Nat) : Int), by rw [fit ⟨by omega, by omega⟩]; omega, ?_⟩
      refine ⟨l.length - 1, b, o, rfl, by omega, hA, ?_⟩
      refine ⟨.int .i64 (l[l.length - 1]'(by omega)).known, hcl 1 _ rfl, ?_⟩
      refine brE_dec (fun a4 => ?_) (fun a4 => ?_)
      · have a4 : x.known < (l[l.length - 1]'(by omega)).known := a4
        exact ⟨by rw [if_pos (by rw [last_fact a3]; exact decide_eq_true a4)], M2.ext⟩
      · have a4 : ¬ x.known < (l[l.length - 1]'(by omega)).known := a4
        exact ⟨(), ⟨rfl, rfl, trivial⟩, rfl, by rw [last_fact a3]; exact decide_eq_false a4⟩
    · have a3 : l = [] := List.length_eq_zero_iff.1 (by have : ¬ (l.length : Int) > 0 := a3; omega)
      exact ⟨(), ⟨rfl, rfl, trivial⟩, rfl, by rw [a3]; rfl⟩
  rintro _ w2' ⟨rfl, a4⟩
  rw [if_neg (by rw [a4]; decide)]
  refine Snd.fin C_ok (plans := plans104) (by kernel_rfl) ?_
  refine ⟨_, M2.cell 0 rfl rfl, ?_⟩
  refine (numbered_spec hrl hl x.id).mono ?_
  rintro _ w3 ⟨rfl, rfl⟩
  refine brE_mk (fun a5 => ?_) (fun a5 => ?_)
  · exact ⟨by rw [if_pos a5], M2.ext⟩
  rw [if_neg (by rw [a5]; decide)]
  refine ⟨_, M2.cell 0 rfl rfl, ?_⟩
  refine (refnamed_spec hrl hl x.who).mono ?_
  rintro _ w3 ⟨rfl, rfl⟩
  refine ⟨_, M2.cell 0 rfl rfl, ?_⟩
  refine (refnamed_spec hrl hl x.what).mono ?_
  rintro _ w3 ⟨rfl, rfl⟩
  refine ⟨_, M2.cell 0 rfl rfl, ?_⟩
  refine brE_dec (fun k2 => ?K2) (fun k2 => ?N2)
  case' K2 =>
    have hk : x.kind = 2 ∨ x.kind = 3 ∨ x.kind = 5 ∨ x.kind = 8 := .inl k2
    refine brE_true (decide_eq_true k2) ?_
  case' N2 =>
    have k2 : ¬ x.kind = 2 := k2
    refine brE_dec (fun k3 => ?K3) (fun k3 => ?N3)
    case' K3 =>
      have hk : x.kind = 2 ∨ x.kind = 3 ∨ x.kind = 5 ∨ x.kind = 8 := .inr (.inl k3)
      refine brE_true (decide_eq_true k3) ?_
    case' N3 =>
      have k3 : ¬ x.kind = 3 := k3
      refine brE_dec (fun k5 => ?K5) (fun k5 => ?N5)
      case' K5 =>
        have hk : x.kind = 2 ∨ x.kind = 3 ∨ x.kind = 5 ∨ x.kind = 8 := .inr (.inr (.inl k5))
        refine brE_true (decide_eq_true k5) ?_
      case' N5 =>
        have k5 : ¬ x.kind = 5 := k5
        refine brE_dec (fun k8 => ?K8) (fun k8 => ?N8)
        case' K8 =>
          have hk : x.kind = 2 ∨ x.kind = 3 ∨ x.kind = 5 ∨ x.kind = 8 := .inr (.inr (.inr k8))
        case' N8 =>
          have k8 : ¬ x.kind = 8 := k8
          have hs0 : ¬ (x.kind = 2 ∨ x.kind = 3 ∨ x.kind = 5 ∨ x.kind = 8) := by omega
          refine brE_dec (fun k4 => ?_) (fun k4 => ?_)
          · have k4 : x.kind = 4 := k4
            have hs : (speaks x).all (namedIn l) = (namedIn l x.who && namedIn l x.what) := by unfold speaks; rw [if_neg hs0, if_pos k4]; simp
            rw [hs]
            refine brE_mk (fun b1 => ?_) (fun b1 => ?_)
            · have b1 : namedIn l x.who = false := by simpa using b1
              exact ⟨by rw [if_pos (by rw [b1]; rfl)], M2.ext⟩
            have b1 : namedIn l x.who = true := by simpa using b1
            refine brE_mk (fun b2 => ?_) (fun b2 => ?_)
            · have b2 : namedIn l x.what = false := by simpa using b2
              exact ⟨by rw [if_pos (by rw [b2, Bool.and_false])], M2.ext⟩
            · have b2 : namedIn l x.what = true := by simpa using b2
              exact ⟨by rw [if_neg (by rw [b1, b2]; decide), if_neg (fun e => by omega), if_neg (fun e => by omega)], M2.ext⟩
          have k4 : ¬ x.kind = 4 := k4
          refine brE_dec (fun k7 => ?_) (fun k7 => ?_)
          · have k7 : x.kind = 7 := k7
            have hs : (speaks x).all (namedIn l) = namedIn l x.who := by unfold speaks; rw [if_neg hs0, if_neg k4, if_pos k7]; simp
            rw [hs]
            refine brE_mk (fun b1 => ?_) (fun b1 => ?_)
            · have b1 : namedIn l x.who = false := by simpa using b1
              exact ⟨by rw [if_pos b1], M2.ext⟩
            · have b1 : namedIn l x.who = true := by simpa using b1
              exact ⟨by rw [if_neg (by rw [b1]; decide), if_neg (fun e => by omega), if_neg (fun e => by omega)], M2.ext⟩
          have k7 : ¬ x.kind = 7 := k7
          have hs : (speaks x).all (namedIn l) = true := by unfold speaks; rw [if_neg hs0, if_neg k4, if_neg k7]; rfl
          rw [if_neg (by rw [hs]; decide)]
          refine brE_dec (fun k11 => ?_) (fun k11 => ?_)
          · have k11 : x.kind = 11 := k11
            refine ⟨_, M2.cell 0 rfl rfl, ?_⟩
            refine (numbered_spec hrl hl x.what).mono ?_
            rintro _ w3 ⟨rfl, rfl⟩
            refine brE_mk (fun b1 => ?_) (fun b1 => ?_)
            · have b1 : idIn l x.what = false := by simpa using b1
              exact ⟨by rw [if_pos ⟨k11, b1⟩], M2.ext⟩
            · have b1 : ¬ idIn l x.what = false := by simpa using b1
              exact ⟨by rw [if_neg (fun e => b1 e.2), if_neg (fun e => by omega)], M2.ext⟩
          have k11 : ¬ x.kind = 11 := k11
          rw [if_neg (fun e => k11 e.1)]
          refine brE_dec (fun k1 => ?_) (fun k1 => ?_)
          · have k1 : x.kind = 1 := k1
            refine (refstates_spec hrl hl hc).mono ?_
            rintro _ w3 ⟨rfl, rfl⟩
            refine brE_mk (fun b1 => ?_) (fun b1 => ?_)
            · have b1 : namedIn l x.who = false := by simpa using b1
              refine brE_dec (fun b2 => ?_) (fun b2 => ?_)
              · have b2 : 200 ≤ statesN l := by have : (statesN l : Int) ≥ 200 := b2; omega
                exact ⟨by rw [if_pos ⟨k1, b1, b2⟩], M2.ext⟩
              · have b2 : ¬ 200 ≤ statesN l := by have : ¬ (statesN l : Int) ≥ 200 := b2; omega
                exact ⟨by rw [if_neg (fun e => b2 e.2.2)], M2.ext⟩
            · have b1 : ¬ namedIn l x.who = false := by simpa using b1
              exact ⟨by rw [if_neg (fun e => b1 e.2.1)], M2.ext⟩
          · have k1 : ¬ x.kind = 1 := k1
            exact ⟨by rw [if_neg (fun e => k1 e.1)], M2.ext⟩
  all_goals
    have hs : (speaks x).all (namedIn l) = namedIn l x.what := by unfold speaks; rw [if_pos hk]; simp
    rw [hs]
    refine brE_mk (fun b1 => ?_) (fun b1 => ?_)
    · have b1 : namedIn l x.what = false := by simpa using b1
      exact ⟨by rw [if_pos b1], M2.ext⟩
    · have b1 : namedIn l x.what = true := by simpa using b1
      exact ⟨by rw [if_neg (by rw [b1]; decide), if_neg (fun e => by omega), if_neg (fun e => by omega)], M2.ext⟩
set_option maxRecDepth 100000 in
theorem refCheck_spec {w : World} {A : Option Addr} {l : List Fact} {c : Nat} (h : HF w A l c) (hl : l.length ≤ 2 ^ 20) :
    CallsV C.P 48 #[.slice A l.length c] w fun v w' => v = .tuple #[.int .i64 ((chkF l).1 : Nat), .int .i64 (chkF l).2] ∧ Ext w w' := by
  have hcap := h.len
  refine callsV_of C_ok (args := [_]) (plans := plans48) Tryz.func48 rfl Tryz.ntmps48 (by kernel_rfl) (Nat.le_of_ble_eq_true rfl) ?_
  refine loopE C_ok (fun (i : Nat) => [(0, .slice A l.length c), (4, .int .i64 i)])
    (fun i w' => i ≤ l.length ∧ Ext w w' ∧ chkF l = chkG (l.take i) (l.drop i)) (fun i => l.length - i) 0 ⟨rfl, rfl, trivial⟩ ⟨Nat.zero_le _, Ext.refl _, rfl⟩ ?_
  rintro i w1 ⟨hi, e1, hch⟩
  refine brE_dec (fun hlt => ?_) (fun hge => ?_)
  · have hlt : i < l.length := by have : (i : Int) < (l.length : Nat) := hlt; omega
    have next : IntKind.i64.wrap ((i : Int) + 1) = ((i + 1 : Nat) : Int) := fit ⟨by omega, by omega⟩
    have hlen : (l.take i).length = i := by rw [List.length_take]; omega
    rw [chkG_at hlt] at hch
    obtain ⟨b, o, hA, hcl⟩ := Reads.fact (h.reads.ext e1) hlt
    refine ⟨0, i, rfl, rfl, Nat.zero_le _, by omega, ?_⟩
    refine ⟨i, b, o, rfl, hlt, hA, ?_⟩
    refine ⟨l[i].cells, rfl, hcl, ?_⟩
    have hn := refBehind_spec (c := c - 0) (Reads.front (c := c) (i := i) (h.reads.ext e1)) (by omega) (by omega) (h.nums _ (List.getElem_mem hlt))
    rw [hlen] at hn
    refine hn.mono ?_
    rintro _ w2 ⟨rfl, e2⟩
    refine brE_ndec (fun a1 => ?_) (fun a1 => ?_)
    · have a1 : ¬ behindE (l.take i) l[i] = 0 := a1
      rw [if_pos a1] at hch
      exact ⟨by rw [hch], e1.trans e2⟩
    · have a1 : behindE (l.take i) l[i] = 0 := a1
      rw [if_neg (fun e => e a1)] at hch
      refine ⟨_, next, ?_⟩
      exact ⟨i + 1, ⟨rfl, rfl, trivial⟩, ⟨hlt, e1.trans e2, hch⟩, by omega⟩
  · have : i = l.length := by have : ¬ (i : Int) < (l.length : Nat) := hge; omega
    subst this
    rw [List.drop_length] at hch
    exact ⟨by rw [hch]; rfl, e1⟩
end Go.Proofs.YtdpdjcopkehdjaaGreat
namespace Go.Proofs.YtdpdjcopkehdjaaGreat.Rk
open Go.Eng Go.RowKit
/-- The first error of four. -/
def firstE (e0 e1 e2 e3 : Int) : Int := if e0 ≠ 0 then e0 else if e1 ≠ 0 then e1 else if e2 ≠ 0 then e2 else e3
theorem first_spec {w : World} {gF f0 f1 f2 f3 : Nat} {c0 c1 c2 c3 : Array Value} {e0 e1 e2 e3 : Int} (hF : w.heap[gF]? = some (.cells #[.func (.func f0) #[] c0, .func (.func f1) #[] c1, .func (.func f2) #[] c2, .func (.func f3) #[] c3] 142 (0, 0)))
    (g0 : C.can f0 = true) (g1 : C.can f1 = true) (g2 : C.can f2 = true) (g3 : C.can f3 = true)
    (k0 : ∀ w', Ext w w' → CallsV C.P f0 (#[] ++ ([] : List Value).toArray ++ c0) w' fun v w'' => v = .int .i64 e0 ∧ Ext w' w'')
    (k1 : ∀ w', Ext w w' → CallsV C.P f1 (#[] ++ ([] : List Value).toArray ++ c1) w' fun v w'' => v = .int .i64 e1 ∧ Ext w' w'')
    (k2 : ∀ w', Ext w w' → CallsV C.P f2 (#[] ++ ([] : List Value).toArray ++ c2) w' fun v w'' => v = .int .i64 e2 ∧ Ext w' w'')
    (k3 : ∀ w', Ext w w' → CallsV C.P f3 (#[] ++ ([] : List Value).toArray ++ c3) w' fun v w'' => v = .int .i64 e3 ∧ Ext w' w'') :
    CallsV C.P 73 #[.slice (some ⟨gF, 0, none⟩) 4 4] w fun v w' => v = .int .i64 (firstE e0 e1 e2 e3) ∧ Ext w w' := by
  refine callsV_of C_ok (args := [_]) (plans := []) Tryz.func73 rfl Tryz.ntmps73 (by kernel_rfl) (Nat.le_of_ble_eq_true rfl) ?_
  refine loopE C_ok (fun (i : Nat) => [(6, .slice (some ⟨gF, 0, none⟩) 4 4), (7, .int .i64 4), (8, .int .i64 (i : Nat))])
    (fun i w' => i ≤ 4 ∧ Ext w w' ∧ (0 < i → e0 = 0) ∧ (1 < i → e1 = 0) ∧ (2 < i → e2 = 0) ∧ (3 < i → e3 = 0)) (fun i => 4 - i) 0 ⟨rfl, rfl, rfl, trivial⟩
    ⟨Nat.zero_le _, Ext.refl _, (fun h => absurd h (by omega)), (fun h => absurd h (by omega)), (fun h => absurd h (by omega)), (fun h => absurd h (by omega))⟩ ?_
  rintro i w1 ⟨hi, e, z0, z1, z2, z3⟩
  refine brE_dec (fun hlt => ?_) (fun hge => ?_)
  · have hlt : i < 4 := by have : (i : Int) < 4 := hlt; omega
    have next : IntKind.i64.wrap ((i : Int) + 1) = ((i + 1 : Nat) : Int) := fit ⟨by omega, by omega⟩
    refine ⟨i, gF, 0, rfl, hlt, rfl, ?_⟩
    rcases (show i = 0 ∨ i = 1 ∨ i = 2 ∨ i = 3 by omega) with rfl | rfl | rfl | rfl
    · refine ⟨_, cell_of_block (i := 0) (e.heap hF) rfl, ?_⟩
      refine brE_true g0 ?_
      refine (k0 w1 e).mono ?_
      rintro v w2 ⟨rfl, e2'⟩
      refine brE_ndec (fun b => ?_) (fun b => ?_)
      · have b : e0 ≠ 0 := b
        exact ⟨congrArg _ (by unfold firstE; rw [if_pos b]), e.trans e2'⟩
      · have b : e0 = 0 := b
        refine ⟨_, next, ?_⟩
        exact ⟨1, ⟨rfl, rfl, rfl, trivial⟩, ⟨by omega, e.trans e2', fun _ => b, (fun h => absurd h (by omega)), (fun h => absurd h (by omega)), (fun h => absurd h (by omega))⟩, by decide⟩
    · refine ⟨_, cell_of_block (i := 1) (e.heap hF) rfl, ?_⟩
      refine brE_true g1 ?_
      refine (k1 w1 e).mono ?_
      rintro v w2 ⟨rfl, e2'⟩
      have q0 := z0 (by omega)
      refine brE_ndec (fun b => ?_) (fun b => ?_)
      · have b : e1 ≠ 0 := b
        exact ⟨congrArg _ (by unfold firstE; rw [if_neg (fun h => h q0), if_pos b]), e.trans e2'⟩
      · have b : e1 = 0 := b
        refine ⟨_, next, ?_⟩
        exact ⟨2, ⟨rfl, rfl, rfl, trivial⟩, ⟨by omega, e.trans e2', fun _ => q0, fun _ => b, (fun h => absurd h (by omega)), (fun h => absurd h (by omega))⟩, by decide⟩
    · refine ⟨_, cell_of_block (i := 2) (e.heap hF) rfl, ?_⟩
      refine brE_true g2 ?_
      refine (k2 w1 e).mono ?_
      rintro v w2 ⟨rfl, e2'⟩
      have q0 := z0 (by omega)
      have q1 := z1 (by omega)
      refine brE_ndec (fun b => ?_) (fun b => ?_)
      · have b : e2 ≠ 0 := b
        exact ⟨congrArg _ (by unfold firstE; rw [if_neg (fun h => h q0), if_neg (fun h => h q1), if_pos b]), e.trans e2'⟩
      · have b : e2 = 0 := b
        refine ⟨_, next, ?_⟩
        exact ⟨3, ⟨rfl, rfl, rfl, trivial⟩, ⟨by omega, e.trans e2', fun _ => q0, fun _ => q1, fun _ => b, (fun h => absurd h (by omega))⟩, by decide⟩
    · refine ⟨_, cell_of_block (i := 3) (e.heap hF) rfl, ?_⟩
      refine brE_true g3 ?_
      refine (k3 w1 e).mono ?_
      rintro v w2 ⟨rfl, e2'⟩
      have q0 := z0 (by omega)
      have q1 := z1 (by omega)
      have q2 := z2 (by omega)
      refine brE_ndec (fun b => ?_) (fun b => ?_)
      · have b : e3 ≠ 0 := b
        exact ⟨congrArg _ (by unfold firstE; rw [if_neg (fun h => h q0), if_neg (fun h => h q1), if_neg (fun h => h q2)]), e.trans e2'⟩
      · have b : e3 = 0 := b
        refine ⟨_, next, ?_⟩
        exact ⟨4, ⟨rfl, rfl, rfl, trivial⟩, ⟨by omega, e.trans e2', fun _ => q0, fun _ => q1, fun _ => q2, fun _ => b⟩, by decide⟩
  · have hi4 : i = 4 := by have : ¬ (i : Int) < 4 := hge; omega
    have q0 := z0 (by omega)
    have q1 := z1 (by omega)
    have q2 := z2 (by omega)
    have q3 := z3 (by omega)
    exact ⟨congrArg _ (by unfold firstE; rw [if_neg (fun h => h q0), if_neg (fun h => h q1), if_neg (fun h => h q2), q3]), e⟩
/-- What is wrong; 're': with the rules. -/
def chkR (f : List Fact) (re : Int) (s : Scn) (gs : List (Int × Int)) : Int := firstE (chkF f).2 re (schk s) (gchk gs)
theorem check_spec {w : World} {A B : Option Addr} {f : List Fact} {c d : Nat} {gs : List (Int × Int)} {p : Option Addr} {re : Int} (hf : HF w A f c) (hl : f.length ≤ 2 ^ 20) (s : Scn) (hr : Reads w B (prCells gs))
    (hR : ∀ w' g5, Ext w w' → w'.heap[g5]? = some (.cells #[.pointer p] 104 (0, 0)) → CallsV C.P 75 (#[] ++ ([] : List Value).toArray ++ #[.pointer (some ⟨g5, 0, none⟩)]) w' fun v w'' => v = .int .i64 re ∧ Ext w' w'') :
    CallsV C.P 39 #[.slice A f.length c, .pointer p, s.val, .slice B gs.length d] w fun v w' => v = .int .i64 (chkR f re s gs) ∧ Ext w w' := by
  refine callsV_of C_ok (args := [_, _, _, _]) (plans := []) Tryz.func39 rfl Tryz.ntmps39 (by kernel_rfl) (Nat.le_of_ble_eq_true rfl) ?_
  intro g4 w1 h1
  have M1 : Mem w w1 [(g4, .cells #[.slice A f.length c] 22 (0, 0))] := (Mem.start w).alloc h1
  intro g5 w2 h2
  have M2 : Mem w w2 [(g5, .cells #[.pointer p] 104 (0, 0)), (g4, .cells #[.slice A f.length c] 22 (0, 0))] := M1.alloc h2
  intro g6 w3 h3
  have M3 : Mem w w3 [(g6, .cells s.cells.toArray 24 (0, 0)), (g5, .cells #[.pointer p] 104 (0, 0)), (g4, .cells #[.slice A f.length c] 22 (0, 0))] := M2.alloc h3
  intro g7 w4 h4
  have M4 : Mem w w4 [(g7, .cells #[.slice B gs.length d] 25 (0, 0)), (g6, .cells s.cells.toArray 24 (0, 0)), (g5, .cells #[.pointer p] 104 (0, 0)), (g4, .cells #[.slice A f.length c] 22 (0, 0))] := M3.alloc h4
  refine ⟨[], [.pointer (some ⟨g4, 0, none⟩)], rfl, rfl, ?_⟩
  refine ⟨[], [.pointer (some ⟨g5, 0, none⟩)], rfl, rfl, ?_⟩
  refine ⟨[], [.pointer (some ⟨g6, 0, none⟩)], rfl, rfl, ?_⟩
  refine ⟨[], [.pointer (some ⟨g7, 0, none⟩)], rfl, rfl, ?_⟩
  intro gF w5 h5
  have M5 := M4.alloc h5
  have hF := h5.here
  refine (first_spec (e0 := (chkF f).2) (e1 := re) (e2 := schk s) (e3 := gchk gs) hF rfl rfl rfl rfl (fun w' e => ?_) (fun w' e => ?_) (fun w' e => ?_) (fun w' e => ?_)).mono ?_
  · have M := M5.grow e
    refine callsV_of C_ok (args := [_]) (plans := []) Tryz.func74 rfl Tryz.ntmps74 (by kernel_rfl) (Nat.le_of_ble_eq_true rfl) ?_
    refine ⟨_, M.cell 4 rfl rfl, ?_⟩
    refine (Go.Proofs.YtdpdjcopkehdjaaGreat.Check_spec (hf.ext M.ext) hl).mono ?_
    rintro v w6 ⟨rfl, e6⟩
    exact ⟨rfl, e6⟩
  · exact hR w' g5 (M5.grow e).ext ((M5.grow e).get 3 rfl)
  · have M := M5.grow e
    refine callsV_of C_ok (args := [_]) (plans := []) Tryz.func77 rfl Tryz.ntmps77 (by kernel_rfl) (Nat.le_of_ble_eq_true rfl) ?_
    refine ⟨s.cells, rfl, M.rd 2 rfl, ?_⟩
    exact (CheckScene_spec s w').mono fun v w'' h => h
  · have M := M5.grow e
    refine callsV_of C_ok (args := [_]) (plans := []) Tryz.func79 rfl Tryz.ntmps79 (by kernel_rfl) (Nat.le_of_ble_eq_true rfl) ?_
    refine ⟨_, M.cell 1 rfl rfl, ?_⟩
    exact (CheckGuests_spec (hr.ext M.ext)).mono fun v w'' h => h
  · rintro v w6 ⟨rfl, e6⟩
    exact ⟨rfl, M5.ext.trans e6⟩
theorem underRp : Tryz.prog.underlying 104 = some (.pointer (Tryz.prog.pointee 104)) := by kernel_rfl
theorem eqNilR (x y : Operand) (p : Option Addr) : EqIs C.P .eql 104 x y (.pointer p) (.pointer none) p.isNone := by
  intro w
  have hu : C.P.underlying 104 = some (.pointer (C.P.pointee 104)) := underRp
  have h1 : (eqGuard .eql 104 x y (.pointer p) (.pointer none)).run C.P w = .ok () w := by simp [eqGuard]
  rw [Sem.run_bind, h1]
  simp only [Result.andThen_ok]
  exact run_eql_pointer_nil _ _ _ hu
/-- No rules: nothing is wrong with them. -/
theorem noRules {w : World} {g5 : Nat} (h : w.heap[g5]? = some (.cells #[.pointer none] 104 (0, 0))) : CallsV C.P 75 (#[] ++ ([] : List Value).toArray ++ #[.pointer (some ⟨g5, 0, none⟩)]) w fun v w' => v = .int .i64 0 ∧ Ext w w' := by
  refine callsV_of C_ok (args := [_]) (plans := []) Tryz.func75 rfl Tryz.ntmps75 (by kernel_rfl) (Nat.le_of_ble_eq_true rfl) ?_
  refine ⟨_, cell_of_block (i := 0) h rfl, ?_⟩
  refine ⟨_, eqNilR _ _ _, ?_⟩
  exact ⟨rfl, Ext.refl _⟩
theorem check0_spec {w : World} {A B : Option Addr} {f : List Fact} {c d : Nat} {gs : List (Int × Int)} (hf : HF w A f c) (hl : f.length ≤ 2 ^ 20) (s : Scn) (hr : Reads w B (prCells gs)) :
    CallsV C.P 39 #[.slice A f.length c, .pointer none, s.val, .slice B gs.length d] w fun v w' => v = .int .i64 (chkR f 0 s gs) ∧ Ext w w' :=
  check_spec hf hl s hr fun _ _ _ h => noRules h
theorem common_spec {w : World} {A B : Option Addr} {f : List Fact} {c d : Nat} {gs : List (Int × Int)} (hf : HF w A f c) (hl : f.length ≤ 2 ^ 20) (s : Scn) (hr : Reads w B (prCells gs)) :
    CallsV C.P 43 #[.slice A f.length c, s.val, .slice B gs.length d] w fun v w' => v = .int .i64 (chkR f 0 s gs) ∧ Ext w w' := by
  refine callsV_of C_ok (args := [_, _, _]) (plans := []) Tryz.func43 rfl Tryz.ntmps43 (by kernel_rfl) (Nat.le_of_ble_eq_true rfl) ?_
  intro g4 w1 h1
  have M1 : Mem w w1 [(g4, .cells s.cells.toArray 24 (0, 0))] := (Mem.start w).alloc h1
  have hX : chkR f 0 s gs = if (chkF f).2 ≠ 0 then (chkF f).2 else if schk s ≠ 0 then schk s else gchk gs := by
    unfold chkR firstE
    rw [if_neg (show ¬ (0 : Int) ≠ 0 from fun h => h rfl)]
  refine (Go.Proofs.YtdpdjcopkehdjaaGreat.refCheck_spec (hf.ext M1.ext) hl).mono ?_
  rintro v w2 ⟨rfl, e2⟩
  have M2 := M1.grow e2
  refine brE_ndec (fun b => ?_) (fun b => ?_)
  · have b : (chkF f).2 ≠ 0 := b
    exact ⟨congrArg _ (by rw [hX, if_pos b]), M2.ext⟩
  have b : (chkF f).2 = 0 := b
  refine ⟨s.cells, rfl, M2.rd 0 rfl, ?_⟩
  refine (refScene_spec s w2).mono ?_
  rintro v w3 ⟨rfl, e3⟩
  have M3 := M2.grow e3
  refine brE_ndec (fun b2 => ?_) (fun b2 => ?_)
  · have b2 : schk s ≠ 0 := b2
    exact ⟨congrArg _ (by rw [hX, if_neg (fun h => h b), if_pos b2]), M3.ext⟩
  have b2 : schk s = 0 := b2
  refine (refGuests_spec (hr.ext M3.ext)).mono ?_
  rintro v w4 ⟨rfl, e4⟩
  exact ⟨congrArg _ (by rw [hX, if_neg (fun h => h b), if_neg (fun h => h b2)]), M3.ext.trans e4⟩
def profsOf (f : List Fact) (s : Scn) (gs : List (Int × Int)) : List Prof := gs.map (profOf f s)
theorem prRd {w : World} {B : Option Addr} {gs : List (Int × Int)} (h : Reads w B (prCells gs)) {i : Nat} (hi : i < gs.length) : ∃ b o, B = some ⟨b, o, none⟩ ∧ Rd w b (o + i * 2) (guestCells gs[i]) :=
  Reads.elem (enc := fun p : Int × Int => guestCells p) (k := 2) (fun _ => rfl) (by omega) h hi
set_option maxRecDepth 100000 in
theorem profiles_spec {w : World} {A B : Option Addr} {f : List Fact} {c d : Nat} {gs : List (Int × Int)} (hf : HF w A f c) (hl : f.length ≤ 2 ^ 20) (s : Scn) (hr : Reads w B (prCells gs)) (hg : ∀ g ∈ gs, In64 g.1) (hgl : gs.length ≤ 2 ^ 20) :
    CallsV C.P 40 #[.slice A f.length c, s.val, .slice B gs.length d] w fun v w' => NewL Prof.cells 38 7 w.heap.size w' v (profsOf f s gs) ∧ Ext w w' := by
  refine callsV_of C_ok (args := [_, _, _]) (plans := []) Tryz.func40 rfl Tryz.ntmps40 (by kernel_rfl) (Nat.le_of_ble_eq_true rfl) ?_
  intro g4 w1 h1
  have M1 : Mem w w1 [(g4, .cells s.cells.toArray 24 (0, 0))] := (Mem.start w).alloc h1
  refine loopE C_ok (fun (p : Nat × Value) => [(0, .slice A f.length c), (4, .pointer (some ⟨g4, 0, none⟩)), (7, p.2), (10, .slice B gs.length d), (11, .int .i64 gs.length), (12, .int .i64 (p.1 : Nat))])
    (fun p w' => p.1 ≤ gs.length ∧ NewL Prof.cells 38 7 w1.heap.size w' p.2 (profsOf f s (gs.take p.1)) ∧ Ext w1 w') (fun p => gs.length - p.1) (0, .slice none 0 0) ⟨rfl, rfl, rfl, rfl, rfl, rfl, trivial⟩
    ⟨Nat.zero_le _, newL_nil, Ext.refl _⟩ ?_
  rintro ⟨i, v⟩ w2 ⟨hi', ho', e2⟩
  have hi : i ≤ gs.length := hi'
  have ho : NewL Prof.cells 38 7 w1.heap.size w2 v (profsOf f s (gs.take i)) := ho'
  clear hi' ho'
  have hlen : (profsOf f s (gs.take i)).length ≤ i := by unfold profsOf; rw [List.length_map, List.length_take]; omega
  refine brE_dec (fun hlt => ?_) (fun hge => ?_)
  · have hlti : i < gs.length := by have : (i : Int) < (gs.length : Nat) := hlt; omega
    have next : IntKind.i64.wrap ((i : Int) + 1) = ((i + 1 : Nat) : Int) := fit ⟨by omega, by omega⟩
    obtain ⟨g, hge⟩ : ∃ g, g = gs[i] := ⟨_, rfl⟩
    have hs : profsOf f s (gs.take (i + 1)) = profsOf f s (gs.take i) ++ [profOf f s g] := by unfold profsOf; rw [List.take_succ_eq_append_getElem hlti, List.map_append, ← hge]; rfl
    have hg1 : In64 g.1 := by rw [hge]; exact hg _ (List.getElem_mem hlti)
    have M2 := M1.grow e2
    obtain ⟨b, o, hB, hc⟩ := prRd (hr.ext M2.ext) hlti
    rw [← hge] at hc
    refine ⟨i, b, o, rfl, hlti, hB, ?_⟩
    refine ⟨guestCells g, rfl, hc, ?_⟩
    intro g9 w3 h3
    refine ⟨rfl, _, _, h3.here, Nat.le_of_ble_eq_true rfl, rfl, ?_⟩
    intro w4 h4
    have e24 : Ext w2 w4 := h4.ext_of h3.ext (by rw [h3.new]; exact Nat.le_refl _)
    have M4 := M2.grow e24
    have h4 : Put w3 g9 (.cells (guestCells g).toArray 44 (0, 0)) w4 := h4
    refine ⟨s.cells, rfl, M4.rd 0 rfl, ?_⟩
    refine ⟨guestCells g, rfl, Rd.of_block h4.here, ?_⟩
    refine (profile_spec (hf.ext M4.ext) hl s hg1).mono ?_
    rintro v' w5 ⟨rfl, e5⟩
    intro g6 w6 h6
    have e26 := (e24.trans e5).trans h6.ext
    have ho6 := ho.ext e26
    refine ⟨rfl, rfl, rfl, w1.heap.size, _, _, (profOf f s g).cells, ho6, (e2.trans e26).size, Nat.le_of_ble_eq_true rfl, rfl, rfl, .inr ⟨g6, 0, rfl, Rd.of_block h6.here⟩, rfl, rfl, by omega, by simp only [maxLen]; omega, ?_⟩
    intro v7 w7 ho7 hg7 hpl
    refine ⟨_, next, ?_⟩
    refine ⟨(i + 1, v7), ⟨rfl, rfl, rfl, rfl, rfl, rfl, trivial⟩, ⟨hlti, ?_, app_ext (e2.trans e26) ho6 hg7⟩, by show gs.length - (i + 1) < gs.length - i; omega⟩
    show NewL _ _ _ _ _ _ (profsOf f s (gs.take (i + 1)))
    rw [hs]
    unfold NewL
    rw [List.length_append, List.flatMap_append]
    simpa using ho7
  · have hie : i = gs.length := by have : ¬ (i : Int) < (gs.length : Nat) := hge; omega
    rw [hie, List.take_length] at ho
    exact ⟨ho.base M1.ext.size, M1.ext.trans e2⟩
/-- What Profiles returns. -/
def profsR (f : List Fact) (s : Scn) (gs : List (Int × Int)) : List Prof := if chkR f 0 s gs = 0 then profsOf f s gs else []
theorem gchk_len {gs : List (Int × Int)} (h : gchk gs = 0) : gs.length ≤ 24 := by
  unfold gchk at h
  split at h
  · cases h
  · omega
theorem chkR_zero {f : List Fact} {re : Int} {s : Scn} {gs : List (Int × Int)} (h : chkR f re s gs = 0) : (chkF f).2 = 0 ∧ re = 0 ∧ schk s = 0 ∧ gchk gs = 0 := by
  unfold chkR firstE at h
  by_cases h0 : (chkF f).2 = 0
  · rw [if_neg (fun e => e h0)] at h
    by_cases h1 : re = 0
    · rw [if_neg (fun e => e h1)] at h
      by_cases h2 : schk s = 0
      · rw [if_neg (fun e => e h2)] at h
        exact ⟨h0, h1, h2, h⟩
      · rw [if_pos h2] at h; exact absurd h h2
    · rw [if_pos h1] at h; exact absurd h h1
  · rw [if_pos h0] at h; exact absurd h h0
set_option maxRecDepth 100000 in
theorem Profiles_spec {w : World} {A B : Option Addr} {f : List Fact} {c d : Nat} {gs : List (Int × Int)} (hf : HF w A f c) (hl : f.length ≤ 2 ^ 20) (s : Scn) (hr : Reads w B (prCells gs)) (hg : ∀ g ∈ gs, In64 g.1) :
    CallsV C.P 12 #[.slice A f.length c, s.val, .slice B gs.length d] w fun v w' => (∃ v', v = .tuple #[v', .int .i64 (chkR f 0 s gs)] ∧ NewL Prof.cells 38 7 w.heap.size w' v' (profsR f s gs)) ∧ Ext w w' := by
  refine callsV_of C_ok (args := [_, _, _]) (plans := []) Tryz.func12 rfl Tryz.ntmps12 (by kernel_rfl) (Nat.le_of_ble_eq_true rfl) ?_
  intro g4 w1 h1
  have M1 : Mem w w1 [(g4, .cells s.cells.toArray 24 (0, 0))] := (Mem.start w).alloc h1
  refine ⟨s.cells, rfl, M1.rd 0 rfl, ?_⟩
  refine (check0_spec (hf.ext M1.ext) hl s (hr.ext M1.ext)).mono ?_
  rintro v w2 ⟨rfl, e2⟩
  have M2 := M1.grow e2
  refine brE_ndec (fun b => ?_) (fun b => ?_)
  · have b : chkR f 0 s gs ≠ 0 := b
    refine ⟨⟨_, rfl, ?_⟩, M2.ext⟩
    have : profsR f s gs = [] := if_neg b
    rw [this]; exact newL_nil
  have b : chkR f 0 s gs = 0 := b
  have hgl := gchk_len (chkR_zero b).2.2.2
  refine ⟨s.cells, rfl, M2.rd 0 rfl, ?_⟩
  refine (profiles_spec (hf.ext M2.ext) hl s (hr.ext M2.ext) hg (by omega)).mono ?_
  rintro v w3 ⟨hv, e3⟩
  refine ⟨⟨_, by rw [b], ?_⟩, M2.ext.trans e3⟩
  have : profsR f s gs = profsOf f s gs := if_pos b
  rw [this]; exact hv.base M2.ext.size
set_option maxRecDepth 100000 in
theorem Of_spec {w : World} {A : Option Addr} {f : List Fact} {c : Nat} (hf : HF w A f c) (hl : f.length ≤ 2 ^ 20) (s : Scn) {g : Int × Int} (hg : In64 g.1) :
    CallsV C.P 16 #[.slice A f.length c, s.val, prVal g] w fun v w' => v = .tuple #[(if chkR f 0 s [g] = 0 then profOf f s g else profZ).val, .int .i64 (chkR f 0 s [g])] ∧ Ext w w' := by
  refine callsV_of C_ok (args := [_, _, _]) (plans := []) Tryz.func16 rfl Tryz.ntmps16 (by kernel_rfl) (Nat.le_of_ble_eq_true rfl) ?_
  intro g4 w1 h1
  have M1 : Mem w w1 [(g4, .cells s.cells.toArray 24 (0, 0))] := (Mem.start w).alloc h1
  intro g5 w2 h2
  have M2 : Mem w w2 [(g5, .cells (guestCells g).toArray 44 (0, 0)), (g4, .cells s.cells.toArray 24 (0, 0))] := M1.alloc h2
  intro g6 w3 h3
  have M3 : Mem w w3 [(g6, .cells profZ.cells.toArray 38 (0, 0)), (g5, .cells (guestCells g).toArray 44 (0, 0)), (g4, .cells s.cells.toArray 24 (0, 0))] := M2.alloc h3
  refine ⟨s.cells, rfl, M3.rd 2 rfl, ?_⟩
  refine ⟨guestCells g, rfl, M3.rd 1 rfl, ?_⟩
  intro g12 w4 h4
  have M4 := M3.grow h4.ext
  have hr : Reads w4 (some ⟨g12, 0, none⟩) (prCells [g]) := .inr ⟨g12, 0, rfl, Rd.of_block h4.here⟩
  refine (check0_spec (d := 1) (hf.ext M4.ext) hl s hr).mono ?_
  rintro v w5 ⟨rfl, e5⟩
  have M5 := M4.grow e5
  refine brE_ndec (fun b => ?_) (fun b => ?_)
  · have b : chkR f 0 s [g] ≠ 0 := b
    refine ⟨rfl, _, _, M5.get 0 rfl, Nat.le_of_ble_eq_true rfl, rfl, ?_⟩
    intro w6 h6
    have M6 : Mem w w6 [(g6, .cells profZ.cells.toArray 38 (0, 0)), (g5, .cells (guestCells g).toArray 44 (0, 0)), (g4, .cells s.cells.toArray 24 (0, 0))] := M5.put 0 rfl h6
    refine ⟨profZ.cells, rfl, M6.rd 0 rfl, ?_⟩
    exact ⟨by rw [if_neg b]; rfl, M6.ext⟩
  have b : chkR f 0 s [g] = 0 := b
  refine ⟨s.cells, rfl, M5.rd 2 rfl, ?_⟩
  refine ⟨guestCells g, rfl, M5.rd 1 rfl, ?_⟩
  refine (profile_spec (hf.ext M5.ext) hl s hg).mono ?_
  rintro v w6 ⟨rfl, e6⟩
  have M6 := M5.grow e6
  refine ⟨rfl, _, _, M6.get 0 rfl, Nat.le_of_ble_eq_true rfl, rfl, ?_⟩
  intro w7 h7
  have M7 := M6.put 0 rfl h7
  refine ⟨(profOf f s g).cells, rfl, M7.rd 0 rfl, ?_⟩
  exact ⟨by rw [if_pos b, b]; rfl, M7.ext⟩
end Go.Proofs.YtdpdjcopkehdjaaGreat.Rk
namespace Go.Proofs.YtdpdjcopkehdjaaGreat.Rk
open Go.Eng Go.RowKit
set_option maxRecDepth 100000 in
theorem refProfiles_spec {w : World} {A B : Option Addr} {f : List Fact} {c d : Nat} {gs : List (Int × Int)} (hf : HF w A f c) (hl : f.length ≤ 2 ^ 20) (s : Scn) (hr : Reads w B (prCells gs)) (hg : ∀ g ∈ gs, In64 g.1) :
    CallsV C.P 14 #[.slice A f.length c, s.val, .slice B gs.length d] w fun v w' => (∃ v', v = .tuple #[v', .int .i64 (chkR f 0 s gs)] ∧ NewL Prof.cells 38 7 w.heap.size w' v' (profsR f s gs)) ∧ Ext w w' := by
  refine callsV_of C_ok (args := [_, _, _]) (plans := plans14) Tryz.func14 rfl Tryz.ntmps14 (by kernel_rfl) (Nat.le_of_ble_eq_true rfl) ?_
  intro g4 w1 h1
  have M1 : Mem w w1 [(g4, .cells s.cells.toArray 24 (0, 0))] := (Mem.start w).alloc h1
  refine ⟨s.cells, rfl, M1.rd 0 rfl, ?_⟩
  refine (common_spec (hf.ext M1.ext) hl s (hr.ext M1.ext)).mono ?_
  rintro v w2 ⟨rfl, e2⟩
  have M2 := M1.grow e2
  refine brE_ndec (fun b => ?_) (fun b => ?_)
  · have b : chkR f 0 s gs ≠ 0 := b
    refine ⟨⟨_, rfl, ?_⟩, M2.ext⟩
    have : profsR f s gs = [] := if_neg b
    rw [this]; exact newL_nil
  have b : chkR f 0 s gs = 0 := b
  have hgl := gchk_len (chkR_zero b).2.2.2
  refine loopE C_ok (fun (p : Nat × Value) => [(0, .slice A f.length c), (2, .slice B gs.length d), (4, .pointer (some ⟨g4, 0, none⟩)), (9, p.2), (10, .int .i64 (p.1 : Nat))])
    (fun p w' => p.1 ≤ gs.length ∧ NewL Prof.cells 38 7 w2.heap.size w' p.2 (profsOf f s (gs.take p.1)) ∧ Ext w2 w') (fun p => gs.length - p.1) (0, .slice none 0 0) ⟨rfl, rfl, rfl, rfl, rfl, trivial⟩
    ⟨Nat.zero_le _, newL_nil, Ext.refl _⟩ ?_
  rintro ⟨i, v⟩ w3 ⟨hi', ho', e3⟩
  have hi : i ≤ gs.length := hi'
  have ho : NewL Prof.cells 38 7 w2.heap.size w3 v (profsOf f s (gs.take i)) := ho'
  clear hi' ho'
  have hlen : (profsOf f s (gs.take i)).length ≤ i := by unfold profsOf; rw [List.length_map, List.length_take]; omega
  refine brE_dec (fun hlt => ?_) (fun hge => ?_)
  · have hlti : i < gs.length := by have : (i : Int) < (gs.length : Nat) := hlt; omega
    have next : IntKind.i64.wrap ((i : Int) + 1) = ((i + 1 : Nat) : Int) := fit ⟨by omega, by omega⟩
    obtain ⟨g, hge⟩ : ∃ g, g = gs[i] := ⟨_, rfl⟩
    have hs : profsOf f s (gs.take (i + 1)) = profsOf f s (gs.take i) ++ [profOf f s g] := by unfold profsOf; rw [List.take_succ_eq_append_getElem hlti, List.map_append, ← hge]; rfl
    have hg1 : In64 g.1 := by rw [hge]; exact hg _ (List.getElem_mem hlti)
    have M3 := M2.grow e3
    obtain ⟨b, o, hB, hc⟩ := prRd (hr.ext M3.ext) hlti
    rw [← hge] at hc
    refine ⟨s.cells, rfl, M3.rd 0 rfl, ?_⟩
    refine ⟨i, b, o, rfl, hlti, hB, ?_⟩
    refine ⟨guestCells g, rfl, hc, ?_⟩
    refine (refProfile_spec (hf.ext M3.ext) hl s hg1).mono ?_
    rintro v' w5 ⟨rfl, e5⟩
    intro g6 w6 h6
    have e26 := e5.trans h6.ext
    have ho6 := ho.ext e26
    refine ⟨rfl, rfl, rfl, w2.heap.size, _, _, (profOf f s g).cells, ho6, (e3.trans e26).size, Nat.le_of_ble_eq_true rfl, rfl, rfl, .inr ⟨g6, 0, rfl, Rd.of_block h6.here⟩, rfl, rfl, by omega, by simp only [maxLen]; omega, ?_⟩
    intro v7 w7 ho7 hg7 hpl
    refine ⟨_, next, ?_⟩
    refine ⟨(i + 1, v7), ⟨rfl, rfl, rfl, rfl, rfl, trivial⟩, ⟨hlti, ?_, app_ext (e3.trans e26) ho6 hg7⟩, by show gs.length - (i + 1) < gs.length - i; omega⟩
    show NewL _ _ _ _ _ _ (profsOf f s (gs.take (i + 1)))
    rw [hs]
    unfold NewL
    rw [List.length_append, List.flatMap_append]
    simpa using ho7
  · have hie : i = gs.length := by have : ¬ (i : Int) < (gs.length : Nat) := hge; omega
    rw [hie, List.take_length] at ho
    refine ⟨⟨_, by rw [b], ?_⟩, M2.ext.trans e3⟩
    have : profsR f s gs = profsOf f s gs := if_pos b
    rw [this]; exact ho.base M2.ext.size
set_option maxRecDepth 100000 in
theorem refOf_spec {w : World} {A : Option Addr} {f : List Fact} {c : Nat} (hf : HF w A f c) (hl : f.length ≤ 2 ^ 20) (s : Scn) {g : Int × Int} (hg : In64 g.1) :
    CallsV C.P 17 #[.slice A f.length c, s.val, prVal g] w fun v w' => v = .tuple #[(if chkR f 0 s [g] = 0 then profOf f s g else profZ).val, .int .i64 (chkR f 0 s [g])] ∧ Ext w w' := by
  refine callsV_of C_ok (args := [_, _, _]) (plans := []) Tryz.func17 rfl Tryz.ntmps17 (by kernel_rfl) (Nat.le_of_ble_eq_true rfl) ?_
  intro g4 w1 h1
  have M1 : Mem w w1 [(g4, .cells s.cells.toArray 24 (0, 0))] := (Mem.start w).alloc h1
  intro g5 w2 h2
  have M2 : Mem w w2 [(g5, .cells (guestCells g).toArray 44 (0, 0)), (g4, .cells s.cells.toArray 24 (0, 0))] := M1.alloc h2
  intro g6 w3 h3
  have M3 : Mem w w3 [(g6, .cells profZ.cells.toArray 38 (0, 0)), (g5, .cells (guestCells g).toArray 44 (0, 0)), (g4, .cells s.cells.toArray 24 (0, 0))] := M2.alloc h3
  refine ⟨s.cells, rfl, M3.rd 2 rfl, ?_⟩
  refine ⟨guestCells g, rfl, M3.rd 1 rfl, ?_⟩
  intro g12 w4 h4
  have M4 := M3.grow h4.ext
  have hr : Reads w4 (some ⟨g12, 0, none⟩) (prCells [g]) := .inr ⟨g12, 0, rfl, Rd.of_block h4.here⟩
  refine (common_spec (d := 1) (hf.ext M4.ext) hl s hr).mono ?_
  rintro v w5 ⟨rfl, e5⟩
  have M5 := M4.grow e5
  refine brE_ndec (fun b => ?_) (fun b => ?_)
  · have b : chkR f 0 s [g] ≠ 0 := b
    refine ⟨rfl, _, _, M5.get 0 rfl, Nat.le_of_ble_eq_true rfl, rfl, ?_⟩
    intro w6 h6
    have M6 : Mem w w6 [(g6, .cells profZ.cells.toArray 38 (0, 0)), (g5, .cells (guestCells g).toArray 44 (0, 0)), (g4, .cells s.cells.toArray 24 (0, 0))] := M5.put 0 rfl h6
    refine ⟨profZ.cells, rfl, M6.rd 0 rfl, ?_⟩
    exact ⟨by rw [if_neg b]; rfl, M6.ext⟩
  have b : chkR f 0 s [g] = 0 := b
  refine ⟨s.cells, rfl, M5.rd 2 rfl, ?_⟩
  refine ⟨guestCells g, rfl, M5.rd 1 rfl, ?_⟩
  refine (refProfile_spec (hf.ext M5.ext) hl s hg).mono ?_
  rintro v w6 ⟨rfl, e6⟩
  have M6 := M5.grow e6
  refine ⟨rfl, _, _, M6.get 0 rfl, Nat.le_of_ble_eq_true rfl, rfl, ?_⟩
  intro w7 h7
  have M7 := M6.put 0 rfl h7
  refine ⟨(profOf f s g).cells, rfl, M7.rd 0 rfl, ?_⟩
  exact ⟨by rw [if_pos b, b]; rfl, M7.ext⟩
theorem SameProfiles_spec {w : World} {A B : Option Addr} {xs ys : List Prof} {c d : Nat} (hx : HL Prof.cells w A xs c) (hy : HL Prof.cells w B ys d) :
    CallsV C.P 15 #[.slice A xs.length c, .slice B ys.length d] w fun v w' => v = .bool (decide (xs = ys)) ∧ w' = w := by
  have hl := hx.cap
  refine callsV_of C_ok (args := [_, _]) (plans := plans15) Tryz.func15 rfl Tryz.ntmps15 (by kernel_rfl) (Nat.le_of_ble_eq_true rfl) ?_
  refine brE_mk (fun hb => ?_) (fun hb => ?_)
  · have hb : ¬ (xs.length : Int) = (ys.length : Int) := by simpa using hb
    have hne : xs ≠ ys := fun e => hb (by rw [e])
    exact ⟨by rw [decide_eq_false hne], rfl⟩
  · have hb : (xs.length : Int) = (ys.length : Int) := by simpa using hb
    have hlen : xs.length = ys.length := by omega
    refine loopE C_ok (fun (i : Nat) => [(0, .slice A xs.length c), (1, .slice B ys.length d), (5, .int .i64 i)])
      (fun i w' => w' = w ∧ i ≤ xs.length ∧ xs.take i = ys.take i) (fun i => xs.length - i) 0 ⟨rfl, rfl, rfl, trivial⟩ ⟨rfl, Nat.zero_le _, rfl⟩ ?_
    rintro i w1 ⟨rfl, hi, ht⟩
    refine brE_dec (fun hlt => ?_) (fun hge => ?_)
    · have hlt : i < xs.length := by have : (i : Int) < (xs.length : Nat) := hlt; omega
      have hlt2 : i < ys.length := by omega
      obtain ⟨b1, o1, hA, hc1⟩ := hx.at (k := 7) (fun _ => rfl) (by omega) hlt
      obtain ⟨b2, o2, hB, hc2⟩ := hy.at (k := 7) (fun _ => rfl) (by omega) hlt2
      refine ⟨i, b1, o1, rfl, hlt, hA, ?_⟩
      refine ⟨xs[i].cells, rfl, hc1, ?_⟩
      refine ⟨i, b2, o2, rfl, hlt2, hB, ?_⟩
      refine ⟨ys[i].cells, rfl, hc2, ?_⟩
      refine ⟨_, neqPf _ _ _ _, ?_⟩
      refine brE_ndec (fun hn => ?_) (fun hn => ?_)
      · have hne : xs ≠ ys := fun e => hn (by subst e; rfl)
        exact ⟨by rw [decide_eq_false hne], rfl⟩
      · refine ⟨((i + 1 : Nat) : Int), fit ⟨by omega, by omega⟩, ?_⟩
        exact ⟨i + 1, ⟨rfl, rfl, rfl, trivial⟩, ⟨rfl, hlt, by rw [List.take_succ_eq_append_getElem hlt, List.take_succ_eq_append_getElem hlt2, ht, hn]⟩, by omega⟩
    · have : i = xs.length := by have : ¬ (i : Int) < (xs.length : Nat) := hge; omega
      subst this
      have e : xs = ys := by rw [List.take_length, hlen, List.take_length] at ht; exact ht
      exact ⟨by rw [decide_eq_true e], rfl⟩
/-- What is few. -/
def fewR (f : List Fact) (n m : Nat) : Prop := f.length ≤ 60 ∧ n ≤ 30 ∧ m ≤ 30
theorem fewR_spec {w : World} {A R B : Option Addr} {f : List Fact} {c n nc m d : Nat} (hf : HF w A f c) :
    CallsV C.P 10 #[.slice A f.length c, .agg #[.slice R n nc], .slice B m d] w fun v w' => (∃ b, v = .bool b ∧ (b = true → fewR f n m)) ∧ Ext w w' := by
  have hcap := hf.cap
  refine callsV_of C_ok (args := [_, _, _]) (plans := []) Tryz.func10 rfl Tryz.ntmps10 (by kernel_rfl) (Nat.le_of_ble_eq_true rfl) ?_
  intro g4 w1 h1
  refine brE_dec (fun c1 => ?_) (fun c1 => ?_)
  · exact ⟨⟨false, rfl, fun h => by cases h⟩, h1.ext⟩
  have c1 : ¬ ((f.length : Nat) : Int) > 60 := c1
  refine ⟨_, cell_of_block (i := 0) h1.here rfl, ?_⟩
  refine brE_dec (fun c2 => ?_) (fun c2 => ?_)
  · exact ⟨⟨false, rfl, fun h => by cases h⟩, h1.ext⟩
  have c2 : ¬ ((n : Nat) : Int) > 30 := c2
  refine brE_dec (fun c3 => ?_) (fun c3 => ?_)
  · exact ⟨⟨false, rfl, fun h => by cases h⟩, h1.ext⟩
  have c3 : ¬ ((m : Nat) : Int) > 30 := c3
  refine loopE C_ok (fun (i : Nat) => [(0, .slice A f.length c), (7, .int .i64 (i : Nat))]) (fun i w' => i ≤ f.length ∧ w' = w1) (fun i => f.length - i) 0 ⟨rfl, rfl, trivial⟩ ⟨Nat.zero_le _, rfl⟩ ?_
  rintro i w2 ⟨hi, rfl⟩
  refine brE_dec (fun hlt => ?_) (fun hge => ?_)
  · have hlt : i < f.length := by have : (i : Int) < (f.length : Nat) := hlt; omega
    obtain ⟨b, o, hA, hc⟩ := Reads.fact (hf.ext h1.ext).reads hlt
    refine ⟨i, b, o, rfl, hlt, hA, ?_⟩
    refine ⟨_, hc 8 _ rfl, ?_⟩
    refine brE_dec (fun c3 => ?_) (fun c3 => ?_)
    · exact ⟨⟨false, rfl, fun h => by cases h⟩, h1.ext⟩
    refine ⟨((i + 1 : Nat) : Int), fit ⟨by omega, by omega⟩, ?_⟩
    exact ⟨i + 1, ⟨rfl, rfl, trivial⟩, ⟨hlt, rfl⟩, by show f.length - (i + 1) < f.length - i; omega⟩
  · exact ⟨⟨true, rfl, fun _ => ⟨by omega, by omega, by omega⟩⟩, h1.ext⟩
end Go.Proofs.YtdpdjcopkehdjaaGreat.Rk
namespace Go.Proofs.YtdpdjcopkehdjaaGreat.Rk
open Go.Eng Go.RowKit
theorem neqPf_self (x y : Operand) (p : Prof) : EqIs C.P .neq 38 x y p.val p.val false := by
  have h := neqPf x y p p
  rwa [decide_eq_true rfl] at h
set_option maxRecDepth 100000 in
set_option maxHeartbeats 4000000 in
theorem RankProfiles_spec {w : World} {A B : Option Addr} {f : List Fact} {c d : Nat} {gs : List (Int × Int)} (hf : HF w A f c) (s : Scn) (hr : Reads w B (prCells gs)) (hg : ∀ g ∈ gs, In64 g.1) :
    CallsV C.P 4 #[.slice A f.length c, s.val, .slice B gs.length d] w fun v w' => v = .bool true ∧ Ext w w' := by
  have stop : ∀ {w' : World}, Ext w w' → CallsV C.P 11 #[] w' fun v w'' => v = .bool true ∧ Ext w w'' := fun e => (stands_spec _).mono fun v w'' hh => ⟨hh.1, e.trans hh.2⟩
  refine callsV_of C_ok (args := [_, _, _]) (plans := plans4) Tryz.func4 rfl Tryz.ntmps4 (by kernel_rfl) (Nat.le_of_ble_eq_true rfl) ?_
  intro g4 w1 h1
  have M1 : Mem w w1 [(g4, .cells s.cells.toArray 24 (0, 0))] := (Mem.start w).alloc h1
  refine (fewR_spec (hf.ext M1.ext)).mono ?_
  rintro v w2 ⟨⟨b, rfl, hb⟩, e2⟩
  have M2 := M1.grow e2
  refine brE_mk (fun b0 => ?_) (fun b0 => ?_)
  · refine (stop M2.ext).mono ?_
    rintro v w3 ⟨rfl, e⟩
    exact ⟨rfl, e⟩
  have hfew := hb (by simpa using b0)
  clear hb b0
  have hl : f.length ≤ 2 ^ 20 := by have := hfew.1; omega
  have hgl := hfew.2.2
  refine ⟨s.cells, rfl, M2.rd 0 rfl, ?_⟩
  refine (Profiles_spec (hf.ext M2.ext) hl s (hr.ext M2.ext) hg).mono ?_
  rintro v w3 ⟨⟨v1, rfl, hv1⟩, e3⟩
  have M3 := M2.grow e3
  refine ⟨s.cells, rfl, M3.rd 0 rfl, ?_⟩
  refine (refProfiles_spec (hf.ext M3.ext) hl s (hr.ext M3.ext) hg).mono ?_
  rintro v w4 ⟨⟨v2, rfl, hv2⟩, e4⟩
  have M4 := M3.grow e4
  obtain ⟨A1, c1, rfl, hL1⟩ := (hv1.ext e4).hl
  obtain ⟨A2, c2, rfl, hL2⟩ := hv2.hl
  refine brE_ndec (fun h => absurd rfl h) (fun _ => ?_)
  refine (SameProfiles_spec hL1 hL2).mono ?_
  rintro v w5 ⟨hv5, rfl⟩
  have hv5 : v = .bool true := by rw [hv5]; simp
  subst hv5
  refine loopE C_ok (fun (i : Nat) => [(0, .slice A f.length c), (2, .slice B gs.length d), (4, .pointer (some ⟨g4, 0, none⟩)), (11, .int .i64 (i : Nat))])
    (fun i w' => i ≤ gs.length ∧ Mem w w' [(g4, .cells s.cells.toArray 24 (0, 0))]) (fun i => gs.length - i) 0 ⟨rfl, rfl, rfl, rfl, trivial⟩ ⟨Nat.zero_le _, M4⟩ ?_
  rintro i w6 ⟨hi, M⟩
  refine brE_dec (fun hlt => ?_) (fun hge => ?_)
  · have hlti : i < gs.length := by have : (i : Int) < (gs.length : Nat) := hlt; omega
    have next : IntKind.i64.wrap ((i : Int) + 1) = ((i + 1 : Nat) : Int) := fit ⟨by omega, by omega⟩
    obtain ⟨g, hge⟩ : ∃ g, g = gs[i] := ⟨_, rfl⟩
    have hg1 : In64 g.1 := by rw [hge]; exact hg _ (List.getElem_mem hlti)
    obtain ⟨bb, o, hB, hc⟩ := prRd hr hlti
    rw [← hge] at hc
    obtain ⟨x, hx⟩ : ∃ x, x = if chkR f 0 s [g] = 0 then profOf f s g else profZ := ⟨_, rfl⟩
    obtain ⟨k, hk⟩ : ∃ k, k = chkR f 0 s [g] := ⟨_, rfl⟩
    have X := fun w' (e : Ext w w') => Of_spec (hf.ext e) hl s hg1
    have Y := fun w' (e : Ext w w') => refOf_spec (hf.ext e) hl s hg1
    rw [← hx, ← hk] at X Y
    refine ⟨s.cells, rfl, M.rd 0 rfl, ?_⟩
    refine ⟨i, bb, o, rfl, hlti, hB, ?_⟩
    refine ⟨guestCells g, rfl, hc.ext M.ext, ?_⟩
    refine ⟨?A, ?B⟩
    case' A =>
      refine (X _ M.ext).mono ?_
      rintro v w7 ⟨rfl, e7⟩
      refine ⟨e7, ?_⟩
      intro g12 w8 h8
      refine ⟨h8.ext, ?_⟩
      have M := (M.grow e7).alloc h8
      refine ⟨rfl, _, _, M.get 0 rfl, Nat.le_of_ble_eq_true rfl, rfl, ?_⟩
      intro w9 h9
      have M : Mem w w9 [(g12, .cells x.cells.toArray 38 (0, 0)), (g4, .cells s.cells.toArray 24 (0, 0))] := M.put 0 rfl h9
    case' B =>
      intro g12 w8 h8
      refine ⟨h8.ext, ?_⟩
      refine (X _ (M.ext.trans h8.ext)).mono ?_
      rintro v w7 ⟨rfl, e7⟩
      refine ⟨e7, ?_⟩
      have M := (M.alloc h8).grow e7
      refine ⟨rfl, _, _, M.get 0 rfl, Nat.le_of_ble_eq_true rfl, rfl, ?_⟩
      intro w9 h9
      have M : Mem w w9 [(g12, .cells x.cells.toArray 38 (0, 0)), (g4, .cells s.cells.toArray 24 (0, 0))] := M.put 0 rfl h9
    all_goals
      refine ⟨s.cells, rfl, M.rd 1 rfl, ?_⟩
      refine ⟨i, bb, o, rfl, hlti, hB, ?_⟩
      refine ⟨guestCells g, rfl, hc.ext M.ext, ?_⟩
      refine ⟨?_, ?_⟩
      · refine (Y _ M.ext).mono ?_
        rintro v w10 ⟨rfl, e10⟩
        refine ⟨e10, ?_⟩
        intro g14 w11 h11
        refine ⟨h11.ext, ?_⟩
        have M := (M.grow e10).alloc h11
        refine ⟨rfl, _, _, M.get 0 rfl, Nat.le_of_ble_eq_true rfl, rfl, ?_⟩
        intro w12 h12
        have M : Mem w w12 [(g14, .cells x.cells.toArray 38 (0, 0)), (g12, .cells x.cells.toArray 38 (0, 0)), (g4, .cells s.cells.toArray 24 (0, 0))] := M.put 0 rfl h12
        refine ⟨x.cells, rfl, M.rd 1 rfl, ?_⟩
        refine ⟨x.cells, rfl, M.rd 0 rfl, ?_⟩
        refine ⟨_, neqPf_self _ _ x, ?_⟩
        refine brE_ndec (fun h => absurd rfl h) (fun _ => ?_)
        refine ⟨_, next, ?_⟩
        exact ⟨i + 1, ⟨rfl, rfl, rfl, rfl, trivial⟩, ⟨hlti, M.tail.tail⟩, by show gs.length - (i + 1) < gs.length - i; omega⟩
      · intro g14 w11 h11
        refine ⟨h11.ext, ?_⟩
        refine (Y _ (M.ext.trans h11.ext)).mono ?_
        rintro v w10 ⟨rfl, e10⟩
        refine ⟨e10, ?_⟩
        have M := (M.alloc h11).grow e10
        refine ⟨rfl, _, _, M.get 0 rfl, Nat.le_of_ble_eq_true rfl, rfl, ?_⟩
        intro w12 h12
        have M : Mem w w12 [(g14, .cells x.cells.toArray 38 (0, 0)), (g12, .cells x.cells.toArray 38 (0, 0)), (g4, .cells s.cells.toArray 24 (0, 0))] := M.put 0 rfl h12
        refine ⟨x.cells, rfl, M.rd 1 rfl, ?_⟩
        refine ⟨x.cells, rfl, M.rd 0 rfl, ?_⟩
        refine ⟨_, neqPf_self _ _ x, ?_⟩
        refine brE_ndec (fun h => absurd rfl h) (fun _ => ?_)
        refine ⟨_, next, ?_⟩
        exact ⟨i + 1, ⟨rfl, rfl, rfl, rfl, trivial⟩, ⟨hlti, M.tail.tail⟩, by show gs.length - (i + 1) < gs.length - i; omega⟩
  · refine (stop M.ext).mono ?_
    rintro v w7 ⟨rfl, e⟩
    exact ⟨rfl, e⟩
end Go.Proofs.YtdpdjcopkehdjaaGreat.Rk
namespace Go.Proofs.YtdpdjcopkehdjaaGreat
theorem alphaL_len (a : List Fact) (lang lot : Int) : (alphaL a lang lot).length = (statesL a).length := by
  unfold alphaL
  rw [List.length_map, List.length_range, (orderL_perm a lang).length_eq]
theorem let_in {a : List Fact} {lang lot st : Int} (h : st ∈ orderL a lang) :
    ∃ i : Nat, letterL a lang lot st = ((i : Int), true) ∧ i < (statesL a).length ∧ ∃ (j : Nat) (hj : j < (orderL a lang).length), (orderL a lang)[j] = st ∧ ((i : Int) + lot).emod ((statesL a).length : Nat) = (j : Nat) := by
  have hlen := (orderL_perm a lang).length_eq
  have hal := alphaL_len a lang lot
  obtain ⟨j, hj, hjs⟩ := List.getElem_of_mem h
  have hn : 0 < (statesL a).length := by omega
  have hnz : ((statesL a).length : Int) ≠ 0 := by omega
  obtain ⟨L, hL⟩ : ∃ L : Nat, L = (lot.emod ((statesL a).length : Nat)).toNat := ⟨_, rfl⟩
  have hL0 : 0 ≤ lot.emod ((statesL a).length : Nat) := Int.emod_nonneg _ hnz
  have hL1 : lot.emod ((statesL a).length : Nat) < ((statesL a).length : Nat) := Int.emod_lt_of_pos _ (by omega)
  have hLi : (L : Int) = lot.emod ((statesL a).length : Nat) := by rw [hL]; exact Int.toNat_of_nonneg hL0
  have hLn : L < (statesL a).length := by omega
  have hget : ∀ i (hi : i < (alphaL a lang lot).length), (alphaL a lang lot)[i] = (orderL a lang).getD ((L + i) % (statesL a).length) 0 := by
    intro i hi
    simp only [alphaL, List.getElem_map, List.getElem_range]
    rw [hlen, hL]
  have hmem : st ∈ alphaL a lang lot := by
    obtain ⟨i, hie⟩ : ∃ i, i = (j + ((statesL a).length - L)) % (statesL a).length := ⟨_, rfl⟩
    have hin : i < (alphaL a lang lot).length := by rw [hal, hie]; exact Nat.mod_lt _ hn
    have hmod : (L + i) % (statesL a).length = j := by
      rw [hie, Nat.add_mod, Nat.mod_mod, ← Nat.add_mod, show L + (j + ((statesL a).length - L)) = j + (statesL a).length by omega, Nat.add_mod_right, Nat.mod_eq_of_lt (by omega)]
    have := hget i hin
    rw [hmod, List.getD_eq_getElem?_getD, List.getElem?_eq_getElem hj, Option.getD_some, hjs] at this
    rw [← this]
    exact List.getElem_mem hin
  have hnn : (alphaL a lang lot).findIdx? (fun x => decide (x = st)) ≠ none := by
    intro e
    have := List.findIdx?_eq_none_iff.1 e st hmem
    simp at this
  obtain ⟨i, hi⟩ : ∃ i, (alphaL a lang lot).findIdx? (fun x => decide (x = st)) = some i := by
    cases hx : (alphaL a lang lot).findIdx? (fun x => decide (x = st)) with
    | none => exact absurd hx hnn
    | some i => exact ⟨i, rfl⟩
  obtain ⟨hi1, hi2, _⟩ := List.findIdx?_eq_some_iff_getElem.1 hi
  have hi2 : (alphaL a lang lot)[i] = st := by simpa using hi2
  have hk : (L + i) % (statesL a).length < (orderL a lang).length := by rw [hlen]; exact Nat.mod_lt _ hn
  refine ⟨i, ?_, by omega, (L + i) % (statesL a).length, hk, ?_, ?_⟩
  · unfold letterL; rw [hi]
  · have := hget i hi1
    rw [List.getD_eq_getElem?_getD, List.getElem?_eq_getElem hk, Option.getD_some, hi2] at this
    exact this.symm
  · have : ((i : Int) + lot).emod ((statesL a).length : Nat) = ((i : Int) + lot.emod ((statesL a).length : Nat)).emod ((statesL a).length : Nat) := (Int.add_emod_emod _ _ _).symm
    rw [this, ← hLi, Int.add_comm]
    exact (Int.natCast_emod _ _).symm
theorem let_out {a : List Fact} {lang lot st : Int} (h : st ∉ orderL a lang) : (letterL a lang lot st).2 = false := by
  have hlen := (orderL_perm a lang).length_eq
  have hx : (alphaL a lang lot).findIdx? (fun x => decide (x = st)) = none := by
    refine List.findIdx?_eq_none_iff.2 fun x hx => ?_
    obtain ⟨i, hi, rfl⟩ := List.getElem_of_mem hx
    have hal := alphaL_len a lang lot
    refine decide_eq_false fun e => h ?_
    have hn : 0 < (orderL a lang).length := by omega
    have hk : ((lot.emod (orderL a lang).length).toNat + i) % (orderL a lang).length < (orderL a lang).length := Nat.mod_lt _ hn
    rw [← e]
    simp only [alphaL, List.getElem_map, List.getElem_range]
    rw [List.getD_eq_getElem?_getD, List.getElem?_eq_getElem hk, Option.getD_some]
    exact List.getElem_mem hk
  unfold letterL
  rw [hx]
/-- Another lot turns the places of states. -/
theorem lot_law (a : List Fact) (lang lot lot' st : Int) : (∃ i i' : Nat, letterL a lang lot st = ((i : Int), true) ∧ letterL a lang lot' st = ((i' : Int), true) ∧ i < (statesL a).length ∧ i' < (statesL a).length ∧ ((i : Int) + lot).emod ((statesL a).length : Nat) = ((i' : Int) + lot').emod ((statesL a).length : Nat)) ∨ ((letterL a lang lot st).2 = false ∧ (letterL a lang lot' st).2 = false) := by
  by_cases h : st ∈ orderL a lang
  · obtain ⟨i, h1, h2, j, hj, hjs, hm⟩ := let_in (lot := lot) h
    obtain ⟨i', h1', h2', j', hj', hjs', hm'⟩ := let_in (lot := lot') h
    refine .inl ⟨i, i', h1, h1', h2, h2', ?_⟩
    rw [hm, hm']
    have hnd : (orderL a lang).Nodup := (orderL_perm a lang).nodup_iff.2 (statesL_nodup a)
    have hp := List.pairwise_iff_getElem.1 hnd
    have : j = j' := by
      rcases Nat.lt_trichotomy j j' with hlt | he | hlt
      · exact absurd (hjs.trans hjs'.symm) (hp j j' hj hj' hlt)
      · exact he
      · exact absurd (hjs'.trans hjs.symm) (hp j' j hj' hj hlt)
    rw [this]
  · exact .inr ⟨let_out h, let_out h⟩
end Go.Proofs.YtdpdjcopkehdjaaGreat
namespace Go.Proofs.YtdpdjcopkehdjaaGreat.Rk
open Go.Eng Go.RowKit
/-- Another lot turns the places of the states that have one, and nothing else of a profile. -/
theorem lotProf (f : List Fact) (s : Scn) (lot : Int) (g : Int × Int) :
    (∃ x y : Int, profOf f s g = { profOf f s g with letter := x } ∧ profOf f { s with lot := lot } g = { profOf f s g with letter := y } ∧
      ((∃ i j : Nat, x = i ∧ y = j ∧ i < (statesL (atL s.known s.day f)).length ∧ j < (statesL (atL s.known s.day f)).length ∧ (x + s.lot).emod (((statesL (atL s.known s.day f)).length : Nat) : Int) = (y + lot).emod (((statesL (atL s.known s.day f)).length : Nat) : Int)) ∨
       (x = (((statesL (atL s.known s.day f)).length : Nat) : Int) ∧ y = (((statesL (atL s.known s.day f)).length : Nat) : Int)))) := by
  obtain ⟨a, ha⟩ : ∃ a, a = atL s.known s.day f := ⟨_, rfl⟩
  rw [← ha]
  have h1 : profOf f s g = profAt a s g := by rw [ha]; rfl
  have h2 : profOf f { s with lot := lot } g = { profAt a s g with letter := letOf a s.lang lot g.2 } := by rw [ha]; rfl
  rw [h1, h2]
  refine ⟨letOf a s.lang s.lot g.2, letOf a s.lang lot g.2, rfl, rfl, ?_⟩
  have hn := alphaL_len a s.lang
  unfold letOf
  rcases lot_law a s.lang s.lot lot g.2 with ⟨i, j, e1, e2, hi, hj, hm⟩ | ⟨e1, e2⟩
  · refine .inl ⟨i, j, ?_, ?_, hi, hj, ?_⟩
    · rw [e1]; rfl
    · rw [e2]; rfl
    · rw [e1, e2]; exact hm
  · refine .inr ⟨?_, ?_⟩
    · rw [e1, hn]; rfl
    · rw [e2, hn]; rfl
set_option maxRecDepth 100000 in
set_option maxHeartbeats 4000000 in
theorem RankLot_spec {w : World} {A B : Option Addr} {f : List Fact} {c d : Nat} {gs : List (Int × Int)} (hf : HF w A f c) (s : Scn) (hr : Reads w B (prCells gs)) (hg : ∀ g ∈ gs, In64 g.1) (lot : Int) :
    CallsV C.P 3 #[.slice A f.length c, s.val, .slice B gs.length d, .int .i64 lot] w fun v w' => v = .bool true ∧ Ext w w' := by
  have stop : ∀ {w' : World}, Ext w w' → CallsV C.P 11 #[] w' fun v w'' => v = .bool true ∧ Ext w w'' := fun e => (stands_spec _).mono fun v w'' hh => ⟨hh.1, e.trans hh.2⟩
  refine callsV_of C_ok (args := [_, _, _, _]) (plans := plans3) Tryz.func3 rfl Tryz.ntmps3 (by kernel_rfl) (Nat.le_of_ble_eq_true rfl) ?_
  intro g5 w1 h1
  have M1 : Mem w w1 [(g5, .cells s.cells.toArray 24 (0, 0))] := (Mem.start w).alloc h1
  refine (fewR_spec (hf.ext M1.ext)).mono ?_
  rintro v w2 ⟨⟨b, rfl, hb⟩, e2⟩
  have M2 := M1.grow e2
  refine brE_mk (fun b0 => ?_) (fun b0 => ?_)
  · refine (stop M2.ext).mono ?_
    rintro v w3 ⟨rfl, e⟩
    exact ⟨rfl, e⟩
  have hfew := hb (by simpa using b0)
  clear hb b0
  have hl : f.length ≤ 2 ^ 20 := by have := hfew.1; omega
  have hgl := hfew.2.2
  obtain ⟨t, ht⟩ : ∃ t : Scn, t = { s with lot := lot } := ⟨_, rfl⟩
  refine ⟨s.cells, rfl, M2.rd 0 rfl, ?_⟩
  intro g9 w3 h3
  have M3 := M2.alloc h3
  refine ⟨rfl, _, _, M3.get 0 rfl, Nat.le_of_ble_eq_true rfl, rfl, ?_⟩
  intro w4 h4
  have M4 : Mem w w4 [(g9, .cells s.cells.toArray 24 (0, 0)), (g5, .cells s.cells.toArray 24 (0, 0))] := M3.put 0 rfl h4
  refine ⟨rfl, _, _, M4.get 0 rfl, Nat.le_of_ble_eq_true rfl, rfl, ?_⟩
  intro w5 h5
  have M5 : Mem w w5 [(g9, .cells t.cells.toArray 24 (0, 0)), (g5, .cells s.cells.toArray 24 (0, 0))] := by rw [ht]; exact M4.put 0 rfl h5
  refine ⟨s.cells, rfl, M5.rd 1 rfl, ?_⟩
  refine (Profiles_spec (hf.ext M5.ext) hl s (hr.ext M5.ext) hg).mono ?_
  rintro v w6 ⟨⟨v1, rfl, hv1⟩, e6⟩
  have M6 := M5.grow e6
  refine ⟨t.cells, rfl, M6.rd 0 rfl, ?_⟩
  refine (Profiles_spec (hf.ext M6.ext) hl t (hr.ext M6.ext) hg).mono ?_
  rintro v w7 ⟨⟨v2, rfl, hv2⟩, e7⟩
  have M7 := M6.grow e7
  obtain ⟨k1, hk1⟩ : ∃ k1, k1 = chkR f 0 s gs := ⟨_, rfl⟩
  obtain ⟨k2, hk2⟩ : ∃ k2, k2 = chkR f 0 t gs := ⟨_, rfl⟩
  rw [← hk1, ← hk2]
  refine brE_ndec (fun c1 => ?_) (fun c1 => ?_)
  · refine (stop M7.ext).mono ?_
    rintro v w8 ⟨rfl, e⟩
    exact ⟨rfl, e⟩
  have c1 : k1 = 0 := c1
  refine brE_ndec (fun c2 => ?_) (fun c2 => ?_)
  · refine (stop M7.ext).mono ?_
    rintro v w8 ⟨rfl, e⟩
    exact ⟨rfl, e⟩
  have c2 : k2 = 0 := c2
  have z1 : chkR f 0 s gs = 0 := by rw [← hk1]; exact c1
  have z2 : chkR f 0 t gs = 0 := by rw [← hk2]; exact c2
  have p1 : profsR f s gs = profsOf f s gs := if_pos z1
  have p2 : profsR f t gs = profsOf f t gs := if_pos z2
  rw [p1] at hv1
  rw [p2] at hv2
  have n1 : (profsOf f s gs).length = gs.length := List.length_map _
  have n2 : (profsOf f t gs).length = gs.length := List.length_map _
  obtain ⟨A1, d1, rfl, hL1⟩ := (hv1.ext e7).hl
  obtain ⟨A2, d2, rfl, hL2⟩ := hv2.hl
  obtain ⟨m1, hm1⟩ : ∃ m1, m1 = (profsOf f s gs).length := ⟨_, rfl⟩
  obtain ⟨m2, hm2⟩ : ∃ m2, m2 = (profsOf f t gs).length := ⟨_, rfl⟩
  rw [← hm1, ← hm2]
  refine brE_ndec (fun h => absurd (congrArg (fun n : Nat => (n : Int)) (hm1.trans n1)) h) (fun _ => ?_)
  refine brE_ndec (fun h => absurd (congrArg (fun n : Nat => (n : Int)) (hm2.trans n2)) h) (fun _ => ?_)
  refine ⟨_, M7.cell 1 rfl rfl, ?_⟩
  refine ⟨_, M7.cell 1 rfl rfl, ?_⟩
  refine (States_spec (hf.ext M7.ext) hl s.known s.day).mono ?_
  rintro v w8 ⟨hv, e8⟩
  obtain ⟨As, ds, rfl, _, _⟩ := reads_of_owns hv
  have M8 := M7.grow e8
  have hL1 := hL1.ext e8
  have hL2 := hL2.ext e8
  have hnb : (statesL (atL s.known s.day f)).length ≤ f.length := by
    refine Nat.le_trans (sortD_length _) ?_
    unfold whos
    rw [List.length_map]
    exact Nat.le_trans (List.length_filter_le _ _) (atL_length _ _ f)
  have hnf := hfew.1
  have lotOk : ∀ (r : Scn), schk r = 0 → 0 ≤ r.lot ∧ r.lot ≤ 199 := by
    intro r hr0
    unfold schk at hr0
    split at hr0
    · next h => exact h.2.2.1
    · cases hr0
  have ls := lotOk s (chkR_zero z1).2.2.1
  have lt := lotOk t (chkR_zero z2).2.2.1
  have htl : t.lot = lot := by rw [ht]
  rw [htl] at lt
  have LAW := fun g => lotProf f s lot g
  rw [← ht] at LAW
  obtain ⟨n, hn⟩ : ∃ n, n = (statesL (atL s.known s.day f)).length := ⟨_, rfl⟩
  rw [← hn] at LAW hnb ⊢
  refine loopE C_ok (fun (i : Nat) => [(2, .slice B gs.length d), (5, .pointer (some ⟨g5, 0, none⟩)), (9, .pointer (some ⟨g9, 0, none⟩)), (10, .slice A1 m1 d1), (12, .slice A2 m2 d2), (14, .int .i64 (n : Nat)), (15, .int .i64 (i : Nat))])
    (fun i w' => i ≤ gs.length ∧ Ext w8 w') (fun i => gs.length - i) 0 ⟨rfl, rfl, rfl, rfl, rfl, rfl, rfl, trivial⟩ ⟨Nat.zero_le _, Ext.refl _⟩ ?_
  rintro i w9 ⟨hi, e9⟩
  refine brE_dec (fun hlt => ?_) (fun hge => ?_)
  · have hlti : i < gs.length := by have : (i : Int) < (gs.length : Nat) := hlt; omega
    have next : IntKind.i64.wrap ((i : Int) + 1) = ((i + 1 : Nat) : Int) := fit ⟨by omega, by omega⟩
    obtain ⟨b1, o1, hA1, hc1⟩ := (hL1.ext e9).at (k := 7) (fun _ => rfl) (by omega) (i := i) (by omega)
    obtain ⟨x, hx⟩ : ∃ x, x = (profsOf f s gs)[i] := ⟨_, rfl⟩
    obtain ⟨y, hy⟩ : ∃ y, y = (profsOf f t gs)[i] := ⟨_, rfl⟩
    rw [← hx] at hc1
    have hx2 : x = profOf f s gs[i] := by rw [hx]; exact List.getElem_map _
    have hy2 : y = profOf f t gs[i] := by rw [hy]; exact List.getElem_map _
    obtain ⟨lx, ly, ex, ey, CASES⟩ := LAW gs[i]
    rw [← hx2] at ex ey
    rw [← hy2] at ey
    have hlx : x.letter = lx := congrArg Prof.letter ex
    have hly : y.letter = ly := congrArg Prof.letter ey
    have hxy : ({ x with letter := 0 } : Prof) = { y with letter := 0 } := by rw [ey]
    have M9 := M8.grow e9
    refine ⟨i, b1, o1, rfl, by omega, hA1, ?_⟩
    refine ⟨x.cells, rfl, hc1, ?_⟩
    intro g16 w10 h10
    have M10 := M9.alloc h10
    refine ⟨rfl, _, _, M10.get 0 rfl, Nat.le_of_ble_eq_true rfl, rfl, ?_⟩
    intro w11 h11
    have M11 : Mem w w11 [(g16, .cells x.cells.toArray 38 (0, 0)), (g9, .cells t.cells.toArray 24 (0, 0)), (g5, .cells s.cells.toArray 24 (0, 0))] := M10.put 0 rfl h11
    have e11 : Ext w9 w11 := h11.ext_of h10.ext (by rw [h10.new]; exact Nat.le_refl _)
    obtain ⟨b2, o2, hA2, hc2⟩ := (hL2.ext (e9.trans e11)).at (k := 7) (fun _ => rfl) (by omega) (i := i) (by omega)
    rw [← hy] at hc2
    refine ⟨i, b2, o2, rfl, by omega, hA2, ?_⟩
    refine ⟨y.cells, rfl, hc2, ?_⟩
    intro g17 w12 h12
    have M12 := M11.alloc h12
    refine ⟨rfl, _, _, M12.get 0 rfl, Nat.le_of_ble_eq_true rfl, rfl, ?_⟩
    intro w13 h13
    have M : Mem w w13 [(g17, .cells y.cells.toArray 38 (0, 0)), (g16, .cells x.cells.toArray 38 (0, 0)), (g9, .cells t.cells.toArray 24 (0, 0)), (g5, .cells s.cells.toArray 24 (0, 0))] := M12.put 0 rfl h13
    have N : Mem w8 w13 [(g17, .cells y.cells.toArray 38 (0, 0)), (g16, .cells x.cells.toArray 38 (0, 0))] := by
      have N9 : Mem w8 w9 [] := ⟨e9, fun _ _ hm => (by cases hm), List.nodup_nil⟩
      exact (((N9.alloc h10).put 0 rfl h11).alloc h12).put 0 rfl h13
    clear M1 M2 M3 M4 M5 M6 M7 M8 M9 M10 M11 M12 hc1 hc2
    have xs : (Prof.mk x.cls x.visit x.host x.dep x.mourn x.cred 0) = Prof.mk y.cls y.visit y.host y.dep y.mourn y.cred 0 := hxy
    have hnn : decide ((n : Int) < (n : Int)) = false := decide_eq_false (by omega)
    refine ⟨_, M.cell 1 rfl rfl, ?_⟩
    refine Or.elim CASES (fun CS => ?I) (fun CS => ?II)
    case' I =>
      obtain ⟨i1, j1, q1, q2, q3, q4, q5⟩ := CS
      have r1 : x.letter < (n : Int) := by omega
      have r2 : y.letter < (n : Int) := by omega
      have hm : ∃ m, m = (x.letter + s.lot).tmod (n : Int) ∧ m = (y.letter + t.lot).tmod (n : Int) := by
        refine ⟨_, rfl, ?_⟩
        rw [htl, Int.tmod_eq_emod_of_nonneg (by omega), Int.tmod_eq_emod_of_nonneg (by omega), hlx, hly]
        exact q5
      obtain ⟨m, hm1', hm2'⟩ := hm
      refine brE_true (decide_eq_true r1) ?_
      refine ⟨_, M.cell 1 rfl rfl, ?_⟩
      refine ⟨_, M.cell 3 rfl rfl, ?_⟩
      refine ⟨x.letter + s.lot, fit ⟨by omega, by omega⟩, ?_⟩
      refine ⟨(show (n : Int) ≠ 0 by omega), m, hm1'.symm, ?_⟩
      refine ⟨_, M.cell 0 rfl rfl, ?_⟩
      refine ⟨_, M.cell 2 rfl rfl, ?_⟩
      refine ⟨y.letter + t.lot, fit ⟨by omega, by omega⟩, ?_⟩
      refine ⟨(show (n : Int) ≠ 0 by omega), m, hm2'.symm, ?_⟩
      refine brE_ndec (fun h => absurd rfl h) (fun _ => ?_)
      refine ⟨_, M.cell 1 rfl rfl, ?_⟩
      refine brE_dec (fun h => absurd r1 (by have h : x.letter ≥ (n : Int) := h; omega)) (fun _ => ?_)
      refine ⟨_, M.cell 1 rfl rfl, ?_⟩
      refine ⟨_, M.cell 0 rfl rfl, ?_⟩
      refine ⟨_, neqBool _ _ _ _, ?_⟩
      refine brE_false (by rw [decide_eq_true r1, decide_eq_true r2]; rfl) ?_
    case' II =>
      have r1 : x.letter = (n : Int) := hlx.trans CS.1
      have r2 : y.letter = (n : Int) := hly.trans CS.2
      refine brE_false (decide_eq_false (by rw [r1]; omega)) ?_
      refine ⟨_, M.cell 1 rfl rfl, ?_⟩
      refine brE_true (decide_eq_true (show x.letter ≥ (n : Int) by omega)) ?_
      refine ⟨_, M.cell 0 rfl rfl, ?_⟩
      refine ⟨_, M.cell 1 rfl rfl, ?_⟩
      refine brE_ndec (fun h => absurd (r2.trans r1.symm) h) (fun _ => ?_)
      refine ⟨_, M.cell 1 rfl rfl, ?_⟩
      refine ⟨_, M.cell 0 rfl rfl, ?_⟩
      refine ⟨_, neqBool _ _ _ _, ?_⟩
      refine brE_false (by rw [r1, r2, hnn]; rfl) ?_
    all_goals
      refine ⟨rfl, _, _, M.get 1 rfl, Nat.le_of_ble_eq_true rfl, rfl, ?_⟩
      intro w14 h14
      have N := N.put 1 rfl h14
      have M := M.put 1 rfl h14
      refine ⟨rfl, _, _, M.get 0 rfl, Nat.le_of_ble_eq_true rfl, rfl, ?_⟩
      intro w15 h15
      have N := N.put 0 rfl h15
      have M : Mem w w15 [(g17, .cells (Prof.mk y.cls y.visit y.host y.dep y.mourn y.cred 0).cells.toArray 38 (0, 0)), (g16, .cells (Prof.mk x.cls x.visit x.host x.dep x.mourn x.cred 0).cells.toArray 38 (0, 0)), (g9, .cells t.cells.toArray 24 (0, 0)), (g5, .cells s.cells.toArray 24 (0, 0))] := M.put 0 rfl h15
      rw [xs] at M
      refine ⟨_, rfl, M.rd 1 rfl, ?_⟩
      refine ⟨_, rfl, M.rd 0 rfl, ?_⟩
      refine ⟨_, neqPf_self _ _ (Prof.mk y.cls y.visit y.host y.dep y.mourn y.cred 0), ?_⟩
      refine ⟨_, next, ?_⟩
      exact ⟨i + 1, ⟨rfl, rfl, rfl, rfl, rfl, rfl, rfl, trivial⟩, ⟨hlti, N.ext⟩, by show gs.length - (i + 1) < gs.length - i; omega⟩
  · refine (stop (M8.ext.trans e9)).mono ?_
    rintro v w7 ⟨rfl, e⟩
    exact ⟨rfl, e⟩
end Go.Proofs.YtdpdjcopkehdjaaGreat.Rk
