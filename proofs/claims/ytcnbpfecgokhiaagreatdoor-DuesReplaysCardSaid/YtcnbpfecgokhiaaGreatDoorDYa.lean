/- Lists of the dues compared by the reference (printed by tools/dsame.py). -/
import Derived.Test.YtcnbpfecgokhiaaGreatDoorDWc
set_option linter.unusedVariables false
set_option linter.unusedSimpArgs false
set_option linter.unnecessarySimpa false
set_option linter.unusedSectionVars false
namespace Go.Proofs.YtcnbpfecgokhiaaGreatDoor
open Go.Eng Go.RowKit

theorem SameEs_spec {w : World} {A B : Option Addr} {l m : List Entry} {c d : Nat} (h : HL Entry.cells w A l c) (k : HL Entry.cells w B m d) :
    CallsV C.P 22 #[.slice A l.length c, .slice B m.length d] w fun v w' => v = .bool (decide (l = m)) ∧ w' = w := by
  have hcap := h.cap
  refine callsV_of C_ok (args := [_, _]) (plans := plans22) Tryz.func22 rfl Tryz.ntmps22 (by kernel_rfl) (Nat.le_of_ble_eq_true rfl) ?_
  refine brE_ndec (fun hn => ?_) (fun hn => ?_)
  · have hn : ¬ ((l.length : Nat) : Int) = (m.length : Nat) := hn
    exact ⟨congrArg _ (decide_eq_false (fun e => hn (by rw [e]))).symm, rfl⟩
  have hn : ((l.length : Nat) : Int) = (m.length : Nat) := hn
  have hlm : l.length = m.length := by omega
  refine loopE C_ok (fun (i : Nat) => [(0, .slice A l.length c), (1, .slice B m.length d), (5, .int .i64 (i : Nat))])
    (fun i w' => i ≤ l.length ∧ l.take i = m.take i ∧ w' = w) (fun i => l.length - i) 0 ⟨rfl, rfl, rfl, trivial⟩ ⟨Nat.zero_le _, rfl, rfl⟩ ?_
  rintro i w1 ⟨hi, heq, rfl⟩
  refine brE_dec (fun hlt => ?_) (fun hge => ?_)
  · have hlt : i < l.length := by have : (i : Int) < (l.length : Nat) := hlt; omega
    have hltm : i < m.length := by omega
    obtain ⟨b1, o1, hA, hr1⟩ := h.at Entry.len (by omega) hlt
    obtain ⟨b2, o2, hB, hr2⟩ := k.at Entry.len (by omega) hltm
    refine ⟨i, b1, o1, rfl, hlt, hA, ?_⟩
    refine ⟨l[i].cells, rfl, hr1, ?_⟩
    refine ⟨i, b2, o2, rfl, hltm, hB, ?_⟩
    refine ⟨m[i].cells, rfl, hr2, ?_⟩
    refine ⟨_, neqE _ _ l[i] m[i], ?_⟩
    refine brE_ndec (fun hd => ?_) (fun hd => ?_)
    · exact ⟨congrArg _ (decide_eq_false (fun e => hd (by subst e; rfl))).symm, rfl⟩
    · refine ⟨((i + 1 : Nat) : Int), fit ⟨by omega, by omega⟩, ?_⟩
      exact ⟨i + 1, ⟨rfl, rfl, rfl, trivial⟩, ⟨hlt, by rw [List.take_succ_eq_append_getElem hlt, List.take_succ_eq_append_getElem hltm, heq, hd], rfl⟩, by show l.length - (i + 1) < l.length - i; omega⟩
  · have hi : i = l.length := by have : ¬ (i : Int) < (l.length : Nat) := hge; omega
    have e : l = m := by
      have h1 := heq
      rw [hi, List.take_length, hlm, List.take_length] at h1
      exact h1
    exact ⟨congrArg _ (decide_eq_true e).symm, rfl⟩


theorem SameWs_spec {w : World} {A B : Option Addr} {l m : List Waiv} {c d : Nat} (h : HL Waiv.cells w A l c) (k : HL Waiv.cells w B m d) :
    CallsV C.P 45 #[.slice A l.length c, .slice B m.length d] w fun v w' => v = .bool (decide (l = m)) ∧ w' = w := by
  have hcap := h.cap
  refine callsV_of C_ok (args := [_, _]) (plans := plans45) Tryz.func45 rfl Tryz.ntmps45 (by kernel_rfl) (Nat.le_of_ble_eq_true rfl) ?_
  refine brE_ndec (fun hn => ?_) (fun hn => ?_)
  · have hn : ¬ ((l.length : Nat) : Int) = (m.length : Nat) := hn
    exact ⟨congrArg _ (decide_eq_false (fun e => hn (by rw [e]))).symm, rfl⟩
  have hn : ((l.length : Nat) : Int) = (m.length : Nat) := hn
  have hlm : l.length = m.length := by omega
  refine loopE C_ok (fun (i : Nat) => [(0, .slice A l.length c), (1, .slice B m.length d), (5, .int .i64 (i : Nat))])
    (fun i w' => i ≤ l.length ∧ l.take i = m.take i ∧ w' = w) (fun i => l.length - i) 0 ⟨rfl, rfl, rfl, trivial⟩ ⟨Nat.zero_le _, rfl, rfl⟩ ?_
  rintro i w1 ⟨hi, heq, rfl⟩
  refine brE_dec (fun hlt => ?_) (fun hge => ?_)
  · have hlt : i < l.length := by have : (i : Int) < (l.length : Nat) := hlt; omega
    have hltm : i < m.length := by omega
    obtain ⟨b1, o1, hA, hr1⟩ := h.at Waiv.len (by omega) hlt
    obtain ⟨b2, o2, hB, hr2⟩ := k.at Waiv.len (by omega) hltm
    refine ⟨i, b1, o1, rfl, hlt, hA, ?_⟩
    refine ⟨l[i].cells, rfl, hr1, ?_⟩
    refine ⟨i, b2, o2, rfl, hltm, hB, ?_⟩
    refine ⟨m[i].cells, rfl, hr2, ?_⟩
    refine ⟨_, neqW _ _ l[i] m[i], ?_⟩
    refine brE_ndec (fun hd => ?_) (fun hd => ?_)
    · exact ⟨congrArg _ (decide_eq_false (fun e => hd (by subst e; rfl))).symm, rfl⟩
    · refine ⟨((i + 1 : Nat) : Int), fit ⟨by omega, by omega⟩, ?_⟩
      exact ⟨i + 1, ⟨rfl, rfl, rfl, trivial⟩, ⟨hlt, by rw [List.take_succ_eq_append_getElem hlt, List.take_succ_eq_append_getElem hltm, heq, hd], rfl⟩, by show l.length - (i + 1) < l.length - i; omega⟩
  · have hi : i = l.length := by have : ¬ (i : Int) < (l.length : Nat) := hge; omega
    have e : l = m := by
      have h1 := heq
      rw [hi, List.take_length, hlm, List.take_length] at h1
      exact h1
    exact ⟨congrArg _ (decide_eq_true e).symm, rfl⟩


theorem SameGs_spec {w : World} {A B : Option Addr} {l m : List Gift} {c d : Nat} (h : HL Gift.cells w A l c) (k : HL Gift.cells w B m d) :
    CallsV C.P 48 #[.slice A l.length c, .slice B m.length d] w fun v w' => v = .bool (decide (l = m)) ∧ w' = w := by
  have hcap := h.cap
  refine callsV_of C_ok (args := [_, _]) (plans := plans48) Tryz.func48 rfl Tryz.ntmps48 (by kernel_rfl) (Nat.le_of_ble_eq_true rfl) ?_
  refine brE_ndec (fun hn => ?_) (fun hn => ?_)
  · have hn : ¬ ((l.length : Nat) : Int) = (m.length : Nat) := hn
    exact ⟨congrArg _ (decide_eq_false (fun e => hn (by rw [e]))).symm, rfl⟩
  have hn : ((l.length : Nat) : Int) = (m.length : Nat) := hn
  have hlm : l.length = m.length := by omega
  refine loopE C_ok (fun (i : Nat) => [(0, .slice A l.length c), (1, .slice B m.length d), (5, .int .i64 (i : Nat))])
    (fun i w' => i ≤ l.length ∧ l.take i = m.take i ∧ w' = w) (fun i => l.length - i) 0 ⟨rfl, rfl, rfl, trivial⟩ ⟨Nat.zero_le _, rfl, rfl⟩ ?_
  rintro i w1 ⟨hi, heq, rfl⟩
  refine brE_dec (fun hlt => ?_) (fun hge => ?_)
  · have hlt : i < l.length := by have : (i : Int) < (l.length : Nat) := hlt; omega
    have hltm : i < m.length := by omega
    obtain ⟨b1, o1, hA, hr1⟩ := h.at Gift.len (by omega) hlt
    obtain ⟨b2, o2, hB, hr2⟩ := k.at Gift.len (by omega) hltm
    refine ⟨i, b1, o1, rfl, hlt, hA, ?_⟩
    refine ⟨l[i].cells, rfl, hr1, ?_⟩
    refine ⟨i, b2, o2, rfl, hltm, hB, ?_⟩
    refine ⟨m[i].cells, rfl, hr2, ?_⟩
    refine ⟨_, neqG _ _ l[i] m[i], ?_⟩
    refine brE_ndec (fun hd => ?_) (fun hd => ?_)
    · exact ⟨congrArg _ (decide_eq_false (fun e => hd (by subst e; rfl))).symm, rfl⟩
    · refine ⟨((i + 1 : Nat) : Int), fit ⟨by omega, by omega⟩, ?_⟩
      exact ⟨i + 1, ⟨rfl, rfl, rfl, trivial⟩, ⟨hlt, by rw [List.take_succ_eq_append_getElem hlt, List.take_succ_eq_append_getElem hltm, heq, hd], rfl⟩, by show l.length - (i + 1) < l.length - i; omega⟩
  · have hi : i = l.length := by have : ¬ (i : Int) < (l.length : Nat) := hge; omega
    have e : l = m := by
      have h1 := heq
      rw [hi, List.take_length, hlm, List.take_length] at h1
      exact h1
    exact ⟨congrArg _ (decide_eq_true e).symm, rfl⟩


theorem SameDs_spec {w : World} {A B : Option Addr} {l m : List Due} {c d : Nat} (h : HL Due.cells w A l c) (k : HL Due.cells w B m d) :
    CallsV C.P 46 #[.slice A l.length c, .slice B m.length d] w fun v w' => v = .bool (decide (l = m)) ∧ w' = w := by
  have hcap := h.cap
  refine callsV_of C_ok (args := [_, _]) (plans := plans46) Tryz.func46 rfl Tryz.ntmps46 (by kernel_rfl) (Nat.le_of_ble_eq_true rfl) ?_
  refine brE_ndec (fun hn => ?_) (fun hn => ?_)
  · have hn : ¬ ((l.length : Nat) : Int) = (m.length : Nat) := hn
    exact ⟨congrArg _ (decide_eq_false (fun e => hn (by rw [e]))).symm, rfl⟩
  have hn : ((l.length : Nat) : Int) = (m.length : Nat) := hn
  have hlm : l.length = m.length := by omega
  refine loopE C_ok (fun (i : Nat) => [(0, .slice A l.length c), (1, .slice B m.length d), (5, .int .i64 (i : Nat))])
    (fun i w' => i ≤ l.length ∧ l.take i = m.take i ∧ w' = w) (fun i => l.length - i) 0 ⟨rfl, rfl, rfl, trivial⟩ ⟨Nat.zero_le _, rfl, rfl⟩ ?_
  rintro i w1 ⟨hi, heq, rfl⟩
  refine brE_dec (fun hlt => ?_) (fun hge => ?_)
  · have hlt : i < l.length := by have : (i : Int) < (l.length : Nat) := hlt; omega
    have hltm : i < m.length := by omega
    obtain ⟨b1, o1, hA, hr1⟩ := h.at Due.len (by omega) hlt
    obtain ⟨b2, o2, hB, hr2⟩ := k.at Due.len (by omega) hltm
    refine ⟨i, b1, o1, rfl, hlt, hA, ?_⟩
    refine ⟨l[i].cells, rfl, hr1, ?_⟩
    refine ⟨i, b2, o2, rfl, hltm, hB, ?_⟩
    refine ⟨m[i].cells, rfl, hr2, ?_⟩
    refine ⟨_, neqD _ _ l[i] m[i], ?_⟩
    refine brE_ndec (fun hd => ?_) (fun hd => ?_)
    · exact ⟨congrArg _ (decide_eq_false (fun e => hd (by subst e; rfl))).symm, rfl⟩
    · refine ⟨((i + 1 : Nat) : Int), fit ⟨by omega, by omega⟩, ?_⟩
      exact ⟨i + 1, ⟨rfl, rfl, rfl, trivial⟩, ⟨hlt, by rw [List.take_succ_eq_append_getElem hlt, List.take_succ_eq_append_getElem hltm, heq, hd], rfl⟩, by show l.length - (i + 1) < l.length - i; omega⟩
  · have hi : i = l.length := by have : ¬ (i : Int) < (l.length : Nat) := hge; omega
    have e : l = m := by
      have h1 := heq
      rw [hi, List.take_length, hlm, List.take_length] at h1
      exact h1
    exact ⟨congrArg _ (decide_eq_true e).symm, rfl⟩


theorem SameSs_spec {w : World} {A B : Option Addr} {l m : List Sight} {c d : Nat} (h : HL Sight.cells w A l c) (k : HL Sight.cells w B m d) :
    CallsV C.P 43 #[.slice A l.length c, .slice B m.length d] w fun v w' => v = .bool (decide (l = m)) ∧ w' = w := by
  have hcap := h.cap
  refine callsV_of C_ok (args := [_, _]) (plans := plans43) Tryz.func43 rfl Tryz.ntmps43 (by kernel_rfl) (Nat.le_of_ble_eq_true rfl) ?_
  refine brE_ndec (fun hn => ?_) (fun hn => ?_)
  · have hn : ¬ ((l.length : Nat) : Int) = (m.length : Nat) := hn
    exact ⟨congrArg _ (decide_eq_false (fun e => hn (by rw [e]))).symm, rfl⟩
  have hn : ((l.length : Nat) : Int) = (m.length : Nat) := hn
  have hlm : l.length = m.length := by omega
  refine loopE C_ok (fun (i : Nat) => [(0, .slice A l.length c), (1, .slice B m.length d), (5, .int .i64 (i : Nat))])
    (fun i w' => i ≤ l.length ∧ l.take i = m.take i ∧ w' = w) (fun i => l.length - i) 0 ⟨rfl, rfl, rfl, trivial⟩ ⟨Nat.zero_le _, rfl, rfl⟩ ?_
  rintro i w1 ⟨hi, heq, rfl⟩
  refine brE_dec (fun hlt => ?_) (fun hge => ?_)
  · have hlt : i < l.length := by have : (i : Int) < (l.length : Nat) := hlt; omega
    have hltm : i < m.length := by omega
    obtain ⟨b1, o1, hA, hr1⟩ := h.at Sight.len (by omega) hlt
    obtain ⟨b2, o2, hB, hr2⟩ := k.at Sight.len (by omega) hltm
    refine ⟨i, b1, o1, rfl, hlt, hA, ?_⟩
    refine ⟨l[i].cells, rfl, hr1, ?_⟩
    refine ⟨i, b2, o2, rfl, hltm, hB, ?_⟩
    refine ⟨m[i].cells, rfl, hr2, ?_⟩
    refine ⟨_, neqS _ _ l[i] m[i], ?_⟩
    refine brE_ndec (fun hd => ?_) (fun hd => ?_)
    · exact ⟨congrArg _ (decide_eq_false (fun e => hd (by subst e; rfl))).symm, rfl⟩
    · refine ⟨((i + 1 : Nat) : Int), fit ⟨by omega, by omega⟩, ?_⟩
      exact ⟨i + 1, ⟨rfl, rfl, rfl, trivial⟩, ⟨hlt, by rw [List.take_succ_eq_append_getElem hlt, List.take_succ_eq_append_getElem hltm, heq, hd], rfl⟩, by show l.length - (i + 1) < l.length - i; omega⟩
  · have hi : i = l.length := by have : ¬ (i : Int) < (l.length : Nat) := hge; omega
    have e : l = m := by
      have h1 := heq
      rw [hi, List.take_length, hlm, List.take_length] at h1
      exact h1
    exact ⟨congrArg _ (decide_eq_true e).symm, rfl⟩


theorem SamePs_spec {w : World} {A B : Option Addr} {l m : List IPair} {c d : Nat} (h : HL IPair.cells w A l c) (k : HL IPair.cells w B m d) :
    CallsV C.P 36 #[.slice A l.length c, .slice B m.length d] w fun v w' => v = .bool (decide (l = m)) ∧ w' = w := by
  have hcap := h.cap
  refine callsV_of C_ok (args := [_, _]) (plans := plans36) Tryz.func36 rfl Tryz.ntmps36 (by kernel_rfl) (Nat.le_of_ble_eq_true rfl) ?_
  refine brE_ndec (fun hn => ?_) (fun hn => ?_)
  · have hn : ¬ ((l.length : Nat) : Int) = (m.length : Nat) := hn
    exact ⟨congrArg _ (decide_eq_false (fun e => hn (by rw [e]))).symm, rfl⟩
  have hn : ((l.length : Nat) : Int) = (m.length : Nat) := hn
  have hlm : l.length = m.length := by omega
  refine loopE C_ok (fun (i : Nat) => [(0, .slice A l.length c), (1, .slice B m.length d), (5, .int .i64 (i : Nat))])
    (fun i w' => i ≤ l.length ∧ l.take i = m.take i ∧ w' = w) (fun i => l.length - i) 0 ⟨rfl, rfl, rfl, trivial⟩ ⟨Nat.zero_le _, rfl, rfl⟩ ?_
  rintro i w1 ⟨hi, heq, rfl⟩
  refine brE_dec (fun hlt => ?_) (fun hge => ?_)
  · have hlt : i < l.length := by have : (i : Int) < (l.length : Nat) := hlt; omega
    have hltm : i < m.length := by omega
    obtain ⟨b1, o1, hA, hr1⟩ := h.at IPair.len (by omega) hlt
    obtain ⟨b2, o2, hB, hr2⟩ := k.at IPair.len (by omega) hltm
    refine ⟨i, b1, o1, rfl, hlt, hA, ?_⟩
    refine ⟨l[i].cells, rfl, hr1, ?_⟩
    refine ⟨i, b2, o2, rfl, hltm, hB, ?_⟩
    refine ⟨m[i].cells, rfl, hr2, ?_⟩
    refine ⟨_, neqP _ _ l[i] m[i], ?_⟩
    refine brE_ndec (fun hd => ?_) (fun hd => ?_)
    · exact ⟨congrArg _ (decide_eq_false (fun e => hd (by subst e; rfl))).symm, rfl⟩
    · refine ⟨((i + 1 : Nat) : Int), fit ⟨by omega, by omega⟩, ?_⟩
      exact ⟨i + 1, ⟨rfl, rfl, rfl, trivial⟩, ⟨hlt, by rw [List.take_succ_eq_append_getElem hlt, List.take_succ_eq_append_getElem hltm, heq, hd], rfl⟩, by show l.length - (i + 1) < l.length - i; omega⟩
  · have hi : i = l.length := by have : ¬ (i : Int) < (l.length : Nat) := hge; omega
    have e : l = m := by
      have h1 := heq
      rw [hi, List.take_length, hlm, List.take_length] at h1
      exact h1
    exact ⟨congrArg _ (decide_eq_true e).symm, rfl⟩


end Go.Proofs.YtcnbpfecgokhiaaGreatDoor
