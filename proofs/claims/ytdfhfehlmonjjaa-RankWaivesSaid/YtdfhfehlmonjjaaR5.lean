/- rank: Standing, CheckChain, Before. -/
import Derived.Test.YtdfhfehlmonjjaaR4
namespace Go.Proofs.Ytdfhfehlmonjjaa
open Go.Eng Go.RowKit

noncomputable def standS (N : Int) (xs : List Arrow) (a b : Int) : Int := if chk N xs = 0 then (if inR N a && inR N b then standR (reach (toM xs)) a.toNat b.toNat else 0) else 0

theorem inR_nat {N a : Int} (h : inR N a = true) : ∃ p : Nat, a = (p : Int) ∧ (p : Int) ≤ N - 1 := by
  have := of_decide_eq_true h
  obtain ⟨p, rfl⟩ := Int.eq_ofNat_of_zero_le this.1
  exact ⟨p, rfl, this.2⟩

theorem all2 (N a b : Int) : [a, b].all (inR N) = (inR N a && inR N b) := by simp

theorem Standing_spec {N : Int} {A : Option Addr} {xs : List Arrow} {c : Nat} {w : World} (h : HRel w N A xs c) (a b : Int) :
    CallsV C.P 17 #[relVal N A xs.length c, .int .i64 a, .int .i64 b] w fun v w' => v = .int .u8 (standS N xs a b) ∧ Ext w w' := by
  refine callsV_of C_ok (args := [_, _, _]) (plans := []) Try.func17 rfl Try.ntmps17 (by kernel_rfl) (Nat.le_of_ble_eq_true rfl) ?_
  intro g1 w1 h1
  have M1 := (Mem.start w).alloc h1
  refine ⟨[.int .i64 N, .slice A xs.length c], rfl, M1.rd 0 rfl, ?_⟩
  by_cases hv : chk N xs = 0
  · have hok := valid_of_chk hv
    refine (open_yes (h.ext M1.ext) hok).mono ?_
    rintro v w2 ⟨g, rfl, hg, hw, he⟩
    have M2 := M1.grow he
    intro g3 w3 h3
    have M3 := M2.alloc h3
    refine (has_spec (xs := [a, b]) (hw.ext h3.ext) ⟨hok.lo, hok.hi⟩ (.inr ⟨g3, 0, rfl, M3.rd 0 rfl⟩) (by simp)).mono ?_
    rintro v w4 ⟨rfl, he4⟩
    have M4 := M3.grow he4
    rw [all2]
    refine brE_mk (fun hb => ?_) (fun hb => ?_)
    · rw [Bool.not_eq_true'] at hb
      exact ⟨by simp only [standS, hv, if_true, hb]; rfl, M4.ext⟩
    · rw [Bool.not_eq_false'] at hb
      have hb' := Bool.and_eq_true_iff.1 hb
      obtain ⟨p, rfl, hp⟩ := inR_nat hb'.1
      obtain ⟨q, rfl, hq⟩ := inR_nat hb'.2
      have := hok.hi
      refine (standing_spec ((hw.ext h3.ext).ext he4) (a := p) (b := q) (by omega) (by omega)).mono ?_
      rintro v w5 ⟨rfl, rfl⟩
      exact ⟨by simp only [standS, hv, if_true, hb]; rfl, M4.ext⟩
  · refine (open_no (h.ext M1.ext) hv).mono ?_
    rintro v w2 ⟨rfl, he⟩
    exact ⟨by simp only [standS, if_neg hv], (M1.grow he).ext⟩

/-! ### CheckChain -/
def linksB (T : Nat → Nat → Bool) : List Int → Bool
  | x :: y :: r => T x.toNat y.toNat && linksB T (y :: r)
  | _ => true

def chainOk (N : Int) (T : Nat → Nat → Bool) (a b : Int) (l : List Int) : Bool :=
  inR N a && inR N b && l.all (inR N) && !decide (l.length < 2) && decide (l.head? = some a) && decide (l.getLast? = some b) && linksB T l

def checkS (N : Int) (xs : List Arrow) (a b : Int) (l : List Int) : Bool := decide (chk N xs = 0) && chainOk N (toM xs) a b l

theorem linksB_at {T : Nat → Nat → Bool} : ∀ {l : List Int}, linksB T l = true ↔ ∀ i (h : i + 1 < l.length), T (l[i]).toNat (l[i + 1]).toNat = true
  | [] => by simp [linksB]
  | [x] => by simp [linksB]
  | x :: y :: r => by
    rw [linksB, Bool.and_eq_true, linksB_at (l := y :: r)]
    constructor
    · rintro ⟨h1, h2⟩ i hi
      cases i with
      | zero => exact h1
      | succ i => exact h2 i (by simpa using hi)
    · intro h
      exact ⟨h 0 (by simp), fun i hi => h (i + 1) (by simpa using hi)⟩

theorem head_at {l : List Int} (h : 0 < l.length) : l.head? = some l[0] := by
  cases l with
  | nil => simp at h
  | cons x l => rfl

theorem CheckChain_spec {N : Int} {A B : Option Addr} {xs : List Arrow} {c d : Nat} {w : World} (h : HRel w N A xs c) (a b : Int) {l : List Int} (hr : Reads w B (ints l)) (hl : l.length ≤ 9223372036854775807) :
    CallsV C.P 19 #[relVal N A xs.length c, .int .i64 a, .int .i64 b, .slice B l.length d] w fun v w' => v = .bool (checkS N xs a b l) ∧ Ext w w' := by
  refine callsV_of C_ok (args := [_, _, _, _]) (plans := plans19) Try.func19 rfl Try.ntmps19 (by kernel_rfl) (Nat.le_of_ble_eq_true rfl) ?_
  intro g1 w1 h1
  have M1 := (Mem.start w).alloc h1
  refine ⟨[.int .i64 N, .slice A xs.length c], rfl, M1.rd 0 rfl, ?_⟩
  by_cases hv : chk N xs = 0
  · have hok := valid_of_chk hv
    have hN := hok.hi
    refine (open_yes (h.ext M1.ext) hok).mono ?_
    rintro v w2 ⟨g, rfl, hg, hw, he⟩
    have M2 := M1.grow he
    intro g3 w3 h3
    have M3 := M2.alloc h3
    refine (has_spec (xs := [a, b]) (hw.ext h3.ext) ⟨hok.lo, hok.hi⟩ (.inr ⟨g3, 0, rfl, M3.rd 0 rfl⟩) (by simp)).mono ?_
    rintro v w4 ⟨rfl, he4⟩
    have M4 := M3.grow he4
    rw [all2]
    refine brE_mk (fun hb => ?_) (fun hb => ?_)
    · rw [Bool.not_eq_true'] at hb
      exact ⟨by simp only [checkS, chainOk, hb, Bool.false_and, Bool.and_false], M4.ext⟩
    rw [Bool.not_eq_false'] at hb
    have hw4 := (hw.ext h3.ext).ext he4
    refine (has_spec (xs := l) hw4 ⟨hok.lo, hok.hi⟩ (hr.ext M4.ext) hl).mono ?_
    rintro v w5 ⟨rfl, he5⟩
    have M5 := M4.grow he5
    have hw5 := hw4.ext he5
    have hr5 := hr.ext M5.ext
    refine brE_mk (fun hb2 => ?_) (fun hb2 => ?_)
    · rw [Bool.not_eq_true'] at hb2
      exact ⟨by simp only [checkS, chainOk, hb2, Bool.and_false, Bool.false_and], M5.ext⟩
    rw [Bool.not_eq_false'] at hb2
    refine brE_dec (fun h2 => ?_) (fun h2 => ?_)
    · have h2 : l.length < 2 := by omega
      exact ⟨by simp only [checkS, chainOk, h2, decide_true, Bool.not_true, Bool.and_false, Bool.false_and], M5.ext⟩
    have h2 : 2 ≤ l.length := by omega
    obtain ⟨bb, oo, hB, hc0⟩ := Reads.int hr5 (i := 0) (by omega)
    refine ⟨0, bb, oo, rfl, by omega, hB, ?_⟩
    refine ⟨_, by simpa using hc0, ?_⟩
    have hhead := head_at (l := l) (by omega)
    refine brE_mk (fun hb3 => ?_) (fun hb3 => ?_)
    · have : l[0] ≠ a := by simpa using hb3
      exact ⟨by simp [checkS, chainOk, hhead, this], M5.ext⟩
    have hb3 : l[0] = a := by simpa using hb3
    obtain ⟨bb, oo, hB, hc1⟩ := Reads.int hr5 (i := l.length - 1) (by omega)
    refine ⟨((l.length - 1 : Nat) : Int), by rw [fit ⟨by omega, by omega⟩]; omega, ?_⟩
    refine ⟨l.length - 1, bb, oo, rfl, by omega, hB, ?_⟩
    refine ⟨_, by simpa using hc1, ?_⟩
    have hlast : l.getLast? = some l[l.length - 1] := by rw [List.getLast?_eq_getElem?]; simp
    refine brE_mk (fun hb4 => ?_) (fun hb4 => ?_)
    · have : l[l.length - 1] ≠ b := by simpa using hb4
      exact ⟨by simp [checkS, chainOk, hlast, this], M5.ext⟩
    have hb4 : l[l.length - 1] = b := by simpa using hb4
    have hfin : checkS N xs a b l = linksB (toM xs) l := by
      have h2' : ¬ l.length < 2 := by omega
      rw [checkS, chainOk, hb, hb2, hhead, hlast, hb3, hb4, hv]
      simp [h2']
    rw [hfin]
    refine loopE C_ok (fun (i : Nat) => [(3, .slice B l.length d), (9, .pointer (some ⟨g, 0, none⟩)), (11, .int .i64 i)])
      (fun i w' => Ext w w' ∧ Ext w5 w' ∧ 1 ≤ i ∧ i ≤ l.length ∧ ∀ j (hj : j + 1 < l.length), j + 1 < i → toM xs (l[j]).toNat (l[j + 1]).toNat = true) (fun i => l.length - i) 1 ⟨rfl, rfl, rfl, trivial⟩
      ⟨M5.ext, Ext.refl _, Nat.le_refl _, by omega, fun j hj hj1 => by omega⟩ ?_
    rintro i w6 ⟨E6, E56, hi1, hi, hall⟩
    refine brE_dec (fun hlt => ?_) (fun hge => ?_)
    · obtain ⟨i, rfl⟩ : ∃ k, i = k + 1 := ⟨i - 1, by omega⟩
      have hlt : i + 1 < l.length := by omega
      have hr6 := hr.ext E6
      obtain ⟨b1, o1, hB1, hc1⟩ := Reads.int hr6 (i := i) (by omega)
      obtain ⟨b2, o2, hB2, hc2⟩ := Reads.int hr6 (i := i + 1) hlt
      have in1 := List.all_eq_true.1 hb2 l[i] (List.getElem_mem _)
      have in2 := List.all_eq_true.1 hb2 l[i + 1] (List.getElem_mem _)
      obtain ⟨p, ep, hp⟩ := inR_nat in1
      obtain ⟨q, eq, hq⟩ := inR_nat in2
      rw [ep] at hc1
      rw [eq] at hc2
      refine ⟨(i : Int), by rw [fit ⟨by omega, by omega⟩]; omega, ?_⟩
      refine ⟨i, b1, o1, rfl, by omega, hB1, ?_⟩
      refine ⟨_, by simpa using hc1, ?_⟩
      refine ⟨i + 1, b2, o2, rfl, hlt, hB2, ?_⟩
      refine ⟨_, by simpa using hc2, ?_⟩
      refine ⟨p, rfl, by omega, ?_⟩
      refine ⟨q, rfl, by omega, ?_⟩
      refine ⟨_, (hw5.ext E56).to (by omega) (by omega), ?_⟩
      refine brE_mk (fun hb5 => ?_) (fun hb5 => ?_)
      · refine ⟨?_, E6⟩
        have : linksB (toM xs) l = false := by
          cases hx : linksB (toM xs) l with
          | false => rfl
          | true =>
            have := linksB_at.1 hx i hlt
            rw [ep, eq] at this
            simp at this
            rw [this] at hb5; cases hb5
        rw [this]
      · have hb5 : toM xs p q = true := by simpa using hb5
        refine ⟨((i + 1 + 1 : Nat) : Int), fit ⟨by omega, by omega⟩, ?_⟩
        refine ⟨i + 1 + 1, ⟨rfl, rfl, rfl, trivial⟩, ⟨E6, E56, by omega, hlt, fun j hj hj1 => ?_⟩, by omega⟩
        rcases Nat.lt_or_ge (j + 1) (i + 1) with h | h
        · exact hall j hj h
        · obtain rfl : j = i := by omega
          rw [ep, eq]; simpa using hb5
    · have : i = l.length := by omega
      subst this
      refine ⟨?_, E6⟩
      rw [linksB_at.2 fun j hj => hall j hj hj]
  · refine (open_no (h.ext M1.ext) hv).mono ?_
    rintro v w2 ⟨rfl, he⟩
    exact ⟨by simp [checkS, hv], (M1.grow he).ext⟩

end Go.Proofs.Ytdfhfehlmonjjaa
