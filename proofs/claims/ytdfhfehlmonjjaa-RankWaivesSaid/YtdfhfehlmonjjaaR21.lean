/- The law's function: RankSettles. -/
import Derived.Test.YtdfhfehlmonjjaaR20
namespace Go.Proofs.Ytdfhfehlmonjjaa
open Go.Eng Go.RowKit

theorem settled_facts {N : Int} {xs : List Arrow} (h : settledB N xs = true) : chk N xs = 0 ∧ unsetL N xs = [] ∧ (settledL N xs).length = N ∧ ∀ i k (hi : i < (settledL N xs).length) (hk : k < (settledL N xs).length), i < k → standS N xs (settledL N xs)[i] (settledL N xs)[k] = 1 := by
  have h0 := h
  unfold settledB at h
  simp only [Bool.and_eq_true, decide_eq_true_eq] at h
  obtain ⟨hv, hu⟩ := h
  have hok := valid_of_chk hv
  have hlo := hok.lo
  have hhi := hok.hi
  have P := pre_reach (by omega : N.toNat ≤ 24) hok.inside
  have hl : settledL N xs = (compsL N.toNat (reach (toM xs))).flatten := by rw [settledL, if_pos h0, compsV, if_pos hv]
  have hu' : pairsL N.toNat (unsetB (reach (toM xs))) = [] := by rw [unsetL, if_pos hv] at hu; exact hu
  obtain ⟨h1, h2⟩ := P.settled hu'
  refine ⟨hv, hu, by rw [hl, h1]; omega, ?_⟩
  rw [hl]
  intro i k hi hk hik
  obtain ⟨a, b, ea, eb, ha, hb, hs⟩ := (List.pairwise_iff_getElem.1 h2) i k hi hk hik
  rw [ea, eb]
  refine standS_one.2 ⟨hv, ?_, ?_, hs⟩
  · simp; omega
  · simp; omega

theorem settledL_no {N : Int} {xs : List Arrow} (h : settledB N xs = false) : settledL N xs = [] := by rw [settledL, h]; rfl

theorem RankSettles_spec {N : Int} {A : Option Addr} {xs : List Arrow} {c : Nat} {w : World} (h : HRel w N A xs c) :
    CallsV C.P 6 #[relVal N A xs.length c] w fun v w' => v = .bool true ∧ Ext w w' := by
  refine callsV_of C_ok (args := [_]) (plans := plans6) Try.func6 rfl Try.ntmps6 (by kernel_rfl) (Nat.le_of_ble_eq_true rfl) ?_
  intro g1 w1 h1
  have M1 := (Mem.start w).alloc h1
  refine ⟨[.int .i64 N, .slice A xs.length c], rfl, M1.rd 0 rfl, ?_⟩
  refine (huge_spec w1).mono ?_
  rintro v w2 ⟨rfl, e2⟩
  have M2 := M1.grow e2
  have stop : ∀ {w' : World}, Ext w w' → CallsV C.P 16 #[] w' fun v w'' => v = .bool true ∧ Ext w w'' := fun e => (stands_spec _).mono fun v w'' hh => ⟨hh.1, e.trans hh.2⟩
  refine brE_mk (fun _ => ?_) (fun _ => ?_)
  · exact stop M2.ext
  refine ⟨[.int .i64 N, .slice A xs.length c], rfl, M2.rd 0 rfl, ?_⟩
  refine (Settled_spec (h.ext M2.ext)).mono ?_
  rintro v w3 ⟨⟨u3, hv3, hl3⟩, e3⟩
  have M3 := M2.grow e3
  cases hs : settledB N xs with
  | true =>
    rw [hs] at hv3
    subst hv3
    obtain ⟨hv, hu, hlen, hpair⟩ := settled_facts hs
    generalize settledL N xs = l at hl3 hlen hpair
    obtain ⟨A3, c3, rfl, hr3, _⟩ := hl3.slice
    refine ⟨[.int .i64 N, .slice A xs.length c], rfl, M3.rd 0 rfl, ?_⟩
    refine (Unsettled_spec (h.ext M3.ext)).mono ?_
    rintro v w4 ⟨⟨u4, hv4, hp4⟩, e4⟩
    rw [hv] at hv4
    subst hv4
    rw [hu] at hp4
    obtain ⟨A4, c4, rfl, _, _⟩ := reads_of_owns hp4
    have M4 := M3.grow e4
    refine ⟨_, neqBool _ _ _ _, ?_⟩
    refine ⟨_, M4.cell 0 rfl rfl, ?_⟩
    refine brE_mk (fun hb => ?_) (fun _ => ?_)
    · exfalso
      have : ¬ (l.length : Int) = N := by simpa using hb
      exact this hlen
    have hlo := (valid_of_chk hv).lo
    have hhi := (valid_of_chk hv).hi
    refine loopE C_ok (fun (i : Nat) => [(1, .pointer (some ⟨g1, 0, none⟩)), (3, .slice A3 l.length c3), (7, .int .i64 i)])
      (fun i w' => i ≤ l.length ∧ Mem w3 w' [] ∧ Mem w w' [(g1, .cells #[.int .i64 N, .slice A xs.length c] 24 (0, 0))]) (fun i => l.length - i) 0 ⟨rfl, rfl, rfl, trivial⟩ ⟨Nat.zero_le _, (Mem.start w3).grow e4, M4⟩ ?_
    rintro i w5 ⟨hi, K5, M5⟩
    refine brE_dec (fun hlt => ?_) (fun hge => ?_)
    · have hlt : i < l.length := by omega
      refine ⟨((i + 1 : Nat) : Int), fit ⟨by omega, by omega⟩, ?_⟩
      refine loopE C_ok (fun (k : Nat) => [(1, .pointer (some ⟨g1, 0, none⟩)), (3, .slice A3 l.length c3), (7, .int .i64 i), (8, .int .i64 k)])
        (fun k w' => i + 1 ≤ k ∧ k ≤ l.length ∧ Mem w3 w' [] ∧ Mem w w' [(g1, .cells #[.int .i64 N, .slice A xs.length c] 24 (0, 0))]) (fun k => l.length - k) (i + 1) ⟨rfl, rfl, rfl, rfl, trivial⟩ ⟨Nat.le_refl _, hlt, K5, M5⟩ ?_
      rintro k w6 ⟨hik, hk, K6, M6⟩
      refine brE_dec (fun hlt2 => ?_) (fun hge2 => ?_)
      · have hlt2 : k < l.length := by omega
        obtain ⟨b1, o1, hA, hc1⟩ := Reads.int (hr3.ext K6.ext) hlt
        obtain ⟨b2, o2, hB, hc2⟩ := Reads.int (hr3.ext K6.ext) hlt2
        refine ⟨[.int .i64 N, .slice A xs.length c], rfl, M6.rd 0 rfl, ?_⟩
        refine ⟨i, b1, o1, rfl, hlt, hA, ?_⟩
        refine ⟨_, by simpa using hc1, ?_⟩
        refine ⟨k, b2, o2, rfl, hlt2, hB, ?_⟩
        refine ⟨_, by simpa using hc2, ?_⟩
        refine (Standing_spec (h.ext M6.ext) l[i] l[k]).mono ?_
        rintro v w7 ⟨hv7, e7⟩
        rw [hpair i k hlt hlt2 (by omega)] at hv7
        subst hv7
        refine ⟨((k + 1 : Nat) : Int), fit ⟨by omega, by omega⟩, ?_⟩
        exact ⟨k + 1, ⟨rfl, rfl, rfl, rfl, trivial⟩, ⟨by omega, hlt2, K6.grow e7, M6.grow e7⟩, by omega⟩
      · refine ⟨((i + 1 : Nat) : Int), fit ⟨by omega, by omega⟩, ?_⟩
        exact ⟨i + 1, ⟨rfl, rfl, rfl, trivial⟩, ⟨hlt, K6, M6⟩, by omega⟩
    · exact stop M5.ext
  | false =>
    rw [hs] at hv3
    subst hv3
    rw [settledL_no hs] at hl3
    obtain ⟨A3, c3, rfl, _, _⟩ := hl3.slice
    refine ⟨[.int .i64 N, .slice A xs.length c], rfl, M3.rd 0 rfl, ?_⟩
    refine (Unsettled_spec (h.ext M3.ext)).mono ?_
    rintro v w4 ⟨⟨u4, rfl, hp4⟩, e4⟩
    have M4 := M3.grow e4
    obtain ⟨A4, c4, rfl, _, _⟩ := reads_of_owns hp4
    have hno : ¬ (chk N xs = 0 ∧ unsetL N xs = []) := by
      intro ⟨h3, h4⟩
      have : settledB N xs = true := by simp [settledB, h3, h4]
      rw [hs] at this; cases this
    refine brE_dec (fun hv => ?_) (fun _ => ?_)
    · have hne : ¬ unsetL N xs = [] := fun e => hno ⟨hv, e⟩
      have hlen : decide (((unsetL N xs).length : Int) = 0) = false := by
        rw [decide_eq_false_iff_not]
        intro e
        exact hne (List.length_eq_zero_iff.1 (by omega))
      refine ⟨_, neqBool _ _ _ _, ?_⟩
      refine brE_mk (fun hb => ?_) (fun _ => ?_)
      · exfalso
        have hb : (false != decide (((unsetL N xs).length : Int) = 0)) = true := hb
        rw [hlen] at hb; cases hb
      · refine loopE C_ok (fun (i : Nat) => [(1, .pointer (some ⟨g1, 0, none⟩)), (3, .slice A3 0 c3), (7, .int .i64 i)])
          (fun i w' => i ≤ 0 ∧ Ext w w') (fun i => 0 - i) 0 ⟨rfl, rfl, rfl, trivial⟩ ⟨Nat.le_refl _, M4.ext⟩ ?_
        rintro i w5 ⟨hi, e5⟩
        obtain rfl : i = 0 := by omega
        exact stop e5
    · refine ⟨_, neqBool _ _ _ _, ?_⟩
      refine loopE C_ok (fun (i : Nat) => [(1, .pointer (some ⟨g1, 0, none⟩)), (3, .slice A3 0 c3), (7, .int .i64 i)])
        (fun i w' => i ≤ 0 ∧ Ext w w') (fun i => 0 - i) 0 ⟨rfl, rfl, rfl, trivial⟩ ⟨Nat.le_refl _, M4.ext⟩ ?_
      rintro i w5 ⟨hi, e5⟩
      obtain rfl : i = 0 := by omega
      exact stop e5

end Go.Proofs.Ytdfhfehlmonjjaa
