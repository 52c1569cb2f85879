/- rank: Check. -/
import Derived.Test.YtdfhfehlmonjjaaRB
import Derived.Test.YtdfhfehlmonjjaaR0
namespace Go.Proofs.Ytdfhfehlmonjjaa
open Go.Eng Go.RowKit

def relVal (N : Int) (A : Option Addr) (n c : Nat) : Value := .agg #[.int .i64 N, .slice A n c]

/-- A relation that came in. -/
structure HRel (w : World) (N : Int) (A : Option Addr) (xs : List Arrow) (c : Nat) : Prop where
  num : In64 N
  nums : ∀ x ∈ xs, In64 x.fr ∧ In64 x.to ∧ In64 x.rule ∧ In64 x.wt
  reads : Reads w A (arrows xs)
  len : xs.length ≤ c
  cap : xs.length ≤ 9223372036854775807

theorem HRel.ext {w w' : World} {N : Int} {A : Option Addr} {xs : List Arrow} {c : Nat} (h : HRel w N A xs c) (e : Ext w w') : HRel w' N A xs c := ⟨h.num, h.nums, h.reads.ext e, h.len, h.cap⟩

theorem in_spec (n lo hi : Int) (w : World) : CallsV C.P 55 #[.int .i64 n, .int .i64 lo, .int .i64 hi] w fun v w' => v = .bool (decide (lo ≤ n ∧ n ≤ hi)) ∧ w' = w := by
  refine callsV_of C_ok (args := [_, _, _]) (plans := []) Try.func55 rfl Try.ntmps55 (by kernel_rfl) (Nat.le_of_ble_eq_true rfl) ?_
  refine brE_dec (fun h1 => ?_) (fun h1 => ?_)
  · refine ⟨?_, rfl⟩
    have h2 : lo ≤ n := h1
    simp [h2]
  · refine ⟨?_, rfl⟩
    have h2 : ¬ lo ≤ n := h1
    simp [h2]

theorem cell_of_Rd {w : World} {b o i : Nat} {cs : List Value} {v : Value} (h : Rd w b o cs) (hv : cs[i]? = some v) : w.cell? ⟨b, o + i, none⟩ = some v := h i v hv

theorem Check_spec {N : Int} {A : Option Addr} {xs : List Arrow} {c : Nat} {w : World} (h : HRel w N A xs c) : CallsV C.P 15 #[relVal N A xs.length c] w fun v w' => v = .int .i64 (chk N xs) ∧ Ext w w' := by
  have hlen := h.len
  have hcap := h.cap
  refine callsV_of C_ok (args := [_]) (plans := plans15) Try.func15 rfl Try.ntmps15 (by kernel_rfl) (Nat.le_of_ble_eq_true rfl) ?_
  intro g1 w1 h1
  have M1 := (Mem.start w).alloc h1
  refine ⟨_, M1.cell 0 rfl rfl, ?_⟩
  refine brE_dec (fun hN => ?_) (fun hN => ?_)
  · exact ⟨by rw [chk_big hN], M1.ext⟩
  refine ⟨_, M1.cell 0 rfl rfl, ?_⟩
  refine brE_dec (fun hN0 => ?_) (fun hN0 => ?_)
  · exact ⟨by rw [chk_neg hN hN0], M1.ext⟩
  refine ⟨_, M1.cell 0 rfl rfl, ?_⟩
  refine loopE C_ok (fun i : Nat => [(1, .pointer (some ⟨g1, 0, none⟩)), (12, .slice A xs.length c), (13, .int .i64 xs.length), (14, .int .i64 i)])
    (fun i w' => Mem w w' [(g1, .cells #[.int .i64 N, .slice A xs.length c] 24 (0, 0))] ∧ i ≤ xs.length ∧ ∀ j < i, okAt N xs j = true) (fun i => xs.length - i) 0 ⟨rfl, rfl, rfl, rfl, trivial⟩ ⟨M1, Nat.zero_le _, by simp⟩ ?_
  rintro i w2 ⟨M2, hi, hall⟩
  refine brE_dec (fun hlt => ?_) (fun hge => ?_)
  · have hlt : i < xs.length := by omega
    obtain ⟨b, o, hA, hr⟩ := Reads.arrow h.reads hlt
    refine ⟨i, b, o, rfl, hlt, hA, ?_⟩
    refine ⟨xs[i].cells, rfl, M2.oldRd hr, ?_⟩
    intro g3 w3 h3
    have M3 := M2.alloc h3
    refine ⟨rfl, _, _, M3.get 0 rfl, Nat.le_of_ble_eq_true rfl, rfl, ?_⟩
    intro w4 h4
    have M4 : Mem w w4 [(g3, .cells xs[i].cells.toArray 43 (0, 0)), (g1, .cells #[.int .i64 N, .slice A xs.length c] 24 (0, 0))] := M3.put 0 rfl h4
    have hbad : goodA N xs[i] = false → okAt N xs i = false := fun hb => by unfold okAt; simp [hlt, hb]
    have hN1 : IntKind.i64.wrap (N - 1) = N - 1 := fit ⟨by omega, by omega⟩
    refine ⟨_, M4.cell 0 rfl rfl, ?_⟩
    refine ⟨_, M4.cell 1 rfl rfl, ?_⟩
    refine ⟨_, hN1, ?_⟩
    refine (in_spec _ _ _ _).mono ?_
    rintro v w5 ⟨rfl, rfl⟩
    refine brE_mk (fun hb1 => ?_) (fun hb1 => ?_)
    · exact ⟨by rw [chk_bad hN hN0 hlt (hbad (by unfold goodA; rw [Bool.not_eq_true'] at hb1; simp only [hb1, Bool.false_and]))], M4.ext⟩
    refine ⟨_, M4.cell 0 rfl rfl, ?_⟩
    refine ⟨_, M4.cell 1 rfl rfl, ?_⟩
    refine ⟨_, hN1, ?_⟩
    refine (in_spec _ _ _ _).mono ?_
    rintro v w5 ⟨rfl, rfl⟩
    refine brE_mk (fun hb2 => ?_) (fun hb2 => ?_)
    · exact ⟨by rw [chk_bad hN hN0 hlt (hbad (by unfold goodA; rw [Bool.not_eq_true'] at hb2; simp only [hb2, Bool.and_false, Bool.false_and]))], M4.ext⟩
    refine ⟨_, M4.cell 0 rfl rfl, ?_⟩
    refine ⟨_, M4.cell 0 rfl rfl, ?_⟩
    refine brE_mk (fun hb3 => ?_) (fun hb3 => ?_)
    · exact ⟨by rw [chk_bad hN hN0 hlt (hbad (by unfold goodA; simp only [hb3, Bool.not_true, Bool.and_false, Bool.false_and]))], M4.ext⟩
    refine ⟨_, M4.cell 0 rfl rfl, ?_⟩
    refine (in_spec _ _ _ _).mono ?_
    rintro v w5 ⟨rfl, rfl⟩
    refine brE_mk (fun hb4 => ?_) (fun hb4 => ?_)
    · exact ⟨by rw [chk_bad hN hN0 hlt (hbad (by unfold goodA; rw [Bool.not_eq_true'] at hb4; simp only [hb4, Bool.and_false, Bool.false_and]))], M4.ext⟩
    refine ⟨_, M4.cell 0 rfl rfl, ?_⟩
    refine (in_spec _ _ _ _).mono ?_
    rintro v w5 ⟨rfl, rfl⟩
    refine brE_mk (fun hb5 => ?_) (fun hb5 => ?_)
    · exact ⟨by rw [chk_bad hN hN0 hlt (hbad (by unfold goodA; rw [Bool.not_eq_true'] at hb5; simp only [hb5, Bool.and_false]))], M4.ext⟩
    rw [Bool.not_eq_false'] at hb1 hb2 hb4 hb5
    have hgood : goodA N xs[i] = true := by unfold goodA; simp only [hb1, hb2, hb3, hb4, hb5, Bool.not_false, Bool.and_self]
    refine brE_dec (fun hi0 => ?_) (fun hi0 => ?_)
    · obtain ⟨j, rfl⟩ : ∃ j, i = j + 1 := ⟨i - 1, by omega⟩
      have hj : j < xs.length := by omega
      obtain ⟨b', o', hA', hr'⟩ := Reads.arrow h.reads hj
      refine ⟨_, M4.cell 1 rfl rfl, ?_⟩
      refine ⟨(j : Int), by rw [fit ⟨by omega, by omega⟩]; omega, ?_⟩
      refine ⟨j, b', o', rfl, hj, hA', ?_⟩
      refine ⟨xs[j].cells, rfl, M4.oldRd hr', ?_⟩
      refine ⟨xs[j + 1].cells, rfl, M4.rd 0 rfl, ?_⟩
      refine (compareArrows_spec xs[j] xs[j + 1] _).mono ?_
      rintro v w5 ⟨rfl, he⟩
      have M5 := M4.grow he
      refine brE_dec (fun hc => ?_) (fun hc => ?_)
      · have := (cmpA_neg xs[j] xs[j + 1]).1 hc
        exact ⟨by rw [chk_bad hN hN0 hlt (by unfold okAt; simp [hlt, hj, this])], M5.ext⟩
      · have hlt2 : ltA xs[j] xs[j + 1] = true := by
          cases hl : ltA xs[j] xs[j + 1] with
          | true => rfl
          | false => exact absurd ((cmpA_neg _ _).2 hl) hc
        refine ⟨((j + 1 + 1 : Nat) : Int), fit ⟨by omega, by omega⟩, ?_⟩
        refine ⟨j + 1 + 1, ⟨rfl, rfl, rfl, rfl, trivial⟩, ⟨M5.tail, hlt, fun k hk => ?_⟩, by omega⟩
        rcases Nat.lt_or_ge k (j + 1) with h | h
        · exact hall k h
        · obtain rfl : k = j + 1 := by omega
          unfold okAt; simp [hlt, hj, hgood, hlt2]
    · obtain rfl : i = 0 := by omega
      refine ⟨((0 + 1 : Nat) : Int), fit ⟨by omega, by omega⟩, ?_⟩
      refine ⟨0 + 1, ⟨rfl, rfl, rfl, rfl, trivial⟩, ⟨M4.tail, hlt, fun k hk => ?_⟩, by omega⟩
      obtain rfl : k = 0 := by omega
      unfold okAt; simp [hlt, hgood]
  · have : i = xs.length := by omega
    subst this
    exact ⟨by rw [chk_ok hN hN0 hall], M2.ext⟩

end Go.Proofs.Ytdfhfehlmonjjaa
