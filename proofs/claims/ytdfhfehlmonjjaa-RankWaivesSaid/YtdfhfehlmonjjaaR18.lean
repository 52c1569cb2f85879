/- The laws' functions: huge, RankStands, RankTransitive. -/
import Derived.Test.YtdfhfehlmonjjaaR17
namespace Go.Proofs.Ytdfhfehlmonjjaa
open Go.Eng Go.RowKit

theorem huge_spec {N : Int} {A : Option Addr} {xs : List Arrow} {c : Nat} (w : World) : CallsV C.P 14 #[relVal N A xs.length c] w fun v w' => v = .bool (decide ((xs.length : Int) > 600)) ∧ Ext w w' := by
  refine callsV_of C_ok (args := [_]) (plans := []) Try.func14 rfl Try.ntmps14 (by kernel_rfl) (Nat.le_of_ble_eq_true rfl) ?_
  intro g1 w1 h1
  have M1 := (Mem.start w).alloc h1
  refine ⟨_, M1.cell 0 rfl rfl, ?_⟩
  exact ⟨rfl, M1.ext⟩

theorem neqBool (x y : Operand) (a b : Bool) : EqIs C.P .neq 4 x y (.bool a) (.bool b) (a != b) := by
  intro w
  have hu : C.P.underlying 4 = some .bool := under4
  have h1 : (eqGuard .neq 4 x y (.bool a) (.bool b)).run C.P w = .ok () w := by simp [eqGuard]
  rw [Sem.run_bind, h1]
  simp only [Result.andThen_ok]
  have h2 := run_equalIn_bool' (P := C.P) w 9999 4 a b hu
  simp only [binOp]
  simp [Op.equal, Op.maxDepth, h2]
  cases a <;> cases b <;> rfl

theorem Chain_flag {N : Int} {A : Option Addr} {xs : List Arrow} {c : Nat} {w : World} (h : HRel w N A xs c) (hv : chk N xs = 0) {a b : Nat} (ha : (a : Int) < N) (hb : (b : Int) < N) :
    CallsV C.P 18 #[relVal N A xs.length c, .int .i64 a, .int .i64 b] w fun v w' => (∃ s, v = .tuple #[s, .bool (reach (toM xs) a b)]) ∧ Ext w w' := by
  refine (Chain_spec h a b).mono ?_
  rintro v w1 hc
  have hin : (inR N a && inR N b) = true := by simp; omega
  cases hr : reach (toM xs) a b with
  | false =>
    have e : chainS N xs a b = none := by rw [chainS, if_neg]; rintro ⟨_, _, h3⟩; rw [show (a : Int).toNat = a from rfl, show (b : Int).toNat = b from rfl, hr] at h3; cases h3
    rw [e] at hc
    exact ⟨⟨_, hc.1⟩, hc.2⟩
  | true =>
    have e : chainS N xs a b = some (chainL (toM xs) a b) := by rw [chainS, if_pos ⟨hv, hin, hr⟩]; rfl
    rw [e] at hc
    obtain ⟨⟨s, hs, _⟩, he⟩ := hc
    exact ⟨⟨s, hs⟩, he⟩

theorem Standing_at {N : Int} {A : Option Addr} {xs : List Arrow} {c : Nat} {w : World} (h : HRel w N A xs c) (hv : chk N xs = 0) {a b : Nat} (ha : (a : Int) < N) (hb : (b : Int) < N) :
    CallsV C.P 17 #[relVal N A xs.length c, .int .i64 a, .int .i64 b] w fun v w' => v = .int .u8 (standR (reach (toM xs)) a b) ∧ Ext w w' := by
  refine (Standing_spec h a b).mono ?_
  rintro v w1 ⟨hs, he⟩
  have hin : (inR N a && inR N b) = true := by simp; omega
  rw [standS, if_pos hv, if_pos hin] at hs
  exact ⟨hs, he⟩

theorem RankStands_spec {N : Int} {A : Option Addr} {xs : List Arrow} {c : Nat} {w : World} (h : HRel w N A xs c) : CallsV C.P 3 #[relVal N A xs.length c] w fun v w' => v = .bool true ∧ Ext w w' := by
  refine callsV_of C_ok (args := [_]) (plans := []) Try.func3 rfl Try.ntmps3 (by kernel_rfl) (Nat.le_of_ble_eq_true rfl) ?_
  intro g1 w1 h1
  have M1 := (Mem.start w).alloc h1
  refine ⟨[.int .i64 N, .slice A xs.length c], rfl, M1.rd 0 rfl, ?_⟩
  refine (huge_spec w1).mono ?_
  rintro v w2 ⟨rfl, e2⟩
  have M2 := M1.grow e2
  have stop : ∀ {w' : World}, Ext w w' → CallsV C.P 16 #[] w' fun v w'' => v = .bool true ∧ Ext w w'' := fun e => (stands_spec _).mono fun v w'' hh => ⟨hh.1, e.trans hh.2⟩
  refine brE_mk (fun hh => ?_) (fun hh => ?_)
  · exact stop M2.ext
  refine ⟨[.int .i64 N, .slice A xs.length c], rfl, M2.rd 0 rfl, ?_⟩
  refine (Check_spec (h.ext M2.ext)).mono ?_
  rintro v w3 ⟨rfl, e3⟩
  have M3 := M2.grow e3
  refine brE_mk (fun hb => ?_) (fun hb => ?_)
  · exact stop M3.ext
  have hv : chk N xs = 0 := by simpa using hb
  have hok := valid_of_chk hv
  have hlo := hok.lo
  have hhi := hok.hi
  refine loopE C_ok (fun (a : Nat) => [(1, .pointer (some ⟨g1, 0, none⟩)), (3, .int .i64 a)])
    (fun a w' => a ≤ N ∧ Mem w w' [(g1, .cells #[.int .i64 N, .slice A xs.length c] 24 (0, 0))]) (fun a => N.toNat - a) 0 ⟨rfl, rfl, trivial⟩ ⟨hlo, M3⟩ ?_
  rintro a w4 ⟨ha, M4⟩
  refine ⟨_, M4.cell 0 rfl rfl, ?_⟩
  refine brE_dec (fun hlt => ?_) (fun hge => ?_)
  · refine loopE C_ok (fun (b : Nat) => [(1, .pointer (some ⟨g1, 0, none⟩)), (3, .int .i64 a), (4, .int .i64 b)])
      (fun b w' => b ≤ N ∧ Mem w w' [(g1, .cells #[.int .i64 N, .slice A xs.length c] 24 (0, 0))]) (fun b => N.toNat - b) 0 ⟨rfl, rfl, rfl, trivial⟩ ⟨hlo, M4⟩ ?_
    rintro b w5 ⟨hb5, M5⟩
    refine ⟨_, M5.cell 0 rfl rfl, ?_⟩
    refine brE_dec (fun hlt2 => ?_) (fun hge2 => ?_)
    · have next : IntKind.i64.wrap ((b : Int) + 1) = ((b + 1 : Nat) : Int) := fit ⟨by omega, by omega⟩
      by_cases hab : a = b
      · subst hab
        have k0 : standR (reach (toM xs)) a a = 0 := by simp [standR]
        refine ⟨[.int .i64 N, .slice A xs.length c], rfl, M5.rd 0 rfl, ?_⟩
        refine (Standing_at (h.ext M5.ext) hv hlt hlt2).mono ?_
        rintro v w6 ⟨hs6, e6⟩
        rw [k0] at hs6
        subst hs6
        have M6 := M5.grow e6
        refine ⟨[.int .i64 N, .slice A xs.length c], rfl, M6.rd 0 rfl, ?_⟩
        refine (Standing_at (h.ext M6.ext) hv hlt2 hlt).mono ?_
        rintro v w7 ⟨hs7, e7⟩
        rw [k0] at hs7
        subst hs7
        have M7 := M6.grow e7
        refine ⟨[.int .i64 N, .slice A xs.length c], rfl, M7.rd 0 rfl, ?_⟩
        refine (Chain_flag (h.ext M7.ext) hv hlt hlt2).mono ?_
        rintro v w8 ⟨⟨s8, hs8⟩, e8⟩
        subst hs8
        have M8 := M7.grow e8
        refine ⟨[.int .i64 N, .slice A xs.length c], rfl, M8.rd 0 rfl, ?_⟩
        refine (Chain_flag (h.ext M8.ext) hv hlt2 hlt).mono ?_
        rintro v w9 ⟨⟨s9, hs9⟩, e9⟩
        subst hs9
        have M9 := M8.grow e9
        refine brE_false (by simp) ?_
        refine brE_false (by simp) ?_
        refine brE_false (by simp) ?_
        refine ⟨_, neqBool _ _ _ _, ?_⟩
        refine ⟨_, neqBool _ _ _ _, ?_⟩
        refine ⟨_, next, ?_⟩
        exact ⟨a + 1, ⟨rfl, rfl, rfl, trivial⟩, ⟨by omega, M9⟩, by omega⟩
      · have hne : (!decide ((a : Int) = (b : Int))) = true := by simp; omega
        have hba : ¬ b = a := fun e => hab e.symm
        cases r1 : reach (toM xs) a b <;> cases r2 : reach (toM xs) b a
        · have k1 : standR (reach (toM xs)) a b = 0 := by simp [standR, hab, r1, r2]
          have k2 : standR (reach (toM xs)) b a = 0 := by simp [standR, hba, r1, r2]
          refine ⟨[.int .i64 N, .slice A xs.length c], rfl, M5.rd 0 rfl, ?_⟩
          refine (Standing_at (h.ext M5.ext) hv hlt hlt2).mono ?_
          rintro v w6 ⟨hs6, e6⟩
          rw [k1] at hs6
          subst hs6
          have M6 := M5.grow e6
          refine ⟨[.int .i64 N, .slice A xs.length c], rfl, M6.rd 0 rfl, ?_⟩
          refine (Standing_at (h.ext M6.ext) hv hlt2 hlt).mono ?_
          rintro v w7 ⟨hs7, e7⟩
          rw [k2] at hs7
          subst hs7
          have M7 := M6.grow e7
          refine ⟨[.int .i64 N, .slice A xs.length c], rfl, M7.rd 0 rfl, ?_⟩
          refine (Chain_flag (h.ext M7.ext) hv hlt hlt2).mono ?_
          rintro v w8 ⟨⟨s8, hs8⟩, e8⟩
          rw [r1] at hs8
          subst hs8
          have M8 := M7.grow e8
          refine ⟨[.int .i64 N, .slice A xs.length c], rfl, M8.rd 0 rfl, ?_⟩
          refine (Chain_flag (h.ext M8.ext) hv hlt2 hlt).mono ?_
          rintro v w9 ⟨⟨s9, hs9⟩, e9⟩
          rw [r2] at hs9
          subst hs9
          have M9 := M8.grow e9
          refine brE_true hne ?_
          refine brE_true hne ?_
          refine brE_true hne ?_
          refine ⟨_, neqBool _ _ _ _, ?_⟩
          refine ⟨_, neqBool _ _ _ _, ?_⟩
          refine ⟨_, next, ?_⟩
          exact ⟨b + 1, ⟨rfl, rfl, rfl, trivial⟩, ⟨by omega, M9⟩, by omega⟩
        · have k1 : standR (reach (toM xs)) a b = 2 := by simp [standR, hab, r1, r2]
          have k2 : standR (reach (toM xs)) b a = 1 := by simp [standR, hba, r1, r2]
          refine ⟨[.int .i64 N, .slice A xs.length c], rfl, M5.rd 0 rfl, ?_⟩
          refine (Standing_at (h.ext M5.ext) hv hlt hlt2).mono ?_
          rintro v w6 ⟨hs6, e6⟩
          rw [k1] at hs6
          subst hs6
          have M6 := M5.grow e6
          refine ⟨[.int .i64 N, .slice A xs.length c], rfl, M6.rd 0 rfl, ?_⟩
          refine (Standing_at (h.ext M6.ext) hv hlt2 hlt).mono ?_
          rintro v w7 ⟨hs7, e7⟩
          rw [k2] at hs7
          subst hs7
          have M7 := M6.grow e7
          refine ⟨[.int .i64 N, .slice A xs.length c], rfl, M7.rd 0 rfl, ?_⟩
          refine (Chain_flag (h.ext M7.ext) hv hlt hlt2).mono ?_
          rintro v w8 ⟨⟨s8, hs8⟩, e8⟩
          rw [r1] at hs8
          subst hs8
          have M8 := M7.grow e8
          refine ⟨[.int .i64 N, .slice A xs.length c], rfl, M8.rd 0 rfl, ?_⟩
          refine (Chain_flag (h.ext M8.ext) hv hlt2 hlt).mono ?_
          rintro v w9 ⟨⟨s9, hs9⟩, e9⟩
          rw [r2] at hs9
          subst hs9
          have M9 := M8.grow e9
          refine brE_true hne ?_
          refine brE_true hne ?_
          refine brE_true hne ?_
          refine ⟨_, neqBool _ _ _ _, ?_⟩
          refine ⟨_, neqBool _ _ _ _, ?_⟩
          refine ⟨_, next, ?_⟩
          exact ⟨b + 1, ⟨rfl, rfl, rfl, trivial⟩, ⟨by omega, M9⟩, by omega⟩
        · have k1 : standR (reach (toM xs)) a b = 1 := by simp [standR, hab, r1, r2]
          have k2 : standR (reach (toM xs)) b a = 2 := by simp [standR, hba, r1, r2]
          refine ⟨[.int .i64 N, .slice A xs.length c], rfl, M5.rd 0 rfl, ?_⟩
          refine (Standing_at (h.ext M5.ext) hv hlt hlt2).mono ?_
          rintro v w6 ⟨hs6, e6⟩
          rw [k1] at hs6
          subst hs6
          have M6 := M5.grow e6
          refine ⟨[.int .i64 N, .slice A xs.length c], rfl, M6.rd 0 rfl, ?_⟩
          refine (Standing_at (h.ext M6.ext) hv hlt2 hlt).mono ?_
          rintro v w7 ⟨hs7, e7⟩
          rw [k2] at hs7
          subst hs7
          have M7 := M6.grow e7
          refine ⟨[.int .i64 N, .slice A xs.length c], rfl, M7.rd 0 rfl, ?_⟩
          refine (Chain_flag (h.ext M7.ext) hv hlt hlt2).mono ?_
          rintro v w8 ⟨⟨s8, hs8⟩, e8⟩
          rw [r1] at hs8
          subst hs8
          have M8 := M7.grow e8
          refine ⟨[.int .i64 N, .slice A xs.length c], rfl, M8.rd 0 rfl, ?_⟩
          refine (Chain_flag (h.ext M8.ext) hv hlt2 hlt).mono ?_
          rintro v w9 ⟨⟨s9, hs9⟩, e9⟩
          rw [r2] at hs9
          subst hs9
          have M9 := M8.grow e9
          refine brE_true hne ?_
          refine brE_true hne ?_
          refine ⟨_, neqBool _ _ _ _, ?_⟩
          refine ⟨_, neqBool _ _ _ _, ?_⟩
          refine ⟨_, next, ?_⟩
          exact ⟨b + 1, ⟨rfl, rfl, rfl, trivial⟩, ⟨by omega, M9⟩, by omega⟩
        · have k1 : standR (reach (toM xs)) a b = 3 := by simp [standR, hab, r1, r2]
          have k2 : standR (reach (toM xs)) b a = 3 := by simp [standR, hba, r1, r2]
          refine ⟨[.int .i64 N, .slice A xs.length c], rfl, M5.rd 0 rfl, ?_⟩
          refine (Standing_at (h.ext M5.ext) hv hlt hlt2).mono ?_
          rintro v w6 ⟨hs6, e6⟩
          rw [k1] at hs6
          subst hs6
          have M6 := M5.grow e6
          refine ⟨[.int .i64 N, .slice A xs.length c], rfl, M6.rd 0 rfl, ?_⟩
          refine (Standing_at (h.ext M6.ext) hv hlt2 hlt).mono ?_
          rintro v w7 ⟨hs7, e7⟩
          rw [k2] at hs7
          subst hs7
          have M7 := M6.grow e7
          refine ⟨[.int .i64 N, .slice A xs.length c], rfl, M7.rd 0 rfl, ?_⟩
          refine (Chain_flag (h.ext M7.ext) hv hlt hlt2).mono ?_
          rintro v w8 ⟨⟨s8, hs8⟩, e8⟩
          rw [r1] at hs8
          subst hs8
          have M8 := M7.grow e8
          refine ⟨[.int .i64 N, .slice A xs.length c], rfl, M8.rd 0 rfl, ?_⟩
          refine (Chain_flag (h.ext M8.ext) hv hlt2 hlt).mono ?_
          rintro v w9 ⟨⟨s9, hs9⟩, e9⟩
          rw [r2] at hs9
          subst hs9
          have M9 := M8.grow e9
          refine brE_true hne ?_
          refine ⟨_, neqBool _ _ _ _, ?_⟩
          refine ⟨_, neqBool _ _ _ _, ?_⟩
          refine ⟨_, next, ?_⟩
          exact ⟨b + 1, ⟨rfl, rfl, rfl, trivial⟩, ⟨by omega, M9⟩, by omega⟩
    · refine ⟨((a + 1 : Nat) : Int), fit ⟨by omega, by omega⟩, ?_⟩
      exact ⟨a + 1, ⟨rfl, rfl, trivial⟩, ⟨by omega, M5⟩, by omega⟩
  · exact stop M4.ext

end Go.Proofs.Ytdfhfehlmonjjaa
