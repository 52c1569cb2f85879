/- rank: comparing arrows, checking a relation. -/
import Derived.Test.YtdfhfehlmonjjaaTab
import Derived.Test.YtdfhfehlmonjjaaE5
namespace Go.Proofs.Ytdfhfehlmonjjaa
open Go.Eng Go.RowKit

/-- The numbers of Go that fit. -/
abbrev In64 (n : Int) : Prop := -9223372036854775808 ≤ n ∧ n ≤ 9223372036854775807
theorem fit {n : Int} (h : In64 n) : IntKind.i64.wrap n = n := IntWalk.i64_in n h

theorem isNaN_spec (n : Int) (w : World) : CallsV C.P 92 #[.int .i64 n] w fun v w' => v = .bool false ∧ w' = w := by
  refine callsV_of C_ok (args := [_]) (plans := []) Try.func92 rfl Try.ntmps92 (by kernel_rfl) (Nat.le_of_ble_eq_true rfl) ?_
  refine ⟨?_, rfl⟩
  simp

def cmpI (a b : Int) : Int := if a < b then -1 else if a > b then 1 else 0

theorem Compare_spec (a b : Int) (w : World) : CallsV C.P 81 #[.int .i64 a, .int .i64 b] w fun v w' => v = .int .i64 (cmpI a b) ∧ w' = w := by
  refine callsV_of C_ok (args := [_, _]) (plans := []) Try.func81 rfl Try.ntmps81 (by kernel_rfl) (Nat.le_of_ble_eq_true rfl) ?_
  refine (isNaN_spec a w).mono ?_
  rintro v w1 ⟨rfl, rfl⟩
  refine (isNaN_spec b _).mono ?_
  rintro v w1 ⟨rfl, rfl⟩
  refine brE_dec (fun h1 => ?_) (fun h1 => ?_)
  · refine ⟨?_, rfl⟩
    simp [cmpI, h1]
  · refine brE_dec (fun h2 => ?_) (fun h2 => ?_)
    · refine ⟨?_, rfl⟩
      simp [cmpI, h1, h2]
    · refine ⟨?_, rfl⟩
      simp [cmpI, h1, h2]

def ints (xs : List Int) : List Value := xs.map (.int .i64 ·)

theorem Reads.int {w : World} {A : Option Addr} {xs : List Int} (h : Reads w A (ints xs)) {i : Nat} (hi : i < xs.length) : ∃ b o, A = some ⟨b, o, none⟩ ∧ w.cell? ⟨b, o + i, none⟩ = some (.int .i64 xs[i]) := by
  rcases h with h | ⟨b, o, hA, hr⟩
  · have : xs.length = 0 := by have := congrArg List.length h; simpa [ints] using this
    omega
  · exact ⟨b, o, hA, hr i _ (by simp [ints, hi])⟩

def orI : List Int → Int
  | [] => 0
  | x :: xs => if x ≠ 0 then x else orI xs

theorem orI_drop {xs : List Int} {i : Nat} (hi : i < xs.length) : orI (xs.drop i) = if xs[i] ≠ 0 then xs[i] else orI (xs.drop (i + 1)) := by
  rw [List.drop_eq_getElem_cons hi, orI]

theorem Or_spec (A : Option Addr) (c : Nat) (xs : List Int) (w : World) (hr : Reads w A (ints xs)) (hl : xs.length ≤ 2 ^ 47) : CallsV C.P 80 #[.slice A xs.length c] w fun v w' => v = .int .i64 (orI xs) ∧ w' = w := by
  refine callsV_of C_ok (args := [_]) (plans := []) Try.func80 rfl Try.ntmps80 (by kernel_rfl) (Nat.le_of_ble_eq_true rfl) ?_
  refine loopE C_ok (fun i : Nat => [(3, .int .i64 0), (6, .slice A xs.length c), (7, .int .i64 xs.length), (8, .int .i64 i)]) (fun i w' => w' = w ∧ i ≤ xs.length ∧ orI (xs.drop i) = orI xs) (fun i => xs.length - i) 0 ⟨rfl, rfl, rfl, rfl, trivial⟩ ⟨rfl, Nat.zero_le _, rfl⟩ ?_
  rintro i w' ⟨rfl, hi, hor⟩
  refine brE_dec (fun h1 => ?_) (fun h1 => ?_)
  · have hlt : i < xs.length := by omega
    obtain ⟨b, o, hA, hc⟩ := Reads.int hr hlt
    have hd := orI_drop hlt
    refine ⟨i, b, o, rfl, hlt, hA, ?_⟩
    refine ⟨_, by simpa using hc, ?_⟩
    refine brE_mk (fun h2 => ?_) (fun h2 => ?_)
    · refine ⟨?_, rfl⟩
      have : xs[i] ≠ 0 := by simpa using h2
      rw [← hor, hd, if_pos this]
    · refine ⟨((i + 1 : Nat) : Int), by exact fit ⟨by omega, by omega⟩, ?_⟩
      have : xs[i] = 0 := by simpa using h2
      exact ⟨i + 1, ⟨rfl, rfl, rfl, rfl, trivial⟩, ⟨rfl, hlt, by rw [← hor, hd, if_neg (by simp [this])]⟩, by omega⟩
  · refine ⟨?_, rfl⟩
    have : i = xs.length := by omega
    subst this
    rw [← hor]; simp [orI]

end Go.Proofs.Ytdfhfehlmonjjaa
