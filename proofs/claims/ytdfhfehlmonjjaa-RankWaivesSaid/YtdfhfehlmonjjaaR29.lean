/- The reference's Standing and Before; rank.Before. -/
import Derived.Test.YtdfhfehlmonjjaaR28
namespace Go.Proofs.Ytdfhfehlmonjjaa
open Go.Eng Go.RowKit

set_option maxRecDepth 100000 in
theorem refStand_spec (R : Nat → Nat → Bool) {a b : Nat} (ha : a < 24) (hb : b < 24) (w : World) : CallsV C.P 72 #[.agg (mat R).toArray, .int .i64 a, .int .i64 b] w fun v w' => v = .int .u8 (standR R a b) ∧ Ext w w' := by
  refine callsV_of C_ok (args := [_, _, _]) (plans := []) Try.func72 rfl Try.ntmps72 (by kernel_rfl) (Nat.le_of_ble_eq_true rfl) ?_
  intro g1 w1 h1
  have M1 : Mem w w1 [(g1, .cells (mat R).toArray 93 (0, 0))] := (Mem.start w).alloc h1
  have cab := mat_cell (M1.get 0 rfl) ha hb
  have cba := mat_cell (M1.get 0 rfl) hb ha
  refine brE_dec (fun h => ?_) (fun h => ?_)
  · have h : a = b := by have : (a : Int) = b := h; omega
    exact ⟨by simp [standR, h], M1.ext⟩
  have h : ¬ a = b := by have : ¬ (a : Int) = b := h; omega
  refine ⟨a, rfl, ha, ?_⟩
  refine ⟨b, rfl, hb, ?_⟩
  refine ⟨_, cab, ?_⟩
  refine brE_mk (fun r1 => ?_) (fun r1 => ?_)
  · refine ⟨b, rfl, hb, ?_⟩
    refine ⟨a, rfl, ha, ?_⟩
    refine ⟨_, cba, ?_⟩
    refine brE_mk (fun r2 => ?_) (fun r2 => ?_)
    · exact ⟨by simp [standR, h, r1, r2], M1.ext⟩
    · refine ⟨a, rfl, ha, ?_⟩
      refine ⟨b, rfl, hb, ?_⟩
      refine ⟨_, cab, ?_⟩
      refine brE_true r1 ?_
      exact ⟨by simp [standR, h, r1, r2], M1.ext⟩
  · refine ⟨a, rfl, ha, ?_⟩
    refine ⟨b, rfl, hb, ?_⟩
    refine ⟨_, cab, ?_⟩
    refine brE_false r1 ?_
    refine ⟨b, rfl, hb, ?_⟩
    refine ⟨a, rfl, ha, ?_⟩
    refine ⟨_, cba, ?_⟩
    refine brE_mk (fun r2 => ?_) (fun r2 => ?_)
    · exact ⟨by simp [standR, h, r1, r2], M1.ext⟩
    · exact ⟨by simp [standR, h, r1, r2], M1.ext⟩

theorem refStanding_spec {N : Int} {A : Option Addr} {xs : List Arrow} {c : Nat} {w : World} (h : HRel w N A xs c) (a b : Int) :
    CallsV C.P 33 #[relVal N A xs.length c, .int .i64 a, .int .i64 b] w fun v w' => v = .int .u8 (standS N xs a b) ∧ Ext w w' := by
  refine callsV_of C_ok (args := [_, _, _]) (plans := []) Try.func33 rfl Try.ntmps33 (by kernel_rfl) (Nat.le_of_ble_eq_true rfl) ?_
  intro g1 w1 h1
  have M1 := (Mem.start w).alloc h1
  refine ⟨[.int .i64 N, .slice A xs.length c], rfl, M1.rd 0 rfl, ?_⟩
  refine (refCheck_spec (h.ext M1.ext)).mono ?_
  rintro v w2 ⟨rfl, e2⟩
  have M2 := M1.grow e2
  refine brE_mk (fun hb0 => ?_) (fun hb0 => ?_)
  · have hv : chk N xs ≠ 0 := by simpa using hb0
    exact ⟨by rw [standS, if_neg hv], M2.ext⟩
  have hv : chk N xs = 0 := by simpa using hb0
  have hok := valid_of_chk hv
  refine ⟨[.int .i64 N, .slice A xs.length c], rfl, M2.rd 0 rfl, ?_⟩
  refine (refIn_spec N A xs.length c a w2).mono ?_
  rintro v w3 ⟨rfl, e3⟩
  have M3 := M2.grow e3
  refine brE_mk (fun h1 => ?_) (fun h1 => ?_)
  · rw [Bool.not_eq_true'] at h1
    exact ⟨by rw [standS, if_pos hv, h1]; rfl, M3.ext⟩
  rw [Bool.not_eq_false'] at h1
  refine ⟨[.int .i64 N, .slice A xs.length c], rfl, M3.rd 0 rfl, ?_⟩
  refine (refIn_spec N A xs.length c b w3).mono ?_
  rintro v w4 ⟨rfl, e4⟩
  have M4 := M3.grow e4
  refine brE_mk (fun h2 => ?_) (fun h2 => ?_)
  · rw [Bool.not_eq_true'] at h2
    exact ⟨by rw [standS, if_pos hv, h2, Bool.and_false]; rfl, M4.ext⟩
  rw [Bool.not_eq_false'] at h2
  obtain ⟨p, rfl, hp⟩ := inR_nat h1
  obtain ⟨q, rfl, hq⟩ := inR_nat h2
  have := hok.hi
  refine ⟨[.int .i64 N, .slice A xs.length c], rfl, M4.rd 0 rfl, ?_⟩
  refine (Reach_spec (h.ext M4.ext) hok).mono ?_
  rintro v w5 ⟨rfl, e5⟩
  refine (refStand_spec _ (a := p) (b := q) (by omega) (by omega) w5).mono ?_
  rintro v w6 ⟨rfl, e6⟩
  refine ⟨?_, ((M4.grow e5).grow e6).ext⟩
  rw [standS, if_pos hv, h1, h2]
  rfl

end Go.Proofs.Ytdfhfehlmonjjaa
