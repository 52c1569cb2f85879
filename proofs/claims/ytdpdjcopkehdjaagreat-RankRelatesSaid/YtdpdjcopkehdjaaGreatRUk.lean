/- a part of the proof: steps, walks and plain laws that the law below stands on; no condition. -/
import Derived.Test.YtdpdjcopkehdjaaGreatRUa
import Derived.Test.YtdpdjcopkehdjaaGreatRUb
import Derived.Test.YtdpdjcopkehdjaaGreatRUc
import Derived.Test.YtdpdjcopkehdjaaGreatRUd
import Derived.Test.YtdpdjcopkehdjaaGreatRUe
import Derived.Test.YtdpdjcopkehdjaaGreatRUf
import Derived.Test.YtdpdjcopkehdjaaGreatRUg
import Derived.Test.YtdpdjcopkehdjaaGreatRUh
import Derived.Test.YtdpdjcopkehdjaaGreatRUi
import Derived.Test.YtdpdjcopkehdjaaGreatRUj
import Derived.Maps.RangeRun
import Derived.Shelf.SlSortCmp.NoneTotal
import Derived.Ground.SlsfProg
set_option linter.unusedVariables false
set_option linter.unusedSimpArgs false
set_option linter.unnecessarySimpa false
set_option linter.unusedSectionVars false
namespace Go.Proofs.YtdpdjcopkehdjaaGreat.Rk
open Go.Eng Go.RowKit
def decC (k r b ρ : Int) : List Value := [.int .u8 k, .int .i64 r, .int .i64 b, .int .i64 ρ]
set_option maxRecDepth 100000 in
set_option maxHeartbeats 8000000 in
theorem refDecide1_spec {w : World} {R : Option Addr} {l : List Rl} {c : Nat} (h : HRs w R l c) (hz : chkRl l = 0) (a b : Prof) :
    CallsV C.P 180 #[.agg #[.slice R l.length c], a.val, b.val] w fun v w' => (∃ k r q ρ : Int, v = .agg (decC k r q ρ).toArray ∧ decV l (fun x => holdsT a b x.test) (fun x => holdsT b a x.test) = (r, q) ∧ k = kindV (r, q)) ∧ Ext w w' := by
  obtain ⟨hl24, hgood⟩ := chkRl_zero hz
  obtain ⟨T, hT⟩ : ∃ T : Rl → Bool, T = fun x => holdsT a b x.test := ⟨_, rfl⟩
  obtain ⟨B, hB⟩ : ∃ B : Rl → Bool, B = fun x => holdsT b a x.test := ⟨_, rfl⟩
  rw [← hT, ← hB]
  have h1r : ∀ x ∈ l, 1 ≤ x.rank := fun x hx => (hgood x hx).2.1.1
  refine callsV_ofS (args := [_, _, _]) Tryz.func180 rfl Tryz.ntmps180 C_ok (Nat.le_of_ble_eq_true rfl) ?_
  refine Snd.go C_ok [] (by kernel_rfl) ?_
  intro g3 w1 h1
  have M : Mem w w1 [(g3, .cells #[.slice R l.length c] 29 (0, 0))] := (Mem.start w).alloc h1
  intro g4 w2 h2
  have M : Mem w w2 [(g4, .cells a.cells.toArray 38 (0, 0)), (g3, .cells #[.slice R l.length c] 29 (0, 0))] := M.alloc h2
  intro g5 w3 h3
  have M : Mem w w3 [(g5, .cells b.cells.toArray 38 (0, 0)), (g4, .cells a.cells.toArray 38 (0, 0)), (g3, .cells #[.slice R l.length c] 29 (0, 0))] := M.alloc h3
  intro g6 w4 h4
  have M : Mem w w4 [(g6, .cells (decC 0 0 0 0).toArray 215 (0, 0)), (g5, .cells b.cells.toArray 38 (0, 0)), (g4, .cells a.cells.toArray 38 (0, 0)), (g3, .cells #[.slice R l.length c] 29 (0, 0))] := M.alloc h4
  refine ⟨Snd.go C_ok [] (by kernel_rfl) ?_⟩
  intro g7 w5 h5
  have M := M.alloc h5
  refine ⟨rfl, _, _, M.get 0 rfl, Nat.le_of_ble_eq_true rfl, rfl, ?_⟩
  intro w6 h6
  have M : Mem w w6 [(g7, .cells (decC 0 (-1) (-1) 0).toArray 215 (0, 0)), (g6, .cells (decC 0 0 0 0).toArray 215 (0, 0)), (g5, .cells b.cells.toArray 38 (0, 0)), (g4, .cells a.cells.toArray 38 (0, 0)), (g3, .cells #[.slice R l.length c] 29 (0, 0))] := M.put 0 rfl h6
  clear h1 h2 h3 h4 h5 h6
  refine ⟨Snd.join C_ok [] (fun _ : Int × Int × Int => [(6, .pointer (some ⟨g6, 0, none⟩)), (7, .pointer (some ⟨g7, 0, none⟩))])
    (fun p w' => decV l T B = (p.1, p.2.1) ∧ Mem w w' [(g7, .cells (decC 0 p.1 p.2.1 p.2.2).toArray 215 (0, 0)), (g6, .cells (decC 0 0 0 0).toArray 215 (0, 0))]) (by kernel_rfl) ?_ ?_⟩
  · refine loopE C_ok (fun (s : Nat × Int × Int × Int) => [(3, .pointer (some ⟨g3, 0, none⟩)), (4, .pointer (some ⟨g4, 0, none⟩)), (5, .pointer (some ⟨g5, 0, none⟩)), (6, .pointer (some ⟨g6, 0, none⟩)), (7, .pointer (some ⟨g7, 0, none⟩)), (8, .int .i64 (s.1 : Nat))])
      (fun s w' => s.1 ≤ l.length ∧ Mem w w' [(g7, .cells (decC 0 s.2.2.1 s.2.2.2 s.2.1).toArray 215 (0, 0)), (g6, .cells (decC 0 0 0 0).toArray 215 (0, 0)), (g5, .cells b.cells.toArray 38 (0, 0)), (g4, .cells a.cells.toArray 38 (0, 0)), (g3, .cells #[.slice R l.length c] 29 (0, 0))] ∧ Ver (l.take s.1) T B s.2.1 s.2.2.1 s.2.2.2)
      (fun s => l.length - s.1) (0, 0, -1, -1) ⟨rfl, rfl, rfl, rfl, rfl, rfl, trivial⟩ ⟨Nat.zero_le _, M, ver_nil T B⟩ ?_
    clear M
    rintro ⟨i, ρ, r, q⟩ w7 ⟨hi', M', hV'⟩
    have hi : i ≤ l.length := hi'
    have M : Mem w w7 [(g7, .cells (decC 0 r q ρ).toArray 215 (0, 0)), (g6, .cells (decC 0 0 0 0).toArray 215 (0, 0)), (g5, .cells b.cells.toArray 38 (0, 0)), (g4, .cells a.cells.toArray 38 (0, 0)), (g3, .cells #[.slice R l.length c] 29 (0, 0))] := M'
    have hV : Ver (l.take i) T B ρ r q := hV'
    clear hi' M' hV'
    refine ⟨_, M.cell 4 rfl rfl, ?_⟩
    refine brE_dec (fun hlt => ?_) (fun hge => ?_)
    · have hlti : i < l.length := by have : (i : Int) < (l.length : Nat) := hlt; omega
      have next : IntKind.i64.wrap ((i : Int) + 1) = ((i + 1 : Nat) : Int) := fit ⟨by omega, by omega⟩
      obtain ⟨x, hx⟩ : ∃ x, x = l[i] := ⟨_, rfl⟩
      have hxm : x ∈ l := by rw [hx]; exact List.getElem_mem hlti
      have htake : l.take (i + 1) = l.take i ++ [x] := by rw [List.take_succ_eq_append_getElem hlti, hx]
      have htl : (l.take i).length = i := by rw [List.length_take]; omega
      have h1p : ∀ y ∈ l.take i, 1 ≤ y.rank := fun y hy => h1r y (List.mem_of_mem_take hy)
      have hx1 := h1r x hxm
      have step : l.length - (i + 1) < l.length - i := by omega
      obtain ⟨b2, o2, hR2, hc2⟩ := (h.ext M.ext).at hlti
      rw [← hx] at hc2
      refine ⟨_, M.cell 4 rfl rfl, ?_⟩
      refine ⟨i, b2, o2, rfl, hlti, hR2, ?_⟩
      refine ⟨x.cells, rfl, hc2, ?_⟩
      intro g15 w8 h8
      have M8 := M.alloc h8
      refine ⟨rfl, _, _, M8.get 0 rfl, Nat.le_of_ble_eq_true rfl, rfl, ?_⟩
      intro w9 h9
      have M : Mem w w9 [(g15, .cells x.cells.toArray 72 (0, 0)), (g7, .cells (decC 0 r q ρ).toArray 215 (0, 0)), (g6, .cells (decC 0 0 0 0).toArray 215 (0, 0)), (g5, .cells b.cells.toArray 38 (0, 0)), (g4, .cells a.cells.toArray 38 (0, 0)), (g3, .cells #[.slice R l.length c] 29 (0, 0))] := M8.put 0 rfl h9
      clear M8 h8 h9 hc2
      refine ⟨_, M.cell 0 (i := 1) rfl rfl, ?_⟩
      refine ⟨_, M.cell 1 (i := 3) rfl rfl, ?_⟩
      refine brE_dec (fun hbr => ?_) (fun hbr => ?_)
      · have hbr : x.rank < ρ := hbr
        refine ⟨_, next, ?_⟩
        exact ⟨(i + 1, ρ, r, q), ⟨rfl, rfl, rfl, rfl, rfl, rfl, trivial⟩, ⟨hlti, M.tail, by show Ver (l.take (i + 1)) T B ρ r q; rw [htake]; exact hV.same h1p hx1 (.inl hbr)⟩, step⟩
      have hbr : ¬ x.rank < ρ := hbr
      obtain ⟨tv, htv⟩ : ∃ tv, tv = holdsT a b x.test := ⟨_, rfl⟩
      obtain ⟨bv, hbv⟩ : ∃ bv, bv = holdsT b a x.test := ⟨_, rfl⟩
      have hTx : T x = tv := by rw [hT, htv]
      have hBx : B x = bv := by rw [hB, hbv]
      have hsh := (hgood x hxm).1
      have hti := (h.each x hxm).test
      refine ⟨x.test.cells, rfl, (M.rd 0 rfl).part x.test_part, ?_⟩
      refine ⟨a.cells, rfl, M.rd 4 rfl, ?_⟩
      refine ⟨b.cells, rfl, M.rd 3 rfl, ?_⟩
      have X := refHolds_spec hti a b hsh M.ext
      rw [← htv] at X
      refine X.mono ?_
      rintro v w10 ⟨rfl, e10⟩
      have M := M.grow e10
      refine ⟨x.test.cells, rfl, (M.rd 0 rfl).part x.test_part, ?_⟩
      refine ⟨b.cells, rfl, M.rd 3 rfl, ?_⟩
      refine ⟨a.cells, rfl, M.rd 4 rfl, ?_⟩
      have Y := refHolds_spec hti b a hsh M.ext
      rw [← hbv] at Y
      refine Y.mono ?_
      clear X Y
      rintro v w11 ⟨rfl, e11⟩
      have M := M.grow e11
      refine brE_mk (fun t0 => ?P2) (fun t0 => ?P0)
      case' P0 =>
        have t0 : tv = false := t0
        refine brE_mk (fun b0 => ?P1) (fun b0 => ?N)
        case' N =>
          have b0 : bv = false := b0
          refine brE_false t0 ?_
          refine brE_false b0 ?_
          refine ⟨_, next, ?_⟩
          exact ⟨(i + 1, ρ, r, q), ⟨rfl, rfl, rfl, rfl, rfl, rfl, trivial⟩, ⟨hlti, M.tail, by show Ver (l.take (i + 1)) T B ρ r q; rw [htake]; exact hV.same h1p hx1 (.inr ⟨hTx.trans t0, hBx.trans b0⟩)⟩, step⟩
        case' P1 =>
          have hor : tv = true ∨ bv = true := .inr b0
      case' P2 =>
        have hor : tv = true ∨ bv = true := .inl t0
      all_goals
        obtain ⟨y, hyk⟩ : ∃ y : Int, y = ((i : Nat) : Int) := ⟨_, rfl⟩
        obtain ⟨r0, hr0⟩ : ∃ r0, r0 = (if ρ < x.rank then (-1 : Int) else r) := ⟨_, rfl⟩
        obtain ⟨q0, hq0⟩ : ∃ q0, q0 = (if ρ < x.rank then (-1 : Int) else q) := ⟨_, rfl⟩
        have hV2 := hV.more h1p hx1 (by omega) (show T x = true ∨ B x = true by rw [hTx, hBx]; exact hor)
        rw [← htake, htl, hTx, hBx, ← hr0, ← hq0, ← hyk] at hV2
        have dn : ∀ {z : Int}, ¬ z < 0 → ∀ (u : Bool), (if u = true ∧ z < 0 then y else z) = z := fun hz u => if_neg fun e => hz e.2
        have fin : ∀ {w12 : World} {r1 q1 : Int}, r1 = (if tv = true ∧ r0 < 0 then y else r0) → q1 = (if bv = true ∧ q0 < 0 then y else q0) → Mem w w12 [(g15, .cells x.cells.toArray 72 (0, 0)), (g7, .cells (decC 0 r1 q1 x.rank).toArray 215 (0, 0)), (g6, .cells (decC 0 0 0 0).toArray 215 (0, 0)), (g5, .cells b.cells.toArray 38 (0, 0)), (g4, .cells a.cells.toArray 38 (0, 0)), (g3, .cells #[.slice R l.length c] 29 (0, 0))] →
            (i + 1 ≤ l.length ∧ Mem w w12 [(g7, .cells (decC 0 r1 q1 x.rank).toArray 215 (0, 0)), (g6, .cells (decC 0 0 0 0).toArray 215 (0, 0)), (g5, .cells b.cells.toArray 38 (0, 0)), (g4, .cells a.cells.toArray 38 (0, 0)), (g3, .cells #[.slice R l.length c] 29 (0, 0))] ∧ Ver (l.take (i + 1)) T B x.rank r1 q1) := fun e1 e2 MM => ⟨hlti, MM.tail, by rw [e1, e2]; exact hV2⟩
        refine ⟨_, M.cell 0 (i := 1) rfl rfl, ?_⟩
        refine ⟨_, M.cell 1 (i := 3) rfl rfl, ?_⟩
        refine brE_dec (fun hgt => ?_) (fun hgt => ?_)
        · have hgt : x.rank > ρ := hgt
          have er : r0 = -1 := by rw [hr0, if_pos hgt]
          have eq : q0 = -1 := by rw [hq0, if_pos hgt]
          refine ⟨_, M.cell 0 (i := 1) rfl rfl, ?_⟩
          refine ⟨rfl, _, _, M.get 1 rfl, Nat.le_of_ble_eq_true rfl, rfl, ?_⟩
          intro w12 h12
          have M : Mem w w12 [(g15, .cells x.cells.toArray 72 (0, 0)), (g7, .cells (decC 0 r0 q0 x.rank).toArray 215 (0, 0)), (g6, .cells (decC 0 0 0 0).toArray 215 (0, 0)), (g5, .cells b.cells.toArray 38 (0, 0)), (g4, .cells a.cells.toArray 38 (0, 0)), (g3, .cells #[.slice R l.length c] 29 (0, 0))] := by rw [er, eq]; exact M.put 1 rfl h12
          refine brE_mk (fun ta => ?_) (fun ta => ?_)
          · have ta : tv = true := ta
            refine ⟨_, M.cell 1 (i := 1) rfl rfl, ?_⟩
            refine brE_dec (fun ra => ?_) (fun ra => ?_)
            · have ra : r0 < 0 := ra
              refine ⟨rfl, _, _, M.get 1 rfl, Nat.le_of_ble_eq_true rfl, rfl, ?_⟩
              intro w12 h12
              have M : Mem w w12 [(g15, .cells x.cells.toArray 72 (0, 0)), (g7, .cells (decC 0 y q0 x.rank).toArray 215 (0, 0)), (g6, .cells (decC 0 0 0 0).toArray 215 (0, 0)), (g5, .cells b.cells.toArray 38 (0, 0)), (g4, .cells a.cells.toArray 38 (0, 0)), (g3, .cells #[.slice R l.length c] 29 (0, 0))] := by rw [hyk]; exact M.put 1 rfl h12
              refine brE_mk (fun ba => ?_) (fun ba => ?_)
              · have ba : bv = true := ba
                refine ⟨_, M.cell 1 (i := 2) rfl rfl, ?_⟩
                refine brE_dec (fun qa => ?_) (fun qa => ?_)
                · have qa : q0 < 0 := qa
                  refine ⟨rfl, _, _, M.get 1 rfl, Nat.le_of_ble_eq_true rfl, rfl, ?_⟩
                  intro w13 h13
                  have M : Mem w w13 [(g15, .cells x.cells.toArray 72 (0, 0)), (g7, .cells (decC 0 y y x.rank).toArray 215 (0, 0)), (g6, .cells (decC 0 0 0 0).toArray 215 (0, 0)), (g5, .cells b.cells.toArray 38 (0, 0)), (g4, .cells a.cells.toArray 38 (0, 0)), (g3, .cells #[.slice R l.length c] 29 (0, 0))] := by
                    have h13 : Put w12 g7 (.cells (decC 0 y y x.rank).toArray 215 (0, 0)) w13 := by rw [hyk] at h13 ⊢; exact h13
                    exact M.put 1 rfl h13
                  refine ⟨_, next, ?_⟩
                  exact ⟨(i + 1, x.rank, y, y), ⟨rfl, rfl, rfl, rfl, rfl, rfl, trivial⟩, fin (if_pos ⟨ta, ra⟩).symm (if_pos ⟨ba, qa⟩).symm M, step⟩
                · have qa : ¬ q0 < 0 := qa
                  refine ⟨_, next, ?_⟩
                  exact ⟨(i + 1, x.rank, y, q0), ⟨rfl, rfl, rfl, rfl, rfl, rfl, trivial⟩, fin (if_pos ⟨ta, ra⟩).symm (dn qa _).symm M, step⟩
              · have ba : bv = false := ba
                refine ⟨_, next, ?_⟩
                exact ⟨(i + 1, x.rank, y, q0), ⟨rfl, rfl, rfl, rfl, rfl, rfl, trivial⟩, fin (if_pos ⟨ta, ra⟩).symm (by rw [ba]; rfl) M, step⟩
            · have ra : ¬ r0 < 0 := ra
              refine brE_mk (fun ba => ?_) (fun ba => ?_)
              · have ba : bv = true := ba
                refine ⟨_, M.cell 1 (i := 2) rfl rfl, ?_⟩
                refine brE_dec (fun qa => ?_) (fun qa => ?_)
                · have qa : q0 < 0 := qa
                  refine ⟨rfl, _, _, M.get 1 rfl, Nat.le_of_ble_eq_true rfl, rfl, ?_⟩
                  intro w13 h13
                  have M : Mem w w13 [(g15, .cells x.cells.toArray 72 (0, 0)), (g7, .cells (decC 0 r0 y x.rank).toArray 215 (0, 0)), (g6, .cells (decC 0 0 0 0).toArray 215 (0, 0)), (g5, .cells b.cells.toArray 38 (0, 0)), (g4, .cells a.cells.toArray 38 (0, 0)), (g3, .cells #[.slice R l.length c] 29 (0, 0))] := by rw [hyk]; exact M.put 1 rfl h13
                  refine ⟨_, next, ?_⟩
                  exact ⟨(i + 1, x.rank, r0, y), ⟨rfl, rfl, rfl, rfl, rfl, rfl, trivial⟩, fin (dn ra _).symm (if_pos ⟨ba, qa⟩).symm M, step⟩
                · have qa : ¬ q0 < 0 := qa
                  refine ⟨_, next, ?_⟩
                  exact ⟨(i + 1, x.rank, r0, q0), ⟨rfl, rfl, rfl, rfl, rfl, rfl, trivial⟩, fin (dn ra _).symm (dn qa _).symm M, step⟩
              · have ba : bv = false := ba
                refine ⟨_, next, ?_⟩
                exact ⟨(i + 1, x.rank, r0, q0), ⟨rfl, rfl, rfl, rfl, rfl, rfl, trivial⟩, fin (dn ra _).symm (by rw [ba]; rfl) M, step⟩
          · have ta : tv = false := ta
            refine brE_mk (fun ba => ?_) (fun ba => ?_)
            · have ba : bv = true := ba
              refine ⟨_, M.cell 1 (i := 2) rfl rfl, ?_⟩
              refine brE_dec (fun qa => ?_) (fun qa => ?_)
              · have qa : q0 < 0 := qa
                refine ⟨rfl, _, _, M.get 1 rfl, Nat.le_of_ble_eq_true rfl, rfl, ?_⟩
                intro w13 h13
                have M : Mem w w13 [(g15, .cells x.cells.toArray 72 (0, 0)), (g7, .cells (decC 0 r0 y x.rank).toArray 215 (0, 0)), (g6, .cells (decC 0 0 0 0).toArray 215 (0, 0)), (g5, .cells b.cells.toArray 38 (0, 0)), (g4, .cells a.cells.toArray 38 (0, 0)), (g3, .cells #[.slice R l.length c] 29 (0, 0))] := by rw [hyk]; exact M.put 1 rfl h13
                refine ⟨_, next, ?_⟩
                exact ⟨(i + 1, x.rank, r0, y), ⟨rfl, rfl, rfl, rfl, rfl, rfl, trivial⟩, fin (by rw [ta]; rfl) (if_pos ⟨ba, qa⟩).symm M, step⟩
              · have qa : ¬ q0 < 0 := qa
                refine ⟨_, next, ?_⟩
                exact ⟨(i + 1, x.rank, r0, q0), ⟨rfl, rfl, rfl, rfl, rfl, rfl, trivial⟩, fin (by rw [ta]; rfl) (dn qa _).symm M, step⟩
            · have ba : bv = false := ba
              refine ⟨_, next, ?_⟩
              exact ⟨(i + 1, x.rank, r0, q0), ⟨rfl, rfl, rfl, rfl, rfl, rfl, trivial⟩, fin (by rw [ta]; rfl) (by rw [ba]; rfl) M, step⟩
        · have hgt : ¬ x.rank > ρ := hgt
          have erk : ρ = x.rank := by omega
          have er : r = r0 := by rw [hr0, if_neg hgt]
          have eq : q = q0 := by rw [hq0, if_neg hgt]
          have M : Mem w w11 [(g15, .cells x.cells.toArray 72 (0, 0)), (g7, .cells (decC 0 r0 q0 x.rank).toArray 215 (0, 0)), (g6, .cells (decC 0 0 0 0).toArray 215 (0, 0)), (g5, .cells b.cells.toArray 38 (0, 0)), (g4, .cells a.cells.toArray 38 (0, 0)), (g3, .cells #[.slice R l.length c] 29 (0, 0))] := by rw [← er, ← eq, ← erk]; exact M
          refine brE_mk (fun ta => ?_) (fun ta => ?_)
          · have ta : tv = true := ta
            refine ⟨_, M.cell 1 (i := 1) rfl rfl, ?_⟩
            refine brE_dec (fun ra => ?_) (fun ra => ?_)
            · have ra : r0 < 0 := ra
              refine ⟨rfl, _, _, M.get 1 rfl, Nat.le_of_ble_eq_true rfl, rfl, ?_⟩
              intro w12 h12
              have M : Mem w w12 [(g15, .cells x.cells.toArray 72 (0, 0)), (g7, .cells (decC 0 y q0 x.rank).toArray 215 (0, 0)), (g6, .cells (decC 0 0 0 0).toArray 215 (0, 0)), (g5, .cells b.cells.toArray 38 (0, 0)), (g4, .cells a.cells.toArray 38 (0, 0)), (g3, .cells #[.slice R l.length c] 29 (0, 0))] := by rw [hyk]; exact M.put 1 rfl h12
              refine brE_mk (fun ba => ?_) (fun ba => ?_)
              · have ba : bv = true := ba
                refine ⟨_, M.cell 1 (i := 2) rfl rfl, ?_⟩
                refine brE_dec (fun qa => ?_) (fun qa => ?_)
                · have qa : q0 < 0 := qa
                  refine ⟨rfl, _, _, M.get 1 rfl, Nat.le_of_ble_eq_true rfl, rfl, ?_⟩
                  intro w13 h13
                  have M : Mem w w13 [(g15, .cells x.cells.toArray 72 (0, 0)), (g7, .cells (decC 0 y y x.rank).toArray 215 (0, 0)), (g6, .cells (decC 0 0 0 0).toArray 215 (0, 0)), (g5, .cells b.cells.toArray 38 (0, 0)), (g4, .cells a.cells.toArray 38 (0, 0)), (g3, .cells #[.slice R l.length c] 29 (0, 0))] := by
                    have h13 : Put w12 g7 (.cells (decC 0 y y x.rank).toArray 215 (0, 0)) w13 := by rw [hyk] at h13 ⊢; exact h13
                    exact M.put 1 rfl h13
                  refine ⟨_, next, ?_⟩
                  exact ⟨(i + 1, x.rank, y, y), ⟨rfl, rfl, rfl, rfl, rfl, rfl, trivial⟩, fin (if_pos ⟨ta, ra⟩).symm (if_pos ⟨ba, qa⟩).symm M, step⟩
                · have qa : ¬ q0 < 0 := qa
                  refine ⟨_, next, ?_⟩
                  exact ⟨(i + 1, x.rank, y, q0), ⟨rfl, rfl, rfl, rfl, rfl, rfl, trivial⟩, fin (if_pos ⟨ta, ra⟩).symm (dn qa _).symm M, step⟩
              · have ba : bv = false := ba
                refine ⟨_, next, ?_⟩
                exact ⟨(i + 1, x.rank, y, q0), ⟨rfl, rfl, rfl, rfl, rfl, rfl, trivial⟩, fin (if_pos ⟨ta, ra⟩).symm (by rw [ba]; rfl) M, step⟩
            · have ra : ¬ r0 < 0 := ra
              refine brE_mk (fun ba => ?_) (fun ba => ?_)
              · have ba : bv = true := ba
                refine ⟨_, M.cell 1 (i := 2) rfl rfl, ?_⟩
                refine brE_dec (fun qa => ?_) (fun qa => ?_)
                · have qa : q0 < 0 := qa
                  refine ⟨rfl, _, _, M.get 1 rfl, Nat.le_of_ble_eq_true rfl, rfl, ?_⟩
                  intro w13 h13
                  have M : Mem w w13 [(g15, .cells x.cells.toArray 72 (0, 0)), (g7, .cells (decC 0 r0 y x.rank).toArray 215 (0, 0)), (g6, .cells (decC 0 0 0 0).toArray 215 (0, 0)), (g5, .cells b.cells.toArray 38 (0, 0)), (g4, .cells a.cells.toArray 38 (0, 0)), (g3, .cells #[.slice R l.length c] 29 (0, 0))] := by rw [hyk]; exact M.put 1 rfl h13
                  refine ⟨_, next, ?_⟩
                  exact ⟨(i + 1, x.rank, r0, y), ⟨rfl, rfl, rfl, rfl, rfl, rfl, trivial⟩, fin (dn ra _).symm (if_pos ⟨ba, qa⟩).symm M, step⟩
                · have qa : ¬ q0 < 0 := qa
                  refine ⟨_, next, ?_⟩
                  exact ⟨(i + 1, x.rank, r0, q0), ⟨rfl, rfl, rfl, rfl, rfl, rfl, trivial⟩, fin (dn ra _).symm (dn qa _).symm M, step⟩
              · have ba : bv = false := ba
                refine ⟨_, next, ?_⟩
                exact ⟨(i + 1, x.rank, r0, q0), ⟨rfl, rfl, rfl, rfl, rfl, rfl, trivial⟩, fin (dn ra _).symm (by rw [ba]; rfl) M, step⟩
          · have ta : tv = false := ta
            refine brE_mk (fun ba => ?_) (fun ba => ?_)
            · have ba : bv = true := ba
              refine ⟨_, M.cell 1 (i := 2) rfl rfl, ?_⟩
              refine brE_dec (fun qa => ?_) (fun qa => ?_)
              · have qa : q0 < 0 := qa
                refine ⟨rfl, _, _, M.get 1 rfl, Nat.le_of_ble_eq_true rfl, rfl, ?_⟩
                intro w13 h13
                have M : Mem w w13 [(g15, .cells x.cells.toArray 72 (0, 0)), (g7, .cells (decC 0 r0 y x.rank).toArray 215 (0, 0)), (g6, .cells (decC 0 0 0 0).toArray 215 (0, 0)), (g5, .cells b.cells.toArray 38 (0, 0)), (g4, .cells a.cells.toArray 38 (0, 0)), (g3, .cells #[.slice R l.length c] 29 (0, 0))] := by rw [hyk]; exact M.put 1 rfl h13
                refine ⟨_, next, ?_⟩
                exact ⟨(i + 1, x.rank, r0, y), ⟨rfl, rfl, rfl, rfl, rfl, rfl, trivial⟩, fin (by rw [ta]; rfl) (if_pos ⟨ba, qa⟩).symm M, step⟩
              · have qa : ¬ q0 < 0 := qa
                refine ⟨_, next, ?_⟩
                exact ⟨(i + 1, x.rank, r0, q0), ⟨rfl, rfl, rfl, rfl, rfl, rfl, trivial⟩, fin (by rw [ta]; rfl) (dn qa _).symm M, step⟩
            · have ba : bv = false := ba
              refine ⟨_, next, ?_⟩
              exact ⟨(i + 1, x.rank, r0, q0), ⟨rfl, rfl, rfl, rfl, rfl, rfl, trivial⟩, fin (by rw [ta]; rfl) (by rw [ba]; rfl) M, step⟩
    · have hie : i = l.length := by have : ¬ (i : Int) < (l.length : Nat) := hge; omega
      rw [hie, List.take_length] at hV
      exact ⟨(r, q, ρ), ⟨rfl, rfl, trivial⟩, decV_eq hV, M.sub (by simp)⟩
  rintro ⟨r, q, ρ⟩ w7 ⟨hp', M'⟩
  have hp : decV l T B = (r, q) := hp'
  have M : Mem w w7 [(g7, .cells (decC 0 r q ρ).toArray 215 (0, 0)), (g6, .cells (decC 0 0 0 0).toArray 215 (0, 0))] := M'
  clear hp' M'
  rw [hp]
  have k3 : r ≥ 0 → q ≥ 0 → kindV (r, q) = 3 := fun h1 h2 => if_pos ⟨h1, h2⟩
  have k1 : r ≥ 0 → ¬ q ≥ 0 → kindV (r, q) = 1 := fun h1 h2 => (if_neg fun e => h2 e.2).trans (if_pos h1)
  have k2 : ¬ r ≥ 0 → q ≥ 0 → kindV (r, q) = 2 := fun h1 h2 => (if_neg fun e => h1 e.1).trans ((if_neg h1).trans (if_pos h2))
  have k0 : ¬ r ≥ 0 → ¬ q ≥ 0 → kindV (r, q) = 0 := fun h1 h2 => (if_neg fun e => h1 e.1).trans ((if_neg h1).trans (if_neg h2))
  refine Snd.join C_ok [] (fun _ : Unit => [(6, .pointer (some ⟨g6, 0, none⟩)), (7, .pointer (some ⟨g7, 0, none⟩))])
    (fun _ w' => Mem w w' [(g7, .cells (decC (if r ≥ 0 then 1 else 0) r q ρ).toArray 215 (0, 0)), (g6, .cells (decC 0 0 0 0).toArray 215 (0, 0))]) (by kernel_rfl) ?_ ?_
  · refine ⟨_, M.cell 0 (i := 1) rfl rfl, ?_⟩
    refine brE_dec (fun ra => ?_) (fun ra => ?_)
    · have ra : r ≥ 0 := ra
      refine ⟨rfl, _, _, M.get 0 rfl, Nat.le_of_ble_eq_true rfl, rfl, ?_⟩
      intro w8 h8
      exact ⟨(), ⟨rfl, rfl, trivial⟩, by rw [if_pos ra]; exact M.put 0 rfl h8⟩
    · have ra : ¬ r ≥ 0 := ra
      exact ⟨(), ⟨rfl, rfl, trivial⟩, by rw [if_neg ra]; exact M⟩
  clear M
  rintro _ w8 M
  refine Snd.join C_ok [] (fun _ : Unit => [(6, .pointer (some ⟨g6, 0, none⟩)), (7, .pointer (some ⟨g7, 0, none⟩))])
    (fun _ w' => Mem w w' [(g7, .cells (decC (kindV (r, q)) r q ρ).toArray 215 (0, 0)), (g6, .cells (decC 0 0 0 0).toArray 215 (0, 0))]) (by kernel_rfl) ?_ ?_
  · refine ⟨_, M.cell 0 (i := 2) rfl rfl, ?_⟩
    refine brE_dec (fun qa => ?_) (fun qa => ?_)
    · have qa : q ≥ 0 := qa
      refine ⟨_, M.cell 0 (i := 0) rfl rfl, ?_⟩
      by_cases ra : r ≥ 0
      · refine ⟨3, by rw [if_pos ra]; decide, ?_⟩
        refine ⟨rfl, _, _, M.get 0 rfl, Nat.le_of_ble_eq_true rfl, rfl, ?_⟩
        intro w9 h9
        exact ⟨(), ⟨rfl, rfl, trivial⟩, by rw [k3 ra qa]; exact M.put 0 rfl h9⟩
      · refine ⟨2, by rw [if_neg ra]; decide, ?_⟩
        refine ⟨rfl, _, _, M.get 0 rfl, Nat.le_of_ble_eq_true rfl, rfl, ?_⟩
        intro w9 h9
        exact ⟨(), ⟨rfl, rfl, trivial⟩, by rw [k2 ra qa]; exact M.put 0 rfl h9⟩
    · have qa : ¬ q ≥ 0 := qa
      have ek : (if r ≥ 0 then (1 : Int) else 0) = kindV (r, q) := by
        by_cases ra : r ≥ 0
        · rw [if_pos ra, k1 ra qa]
        · rw [if_neg ra, k0 ra qa]
      exact ⟨(), ⟨rfl, rfl, trivial⟩, by rw [← ek]; exact M⟩
  clear M
  rintro _ w9 M
  refine Snd.fin C_ok (plans := []) (by kernel_rfl) ?_
  refine ⟨decC (kindV (r, q)) r q ρ, rfl, M.rd 0 rfl, ?_⟩
  refine ⟨rfl, _, _, M.get 1 rfl, Nat.le_of_ble_eq_true rfl, rfl, ?_⟩
  intro w10 h10
  have M := M.put 1 rfl h10
  refine ⟨decC (kindV (r, q)) r q ρ, rfl, M.rd 1 rfl, ?_⟩
  exact ⟨⟨_, r, q, ρ, rfl, rfl, rfl⟩, M.ext⟩
end Go.Proofs.YtdpdjcopkehdjaaGreat.Rk
namespace Go.Proofs.YtdpdjcopkehdjaaGreat.Rk
open Go.Eng Go.RowKit
def decE (l : List Rl) (a b : Prof) : Int := if chkRl l ≠ 0 then chkRl l else if a.Ok ∧ b.Ok then 0 else 1
noncomputable def decP (l : List Rl) (a b : Prof) : Int × Int := decV l (fun x => holdsT a b x.test) (fun x => holdsT b a x.test)
theorem decE_zero {l : List Rl} {a b : Prof} (h : decE l a b = 0) : chkRl l = 0 ∧ a.Ok ∧ b.Ok := by
  unfold decE at h
  by_cases h0 : chkRl l = 0
  · rw [if_neg (fun e => e h0)] at h
    by_cases h1 : a.Ok ∧ b.Ok
    · exact ⟨h0, h1⟩
    · rw [if_neg h1] at h; cases h
  · rw [if_pos h0] at h; exact absurd h h0
theorem both_spec {w : World} {R : Option Addr} {l : List Rl} {c : Nat} (h : HRs w R l c) (a b : Prof) :
    CallsV C.P 56 #[.agg #[.slice R l.length c], a.val, b.val] w fun v w' => v = .int .i64 (decE l a b) ∧ Ext w w' := by
  refine callsV_of C_ok (args := [_, _, _]) (plans := plans56) Tryz.func56 rfl Tryz.ntmps56 (by kernel_rfl) (Nat.le_of_ble_eq_true rfl) ?_
  intro g3 w1 h1
  have M : Mem w w1 [(g3, .cells #[.slice R l.length c] 29 (0, 0))] := (Mem.start w).alloc h1
  intro g4 w2 h2
  have M : Mem w w2 [(g4, .cells a.cells.toArray 38 (0, 0)), (g3, .cells #[.slice R l.length c] 29 (0, 0))] := M.alloc h2
  intro g5 w3 h3
  have M : Mem w w3 [(g5, .cells b.cells.toArray 38 (0, 0)), (g4, .cells a.cells.toArray 38 (0, 0)), (g3, .cells #[.slice R l.length c] 29 (0, 0))] := M.alloc h3
  refine ⟨[.slice R l.length c], rfl, M.rd 2 rfl, ?_⟩
  obtain ⟨e0, he0⟩ : ∃ e0, e0 = chkRl l := ⟨_, rfl⟩
  have X := rulesCheck_spec (h.ext M.ext)
  rw [← he0] at X
  refine X.mono ?_
  rintro v w4 ⟨rfl, e4⟩
  have M := M.grow e4
  refine brE_ndec (fun c0 => ?_) (fun c0 => ?_)
  · have c0 : e0 ≠ 0 := c0
    exact ⟨congrArg (Value.int .i64) (by rw [decE, ← he0, if_pos c0]), M.ext⟩
  have c0 : e0 = 0 := c0
  refine ⟨a.cells, rfl, M.rd 1 rfl, ?_⟩
  refine ⟨b.cells, rfl, M.rd 0 rfl, ?_⟩
  refine (CheckProfile_spec a _).mono ?_
  rintro v w5 ⟨rfl, e5⟩
  refine ⟨e5, ?_⟩
  have M := M.grow e5
  refine (CheckProfile_spec b _).mono ?_
  rintro v w6 ⟨rfl, e6⟩
  have M := M.grow e6
  have hmx : (if profE b > profE a then profE b else profE a) = decE l a b := by
    have hd : decE l a b = if a.Ok ∧ b.Ok then 0 else 1 := by rw [decE, ← he0, if_neg (fun e => e c0)]
    rw [hd]
    unfold profE
    by_cases ha : a.Ok <;> by_cases hb : b.Ok <;> simp [ha, hb]
  refine ⟨_, maxQ' hmx rfl rfl rfl, ?_⟩
  exact ⟨rfl, M.ext⟩
set_option maxRecDepth 100000 in
theorem Decide_spec {w : World} {R : Option Addr} {l : List Rl} {c : Nat} (h : HRs w R l c) (a b : Prof) :
    CallsV C.P 23 #[.agg #[.slice R l.length c], a.val, b.val] w fun v w' => v = .tuple #[if decE l a b = 0 then verV (decP l a b) else .agg (verC 0 0 0).toArray, .int .i64 (decE l a b)] ∧ Ext w w' := by
  refine callsV_of C_ok (args := [_, _, _]) (plans := plans23) Tryz.func23 rfl Tryz.ntmps23 (by kernel_rfl) (Nat.le_of_ble_eq_true rfl) ?_
  intro g3 w1 h1
  have M : Mem w w1 [(g3, .cells #[.slice R l.length c] 29 (0, 0))] := (Mem.start w).alloc h1
  intro g4 w2 h2
  have M : Mem w w2 [(g4, .cells a.cells.toArray 38 (0, 0)), (g3, .cells #[.slice R l.length c] 29 (0, 0))] := M.alloc h2
  intro g5 w3 h3
  have M : Mem w w3 [(g5, .cells b.cells.toArray 38 (0, 0)), (g4, .cells a.cells.toArray 38 (0, 0)), (g3, .cells #[.slice R l.length c] 29 (0, 0))] := M.alloc h3
  intro g6 w4 h4
  have M : Mem w w4 [(g6, .cells (verC 0 0 0).toArray 64 (0, 0)), (g5, .cells b.cells.toArray 38 (0, 0)), (g4, .cells a.cells.toArray 38 (0, 0)), (g3, .cells #[.slice R l.length c] 29 (0, 0))] := M.alloc h4
  refine ⟨[.slice R l.length c], rfl, M.rd 3 rfl, ?_⟩
  refine ⟨a.cells, rfl, M.rd 2 rfl, ?_⟩
  refine ⟨b.cells, rfl, M.rd 1 rfl, ?_⟩
  obtain ⟨e0, he0⟩ : ∃ e0, e0 = decE l a b := ⟨_, rfl⟩
  have X := both_spec (h.ext M.ext) a b
  rw [← he0] at X ⊢
  refine X.mono ?_
  rintro v w5 ⟨rfl, e5⟩
  have M := M.grow e5
  refine brE_ndec (fun c0 => ?_) (fun c0 => ?_)
  · have c0 : e0 ≠ 0 := c0
    refine ⟨rfl, _, _, M.get 0 rfl, Nat.le_of_ble_eq_true rfl, rfl, ?_⟩
    intro w6 h6
    have M := M.put 0 rfl h6
    refine ⟨verC 0 0 0, rfl, M.rd 0 rfl, ?_⟩
    exact ⟨by rw [if_neg c0], M.ext⟩
  have c0 : e0 = 0 := c0
  have hz := (decE_zero (he0.symm.trans c0)).1
  obtain ⟨hl24, hgood⟩ := chkRl_zero hz
  have hrk : ∀ x ∈ l, In64 x.rank ∧ 1 ≤ x.rank ∧ x.rank ≤ 99 := fun x hx => ⟨(h.each x hx).rank, (hgood x hx).2.1⟩
  refine ⟨[.slice R l.length c], rfl, M.rd 3 rfl, ?_⟩
  refine ⟨[.slice R l.length c], rfl, M.rd 3 rfl, ?_⟩
  refine ⟨a.cells, rfl, M.rd 2 rfl, ?_⟩
  refine ⟨b.cells, rfl, M.rd 1 rfl, ?_⟩
  refine (ranked_spec (h.ext M.ext).hl hrk (by omega)).mono ?_
  rintro v w6 ⟨⟨Mv, hMv, hown⟩, e6⟩
  refine ⟨e6, ?_⟩
  have M := M.grow e6
  obtain ⟨A, cm, rfl, hrd, _⟩ := reads_of_owns hown
  have Y := decide_spec (h.ext M.ext) hz hMv (cm := cm) hrd a b
  obtain ⟨p, hp⟩ : ∃ p, p = decP l a b := ⟨_, rfl⟩
  have Y : CallsV C.P 57 #[.agg #[.slice R l.length c], .slice A Mv.length cm, a.val, b.val, .nilFunc] w6 fun v w' => v = verV p ∧ Ext w6 w' := by rw [hp]; exact Y
  rw [← hp]
  refine Y.mono ?_
  rintro v w7 ⟨rfl, e7⟩
  have M := M.grow e7
  refine ⟨rfl, _, _, M.get 0 rfl, Nat.le_of_ble_eq_true rfl, rfl, ?_⟩
  intro w8 h8
  have M := M.put 0 rfl h8
  refine ⟨verC (kindV p) p.1 p.2, rfl, M.rd 0 rfl, ?_⟩
  exact ⟨by rw [if_pos c0, c0]; rfl, M.ext⟩
set_option maxRecDepth 100000 in
theorem refDecide_spec {w : World} {R : Option Addr} {l : List Rl} {c : Nat} (h : HRs w R l c) (a b : Prof) :
    CallsV C.P 109 #[.agg #[.slice R l.length c], a.val, b.val] w fun v w' => v = .tuple #[if decE l a b = 0 then verV (decP l a b) else .agg (verC 0 0 0).toArray, .int .i64 (decE l a b)] ∧ Ext w w' := by
  refine callsV_of C_ok (args := [_, _, _]) (plans := []) Tryz.func109 rfl Tryz.ntmps109 (by kernel_rfl) (Nat.le_of_ble_eq_true rfl) ?_
  intro g3 w1 h1
  have M : Mem w w1 [(g3, .cells #[.slice R l.length c] 29 (0, 0))] := (Mem.start w).alloc h1
  intro g4 w2 h2
  have M : Mem w w2 [(g4, .cells a.cells.toArray 38 (0, 0)), (g3, .cells #[.slice R l.length c] 29 (0, 0))] := M.alloc h2
  intro g5 w3 h3
  have M : Mem w w3 [(g5, .cells b.cells.toArray 38 (0, 0)), (g4, .cells a.cells.toArray 38 (0, 0)), (g3, .cells #[.slice R l.length c] 29 (0, 0))] := M.alloc h3
  intro g6 w4 h4
  have M : Mem w w4 [(g6, .cells (verC 0 0 0).toArray 64 (0, 0)), (g5, .cells b.cells.toArray 38 (0, 0)), (g4, .cells a.cells.toArray 38 (0, 0)), (g3, .cells #[.slice R l.length c] 29 (0, 0))] := M.alloc h4
  refine ⟨[.slice R l.length c], rfl, M.rd 3 rfl, ?_⟩
  obtain ⟨e1, he1⟩ : ∃ e1, e1 = chkRl l := ⟨_, rfl⟩
  have X := refRulesCheck_spec (h.ext M.ext)
  rw [← he1] at X
  refine X.mono ?_
  rintro v w5 ⟨rfl, e5⟩
  have M := M.grow e5
  have hE : decE l a b = if e1 ≠ 0 then e1 else if a.Ok ∧ b.Ok then 0 else 1 := by rw [he1]; rfl
  refine brE_ndec (fun c0 => ?_) (fun c0 => ?_)
  · have c0 : e1 ≠ 0 := c0
    have hd : decE l a b = e1 := by rw [hE, if_pos c0]
    refine ⟨rfl, _, _, M.get 0 rfl, Nat.le_of_ble_eq_true rfl, rfl, ?_⟩
    intro w6 h6
    have M := M.put 0 rfl h6
    refine ⟨verC 0 0 0, rfl, M.rd 0 rfl, ?_⟩
    exact ⟨by rw [hd, if_neg c0], M.ext⟩
  have c0 : e1 = 0 := c0
  obtain ⟨oa, hoa⟩ : ∃ oa, oa = decide a.Ok := ⟨_, rfl⟩
  obtain ⟨ob, hob⟩ : ∃ ob, ob = decide b.Ok := ⟨_, rfl⟩
  refine ⟨a.cells, rfl, M.rd 2 rfl, ?_⟩
  have Y := refValid_spec a w5
  rw [← hoa] at Y
  refine Y.mono ?_
  rintro v w6 ⟨rfl, e6⟩
  have M := M.grow e6
  refine ⟨b.cells, rfl, M.rd 1 rfl, ?_⟩
  have Z := refValid_spec b w6
  rw [← hob] at Z
  refine Z.mono ?_
  clear X Y Z
  rintro v w7 ⟨rfl, e7⟩
  have M := M.grow e7
  have bad : ¬ (a.Ok ∧ b.Ok) → decE l a b = 1 := fun hn => by rw [hE, if_neg (fun e => e c0), if_neg hn]
  refine brE_mk (fun ca => ?_) (fun ca => ?_)
  · have ca : oa = false := by simpa using ca
    have hd := bad fun e => of_decide_eq_false (hoa.symm.trans ca) e.1
    refine ⟨rfl, _, _, M.get 0 rfl, Nat.le_of_ble_eq_true rfl, rfl, ?_⟩
    intro w8 h8
    have M := M.put 0 rfl h8
    refine ⟨verC 0 0 0, rfl, M.rd 0 rfl, ?_⟩
    exact ⟨by rw [hd]; rfl, M.ext⟩
  have ca : oa = true := by simpa using ca
  refine brE_mk (fun cb => ?_) (fun cb => ?_)
  · have cb : ob = false := by simpa using cb
    have hd := bad fun e => of_decide_eq_false (hob.symm.trans cb) e.2
    refine ⟨rfl, _, _, M.get 0 rfl, Nat.le_of_ble_eq_true rfl, rfl, ?_⟩
    intro w8 h8
    have M := M.put 0 rfl h8
    refine ⟨verC 0 0 0, rfl, M.rd 0 rfl, ?_⟩
    exact ⟨by rw [hd]; rfl, M.ext⟩
  have cb : ob = true := by simpa using cb
  have hd : decE l a b = 0 := by rw [hE, if_neg (fun e => e c0), if_pos ⟨of_decide_eq_true (hoa.symm.trans ca), of_decide_eq_true (hob.symm.trans cb)⟩]
  refine ⟨[.slice R l.length c], rfl, M.rd 3 rfl, ?_⟩
  refine ⟨a.cells, rfl, M.rd 2 rfl, ?_⟩
  refine ⟨b.cells, rfl, M.rd 1 rfl, ?_⟩
  refine (refDecide1_spec (h.ext M.ext) (he1.symm.trans c0) a b).mono ?_
  rintro v w8 ⟨⟨k, r, q, ρ, rfl, hp', hk⟩, e8⟩
  have hp : decP l a b = (r, q) := hp'
  have M := M.grow e8
  intro g11 w9 h9
  have M := M.alloc h9
  refine ⟨rfl, _, _, M.get 0 rfl, Nat.le_of_ble_eq_true rfl, rfl, ?_⟩
  intro w10 h10
  have M : Mem w w10 [(g11, .cells (decC k r q ρ).toArray 215 (0, 0)), (g6, .cells (verC 0 0 0).toArray 64 (0, 0)), (g5, .cells b.cells.toArray 38 (0, 0)), (g4, .cells a.cells.toArray 38 (0, 0)), (g3, .cells #[.slice R l.length c] 29 (0, 0))] := M.put 0 rfl h10
  refine ⟨verC k r q, rfl, ?_, ?_⟩
  · have hrd := M.rd 0 rfl
    intro i v hv
    have : (decC k r q ρ)[i]? = some v := by
      unfold verC at hv
      unfold decC
      match i, hv with
      | 0, hv => exact hv
      | 1, hv => exact hv
      | 2, hv => exact hv
    have := hrd i v this
    exact this
  refine ⟨rfl, _, _, M.get 1 rfl, Nat.le_of_ble_eq_true rfl, rfl, ?_⟩
  intro w11 h11
  have M := M.put 1 rfl h11
  refine ⟨verC k r q, rfl, M.rd 1 rfl, ?_⟩
  exact ⟨by rw [hd, if_pos rfl, hp, verV, ← hk], M.ext⟩
noncomputable def ruledI (l : List Rl) (a b : Prof) : Int := if decE l a b = 0 then (decP l a b).1 else -1
theorem decP_low {l : List Rl} {a b : Prof} : ((decP l a b).1 = -1 ∨ 0 ≤ (decP l a b).1) := by
  unfold decP decV
  split
  · rename_i hx
    rw [show ((hx.choose.2.1, hx.choose.2.2) : Int × Int).1 = hx.choose.2.1 from rfl, hx.choose_spec.fr]
    exact firstI_low _ _ _
  · exact .inl rfl
set_option maxRecDepth 100000 in
theorem ruled_spec {w : World} {R : Option Addr} {l : List Rl} {c : Nat} (h : HRs w R l c) (a b : Prof) :
    CallsV C.P 50 #[.agg #[.slice R l.length c], a.val, b.val] w fun v w' => v = .int .i64 (ruledI l a b) ∧ Ext w w' := by
  refine callsV_of C_ok (args := [_, _, _]) (plans := []) Tryz.func50 rfl Tryz.ntmps50 (by kernel_rfl) (Nat.le_of_ble_eq_true rfl) ?_
  intro g3 w1 h1
  have M : Mem w w1 [(g3, .cells #[.slice R l.length c] 29 (0, 0))] := (Mem.start w).alloc h1
  intro g4 w2 h2
  have M : Mem w w2 [(g4, .cells a.cells.toArray 38 (0, 0)), (g3, .cells #[.slice R l.length c] 29 (0, 0))] := M.alloc h2
  intro g5 w3 h3
  have M : Mem w w3 [(g5, .cells b.cells.toArray 38 (0, 0)), (g4, .cells a.cells.toArray 38 (0, 0)), (g3, .cells #[.slice R l.length c] 29 (0, 0))] := M.alloc h3
  refine ⟨[.slice R l.length c], rfl, M.rd 2 rfl, ?_⟩
  refine ⟨a.cells, rfl, M.rd 1 rfl, ?_⟩
  refine ⟨b.cells, rfl, M.rd 0 rfl, ?_⟩
  obtain ⟨k, r, q, hv, hres⟩ : ∃ k r q : Int, (if decE l a b = 0 then verV (decP l a b) else .agg (verC 0 0 0).toArray) = .agg (verC k r q).toArray ∧ (ruledI l a b = if k = 1 ∨ k = 3 then r else -1) := by
    unfold ruledI
    by_cases hd : decE l a b = 0
    · rw [if_pos hd, if_pos hd]
      refine ⟨kindV (decP l a b), (decP l a b).1, (decP l a b).2, rfl, ?_⟩
      have hlow := decP_low (l := l) (a := a) (b := b)
      rcases hlow with e | e
      · rw [e]; split <;> rfl
      · by_cases hq : (decP l a b).2 ≥ 0
        · have hk : kindV (decP l a b) = 3 := if_pos ⟨e, hq⟩
          rw [if_pos (.inr hk)]
        · have hk : kindV (decP l a b) = 1 := (if_neg fun h => hq h.2).trans (if_pos e)
          rw [if_pos (.inl hk)]
    · rw [if_neg hd, if_neg hd]
      exact ⟨0, 0, 0, rfl, rfl⟩
  have X := refDecide_spec (h.ext M.ext) a b
  rw [hv] at X
  rw [hres]
  refine X.mono ?_
  rintro v w4 ⟨rfl, e4⟩
  have M := M.grow e4
  intro g7 w5 h5
  have M := M.alloc h5
  refine ⟨rfl, _, _, M.get 0 rfl, Nat.le_of_ble_eq_true rfl, rfl, ?_⟩
  intro w6 h6
  have M : Mem w w6 [(g7, .cells (verC k r q).toArray 64 (0, 0)), (g5, .cells b.cells.toArray 38 (0, 0)), (g4, .cells a.cells.toArray 38 (0, 0)), (g3, .cells #[.slice R l.length c] 29 (0, 0))] := M.put 0 rfl h6
  refine ⟨_, M.cell 0 (i := 0) rfl rfl, ?_⟩
  refine brE_dec (fun k1 => ?_) (fun k1 => ?_)
  · have k1 : k = 1 := k1
    refine ⟨_, M.cell 0 (i := 1) rfl rfl, ?_⟩
    exact ⟨congrArg (Value.int .i64) (if_pos (.inl k1)).symm, M.ext⟩
  have k1 : ¬ k = 1 := k1
  refine ⟨_, M.cell 0 (i := 0) rfl rfl, ?_⟩
  refine brE_dec (fun k3 => ?_) (fun k3 => ?_)
  · have k3 : k = 3 := k3
    refine ⟨_, M.cell 0 (i := 1) rfl rfl, ?_⟩
    exact ⟨congrArg (Value.int .i64) (if_pos (.inr k3)).symm, M.ext⟩
  have k3 : ¬ k = 3 := k3
  exact ⟨congrArg (Value.int .i64) (if_neg (fun e => e.elim k1 k3)).symm, M.ext⟩
end Go.Proofs.YtdpdjcopkehdjaaGreat.Rk
namespace Go.Proofs.YtdpdjcopkehdjaaGreat.Rk
open Go.Eng Go.RowKit
end Go.Proofs.YtdpdjcopkehdjaaGreat.Rk
namespace Go.Proofs.YtdpdjcopkehdjaaGreat.Rk
open Go.Eng Go.RowKit
theorem ltA_iff {a b : Arrow} : ltA a b = true ↔ (a.fr < b.fr ∨ a.fr = b.fr ∧ a.to < b.to) := by simp [ltA]
theorem ltA_trans {a b c : Arrow} (h : ltA a b = true) (k : ltA b c = true) : ltA a c = true := by rw [ltA_iff] at *; omega
theorem cmpA_lt (a b : Arrow) : cmpA a b < 0 ↔ ltA a b = true := by
  have := cmpA_neg a b
  cases h : ltA a b with
  | true => simp [h] at this; simp; omega
  | false => simp [h] at this; simp; omega
def arrowZ : Arrow := ⟨0, 0, 0, 0⟩
theorem u43 : Tryz.prog.underlying 60 = some (.struct #[⟨ "From", 3, 0, false, "", "", 0⟩, ⟨ "To", 3, 1, false, "", "", 8⟩, ⟨ "Rule", 3, 2, false, "", "", 16⟩, ⟨ "Weight", 3, 3, false, "", "", 24⟩]) := by kernel_rfl
theorem eqIn43 (p q : Arrow) (w : World) : (Op.equalIn 10000 60 p.val q.val).run C.P w = .ok (decide (p = q)) w := by
  have hs : C.P.stoodInHeld 60 = false := by kernel_rfl
  have hf : Tryz.prog.fieldsOf 60 = #[⟨ "From", 3, 0, false, "", "", 0⟩, ⟨ "To", 3, 1, false, "", "", 8⟩, ⟨ "Rule", 3, 2, false, "", "", 16⟩, ⟨ "Weight", 3, 3, false, "", "", 24⟩] := by kernel_rfl
  have hu : C.P.underlying 60 = some (.struct (C.P.fieldsOf 60)) := by show Tryz.prog.underlying 60 = some (.struct (Tryz.prog.fieldsOf 60)); rw [hf]; exact u43
  have h3 : C.P.underlying 3 = some (.int .i64) := under3
  have hp : ∀ (i : Nat) (cs : Array Value) (v : Value), cs[i]? = some v → (part 3 cs i).run C.P w = .ok v w := by
    intro i cs v hv
    have := (C_ok.ti (t := 3) (ti := ty3) rfl).run_agg
    simp [part, this, ty3, TD.agg, hv]
  rw [Arrow.val, Arrow.val, run_equalIn_struct w 9999 60 _ _ hu hs]
  show ((Op.eqFields 9999 _ _ (Tryz.prog.fieldsOf 60).toList).run C.P w) = _
  rw [hf]
  rw [eqFields_run (f := fun x => if x.offset = 0 then decide (p.fr = q.fr) else if x.offset = 1 then decide (p.to = q.to) else if x.offset = 2 then decide (p.rule = q.rule) else decide (p.wt = q.wt))]
  · obtain ⟨a, b, c, d⟩ := p
    obtain ⟨e, f, g, k⟩ := q
    simp
  · intro f hf
    simp only [List.mem_cons, List.not_mem_nil, or_false] at hf
    rcases hf with rfl | rfl | rfl | rfl
    · exact ⟨by decide, .int .i64 p.fr, .int .i64 q.fr, hp 0 _ _ rfl, hp 0 _ _ rfl, eqInt_run h3 w 9998 .i64 p.fr q.fr⟩
    · exact ⟨by decide, .int .i64 p.to, .int .i64 q.to, hp 1 _ _ rfl, hp 1 _ _ rfl, eqInt_run h3 w 9998 .i64 p.to q.to⟩
    · exact ⟨by decide, .int .i64 p.rule, .int .i64 q.rule, hp 2 _ _ rfl, hp 2 _ _ rfl, eqInt_run h3 w 9998 .i64 p.rule q.rule⟩
    · exact ⟨by decide, .int .i64 p.wt, .int .i64 q.wt, hp 3 _ _ rfl, hp 3 _ _ rfl, eqInt_run h3 w 9998 .i64 p.wt q.wt⟩
theorem neq43 (x y : Operand) (p q : Arrow) : EqIs C.P .neq 60 x y p.val q.val (!decide (p = q)) := by
  intro w
  have hm : C.P.eqGuardType C.P.depth 60 = false := by kernel_rfl
  rw [Sem.run_bind, Arrow.val, Arrow.val, run_eqGuard_agg w .neq 60 x y _ _ hm]
  simp only [Result.andThen_ok]
  rw [run_neq_struct]
  have := eqIn43 p q w
  rw [Arrow.val, Arrow.val] at this
  rw [this]
  rfl
end Go.Proofs.YtdpdjcopkehdjaaGreat.Rk
namespace Go.Proofs.YtdpdjcopkehdjaaGreat.Rk
open Go.Eng Go.RowKit
theorem neqSame43 (x y : Operand) (p : Arrow) : EqIs C.P .neq 60 x y p.val p.val false := by
  have := neq43 x y p p
  simpa using this
end Go.Proofs.YtdpdjcopkehdjaaGreat.Rk
namespace Go.Proofs.YtdpdjcopkehdjaaGreat.Rk
open Go.Eng Go.RowKit
theorem splice_take_at {cs vs : List Value} {i : Nat} (h : i ≤ cs.length) : (splice cs i vs).take i = cs.take i := by
  unfold splice
  rw [List.append_assoc, List.take_append_of_le_length (by simp; omega), List.take_take, Nat.min_self]
end Go.Proofs.YtdpdjcopkehdjaaGreat.Rk
namespace Go.Proofs.YtdpdjcopkehdjaaGreat.Rk
open Go.Eng Go.RowKit
def backL (xs : List Arrow) : List (Int × Int) := (xs.filter fun x => decide (x.fr > x.to)).map fun x => (x.fr, x.to)
theorem backL_length (xs : List Arrow) : (backL xs).length ≤ xs.length := by
  unfold backL; rw [List.length_map]; exact List.length_filter_le _ _
theorem Reads.pr {w : World} {A : Option Addr} {ps : List (Int × Int)} (h : Reads w A (prCells ps)) {i : Nat} (hi : i < ps.length) : ∃ b o, A = some ⟨b, o, none⟩ ∧ w.cell? ⟨b, o + i * 2, none⟩ = some (.int .i64 ps[i].1) ∧ w.cell? ⟨b, o + i * 2 + 1, none⟩ = some (.int .i64 ps[i].2) := by
  rcases h with h | ⟨b, o, hA, hr⟩
  · have := congrArg List.length h
    rw [prCells_length] at this
    have : ps.length * 2 = 0 := this
    omega
  · have key : ∀ (l : List (Int × Int)) (i : Nat) (hi : i < l.length), (prCells l)[i * 2]? = some (.int .i64 l[i].1) ∧ (prCells l)[i * 2 + 1]? = some (.int .i64 l[i].2) := by
      intro l
      induction l with
      | nil => intro i hi; simp at hi
      | cons p l ih =>
        intro i hi
        cases i with
        | zero => exact ⟨rfl, rfl⟩
        | succ i =>
          have := ih i (by simpa using hi)
          have e1 : (i + 1) * 2 = i * 2 + 1 + 1 := by omega
          rw [e1]
          exact this
    obtain ⟨k1, k2⟩ := key ps i hi
    exact ⟨b, o, hA, hr _ _ k1, hr _ _ k2⟩
theorem Has_spec {w : World} {A : Option Addr} {c : Nat} {ps : List (Int × Int)} (hr : Reads w A (prCells ps)) (hl : ps.length ≤ 9223372036854775807) (a b : Int) :
    CallsV C.P 24 #[.slice A ps.length c, .int .i64 a, .int .i64 b] w fun v w' => v = .bool (decide ((a, b) ∈ ps)) ∧ w' = w := by
  refine callsV_of C_ok (args := [_, _, _]) (plans := []) Tryz.func24 rfl Tryz.ntmps24 (by kernel_rfl) (Nat.le_of_ble_eq_true rfl) ?_
  refine loopE C_ok (fun (i : Nat) => [(0, .slice A ps.length c), (1, .int .i64 a), (2, .int .i64 b), (7, .int .i64 i)])
    (fun i w' => w' = w ∧ i ≤ ps.length ∧ ∀ j (h : j < ps.length), j < i → ps[j] ≠ (a, b)) (fun i => ps.length - i) 0 ⟨rfl, rfl, rfl, rfl, trivial⟩
    ⟨rfl, Nat.zero_le _, fun j _ hj => absurd hj (Nat.not_lt_zero _)⟩ ?_
  rintro i w1 ⟨rfl, hi, hall⟩
  refine brE_dec (fun hlt => ?_) (fun hge => ?_)
  · have hlt : i < ps.length := by have : (i : Int) < (ps.length : Nat) := hlt; omega
    obtain ⟨bb, o, hA, c1, c2⟩ := Reads.pr hr hlt
    have next : IntKind.i64.wrap ((i : Int) + 1) = ((i + 1 : Nat) : Int) := fit ⟨by omega, by omega⟩
    have go : ps[i] ≠ (a, b) → ∀ j (h : j < ps.length), j < i + 1 → ps[j] ≠ (a, b) := fun hn j hj hji => by
      rcases Nat.lt_or_ge j i with h | h
      · exact hall j hj h
      · obtain rfl : j = i := by omega
        exact hn
    refine ⟨i, bb, o, rfl, hlt, hA, ?_⟩
    refine ⟨_, c1, ?_⟩
    refine brE_dec (fun h1 => ?_) (fun h1 => ?_)
    · have h1 : ps[i].1 = a := h1
      refine ⟨i, bb, o, rfl, hlt, hA, ?_⟩
      refine ⟨_, c2, ?_⟩
      refine brE_dec (fun h2 => ?_) (fun h2 => ?_)
      · have h2 : ps[i].2 = b := h2
        refine ⟨?_, rfl⟩
        have : (a, b) ∈ ps := by
          have := List.getElem_mem hlt
          rw [show ps[i] = (a, b) from Prod.ext h1 h2] at this
          exact this
        rw [decide_eq_true this]
      · refine ⟨_, next, ?_⟩
        exact ⟨i + 1, ⟨rfl, rfl, rfl, rfl, trivial⟩, ⟨rfl, hlt, go fun e => h2 (by show ps[i].2 = b; rw [e])⟩, by omega⟩
    · refine ⟨_, next, ?_⟩
      exact ⟨i + 1, ⟨rfl, rfl, rfl, rfl, trivial⟩, ⟨rfl, hlt, go fun e => h1 (by show ps[i].1 = a; rw [e])⟩, by omega⟩
  · have : i = ps.length := by have : ¬ (i : Int) < (ps.length : Nat) := hge; omega
    subst this
    refine ⟨?_, rfl⟩
    have : (a, b) ∉ ps := fun hm => by
      obtain ⟨j, hj, e⟩ := List.getElem_of_mem hm
      exact hall j hj hj e
    rw [decide_eq_false this]
end Go.Proofs.YtdpdjcopkehdjaaGreat.Rk
namespace Go.Proofs.YtdpdjcopkehdjaaGreat.Rk
open Go.Eng Go.RowKit
end Go.Proofs.YtdpdjcopkehdjaaGreat.Rk
namespace Go.Proofs.YtdpdjcopkehdjaaGreat.Rk
open Go.Eng Go.RowKit
theorem Same_spec {w : World} {N : Int} {A B : Option Addr} {xs : List Arrow} {c d : Nat} (hx : Reads w A (arrows xs)) (hy : Reads w B (arrows xs)) (hl : xs.length ≤ 9223372036854775807) :
    CallsV C.P 20 #[relVal N A xs.length c, relVal N B xs.length d] w fun v w' => v = .bool true ∧ Ext w w' := by
  refine callsV_of C_ok (args := [_, _]) (plans := plans20) Tryz.func20 rfl Tryz.ntmps20 (by kernel_rfl) (Nat.le_of_ble_eq_true rfl) ?_
  intro g2 w1 h1
  intro g3 w2 h2
  have M2 : Mem w w2 [(g3, .cells #[.int .i64 N, .slice B xs.length d] 49 (0, 0)), (g2, .cells #[.int .i64 N, .slice A xs.length c] 49 (0, 0))] := ((Mem.start w).alloc h1).alloc h2
  refine ⟨_, M2.cell 1 rfl rfl, ?_⟩
  refine ⟨_, M2.cell 0 rfl rfl, ?_⟩
  refine brE_false (by simp) ?_
  refine ⟨_, M2.cell 1 rfl rfl, ?_⟩
  refine ⟨_, M2.cell 0 rfl rfl, ?_⟩
  refine brE_false (by simp) ?_
  refine loopE C_ok (fun (i : Nat) => [(2, .pointer (some ⟨g2, 0, none⟩)), (3, .pointer (some ⟨g3, 0, none⟩)), (5, .int .i64 i)])
    (fun i w' => w' = w2 ∧ i ≤ xs.length) (fun i => xs.length - i) 0 ⟨rfl, rfl, rfl, trivial⟩ ⟨rfl, Nat.zero_le _⟩ ?_
  rintro i w3 ⟨rfl, hi⟩
  refine ⟨_, M2.cell 1 rfl rfl, ?_⟩
  refine brE_dec (fun hlt => ?_) (fun hge => ?_)
  · have hlt : i < xs.length := by have : (i : Int) < (xs.length : Nat) := hlt; omega
    obtain ⟨b1, o1, hA, hc1⟩ := Reads.arrow hx hlt
    obtain ⟨b2, o2, hB, hc2⟩ := Reads.arrow hy hlt
    refine ⟨_, M2.cell 1 rfl rfl, ?_⟩
    refine ⟨i, b1, o1, rfl, hlt, hA, ?_⟩
    refine ⟨xs[i].cells, rfl, M2.oldRd hc1, ?_⟩
    refine ⟨_, M2.cell 0 rfl rfl, ?_⟩
    refine ⟨i, b2, o2, rfl, hlt, hB, ?_⟩
    refine ⟨xs[i].cells, rfl, M2.oldRd hc2, ?_⟩
    refine ⟨false, neqSame43 _ _ _, ?_⟩
    refine ⟨((i + 1 : Nat) : Int), fit ⟨by omega, by omega⟩, ?_⟩
    exact ⟨i + 1, ⟨rfl, rfl, rfl, trivial⟩, ⟨rfl, hlt⟩, by omega⟩
  · exact ⟨rfl, M2.ext⟩
end Go.Proofs.YtdpdjcopkehdjaaGreat.Rk
namespace Go.Eng
open Go.RowKit Go.Sort Go.Proofs
section
variable {α : Type} [Inhabited α]
theorem flatK_eq {enc : α → List Value} {k : Nat} (hk : ∀ x, (enc x).length = k) (d : Array α) : (flatK enc k d).toList = d.toList.flatMap enc := by
  apply List.ext_getElem?
  intro t
  by_cases ht : t < d.size * k
  · have k0 : 0 < k := by rcases Nat.eq_zero_or_pos k with h | h
                          · subst h; simp at ht
                          · exact h
    have hq : t / k < d.size := Nat.div_lt_of_lt_mul (by rwa [Nat.mul_comm] at ht)
    have hr : t % k < k := Nat.mod_lt _ k0
    have e : t / k * k + t % k = t := by rw [Nat.mul_comm]; exact Nat.div_add_mod t k
    have h1 := flat_get hk d.toList (t / k) (t % k) (by simpa using hq) hr
    rw [e] at h1
    rw [h1]
    have h2 := get_flatK enc k d t ht
    have hs : t < (flatK enc k d).size := by rw [size_flatK]; exact ht
    rw [getElem!_pos (flatK enc k d) t hs, getElem!_pos d (t / k) hq] at h2
    have hl : t % k < (enc d[t / k]).length := by rw [hk]; exact hr
    rw [getElem!_pos (enc d[t / k]) (t % k) hl] at h2
    have e1 : (flatK enc k d).toList[t]? = some ((enc d[t / k])[t % k]) := by
      rw [List.getElem?_eq_getElem (by simpa using hs), Array.getElem_toList, h2]
    have e2 : d.toList[t / k]'(by simpa using hq) = d[t / k] := Array.getElem_toList _
    rw [e1, e2, List.getElem?_eq_getElem hl]
  · rw [List.getElem?_eq_none (by simp; omega), List.getElem?_eq_none (by rw [flat_length hk]; simp; omega)]
theorem sort_row {enc : α → List Value} {k : Nat} (hk : ∀ x, (enc x).length = k) {w : World} {base e cap g : Nat} {l : List α}
    (h : w.ownsRow base e k (.slice (some ⟨g, 0, none⟩) l.length cap) l.length (l.flatMap enc)) :
    HoldsK enc k w g 0 l.toArray ∧ g < w.heap.size ∧ base ≤ g ∧ ∀ (d' : Array α) (m : Nat) (os : Array Obj), d'.size = l.length →
      (sortWorldK enc k w g 0 m d' os).ownsRow base e k (.slice (some ⟨g, 0, none⟩) l.length cap) l.length (d'.toList.flatMap enc) ∧ w.grownBy (sortWorldK enc k w g 0 m d' os) (some g) ∧ Only e w (sortWorldK enc k w g 0 m d' os) := by
  have hlt := (h.lt g rfl)
  obtain ⟨cur, hg, hgB, hcl, hcc, hnc, hxl, htake, _⟩ := ownsRow_open h
  have hm : cap ≤ maxLen := by
    obtain ⟨_, ⟨hv, _⟩ | ⟨g', cap', cur', hv, _, _, _, h4, _⟩⟩ := h
    · cases hv
    · cases hv; exact h4
  have hold : ∀ (d' : Array α) (m : Nat) (os : Array Obj), (sortWorldK enc k w g 0 m d' os).heap = (w.heap.modify g (onCells (putCells id 0 (flatK enc k d')))) ++ os := fun d' m os => rfl
  have hblk : ∀ (d' : Array α) (m : Nat) (os : Array Obj), (sortWorldK enc k w g 0 m d' os).heap[g]? = some (.cells (putCells id 0 (flatK enc k d') cur.toArray) e (0, 0)) := fun d' m os => by
    rw [hold, Array.getElem?_append_left (by simpa using hlt.2), Array.getElem?_modify, if_pos rfl, hg]
    rfl
  have hoth : ∀ (d' : Array α) (m : Nat) (os : Array Obj) (q : Nat), q < w.heap.size → q ≠ g → (sortWorldK enc k w g 0 m d' os).heap[q]? = w.heap[q]? := fun d' m os q hq hne => by
    rw [hold, Array.getElem?_append_left (by simpa using hq), Array.getElem?_modify, if_neg (fun e => hne e.symm)]
  refine ⟨fun j hj => ?_, hlt.2, hgB, fun d' m os hs => ⟨⟨?_, .inr ⟨g, cap, _, rfl, hgB, hblk d' m os, hnc, hm, ?_, ?_⟩⟩, ⟨rfl, rfl, rfl, ?_, fun q hq hne => hoth d' m os q hq (fun e => hne (by rw [e]))⟩, fun q c t fr hq hne => ?_⟩⟩
  · rw [size_flatK] at hj
    have hj' : j < l.length * k := by simpa using hj
    have hc : cur[j]? = some ((flatK enc k l.toArray)[j]!) := by
      have h1 : (l.flatMap enc)[j]? = some ((flatK enc k l.toArray)[j]!) := by
        rw [← show (flatK enc k l.toArray).toList = l.flatMap enc by rw [flatK_eq hk]]
        have hs : j < (flatK enc k l.toArray).size := by rw [size_flatK]; exact hj
        rw [getElem!_pos _ j hs]
        simp
      rw [← h1, ← htake, List.getElem?_take, if_pos (by omega)]
    rw [Nat.zero_add]
    refine ⟨?_, ?_⟩
    · rw [cell_of_block hg (v := (flatK enc k l.toArray)[j]!) (by simpa using hc)]
      rfl
    · simp [World.frozen?, hg]
  · rw [flat_length hk]; simp [hs]
  · simp [putCells, hcc]
  · rw [← flatK_eq hk d']
    apply List.ext_getElem?
    intro t
    rw [List.getElem?_take]
    by_cases ht : t < l.length * k
    · rw [if_pos ht]
      have hsz : t < (flatK enc k d').size := by rw [size_flatK, hs]; exact ht
      have htc : t < cur.length := by omega
      simp only [putCells, Array.getElem?_toList, Array.getElem?_mapIdx, List.getElem?_toArray, List.getElem?_eq_getElem htc, Option.map_some, Nat.zero_le, true_and, Nat.zero_add, Nat.sub_zero, id]
      rw [if_pos hsz, getElem!_pos _ t hsz]
      simp
    · rw [if_neg ht, List.getElem?_eq_none]
      rw [Array.length_toList, size_flatK, hs]; omega
  · rw [hold]; simp
  · by_cases e' : q = g
    · subst e'
      have := hq.symm.trans hg
      simp at this
      exact absurd this.2.1 hne
    · rw [hoth d' m os q (lt_of_heap hq) e']; exact hq
theorem cmpLays_of {P : Program} {g : Nat} {cb : Array Value} {enc : α → List Value} {k : Nat} {cf : α → α → Int} {blk off size : Nat} {w : World}
    (h : ∀ (x y : α) (W : World), CallsV P g (#[.agg (enc x).toArray, .agg (enc y).toArray] ++ cb) W fun v w' => v = .int .i64 (cf x y) ∧ Ext W w') : CmpLays P g cb enc k cf blk off size w := by
  intro m os dk hs x y
  generalize sortWorldK enc k w blk off m dk os = W
  refine (h x y W W (Same.refl W)).mono ?_
  rintro e w' ⟨⟨v, w'', rfl, ⟨rfl, he⟩, hsame⟩, hd⟩
  have he' : Ext W w' := he.same_right hsame
  refine ⟨rfl, w'.drawn - W.drawn, w'.heap.extract W.heap.size w'.heap.size, ?_⟩
  obtain ⟨hp, tp, dr, os', op⟩ := w'
  have h1 : tp = W.tape := he'.tape
  have h2 : os' = W.os := he'.os
  have h3 : op = W.output := he'.output
  have h4 : dr = W.drawn + (dr - W.drawn) := by have : W.drawn ≤ dr := hd rfl; omega
  have h5 : hp = W.heap ++ hp.extract W.heap.size hp.size := by
    apply Array.ext_getElem?
    intro q
    have hsz : W.heap.size ≤ hp.size := he'.size
    by_cases hq : q < W.heap.size
    · rw [Array.getElem?_append_left hq]
      exact he'.block q hq
    · rw [Array.getElem?_append_right (by omega), Array.getElem?_extract]
      by_cases h2 : q < hp.size
      · rw [if_pos (by omega)]
        congr 1; omega
      · rw [if_neg (by omega), Array.getElem?_eq_none (by omega)]
  subst h1 h2 h3
  unfold grow World.drewN
  simp only
  rw [← h4, ← h5]
theorem sortV {P : Program} {f g : Nat} {cb : Array Value} {enc : α → List Value} {k : Nat} (hk : ∀ x, (enc x).length = k) {lt : α → α → Bool}
    (hsort : ∀ (W : World) (blk cap : Nat) (d : Array α), d.size < 4611686018427387904 → HoldsK enc k W blk 0 d → blk < W.heap.size → Calls P f #[.slice (some ⟨blk, 0, none⟩) d.size cap, .func (.func g) #[] cb] W fun e w' =>
      e = .returned (.tuple #[]) ∧ ∃ d' n os, PermIn 0 d.size d d' ∧ SortedIn lt 0 d.size d' ∧ w' = sortWorldK enc k W blk 0 n d' os)
    (hnone : ∀ (A : Option Addr) (cap : Nat) (W : World), Calls P f #[.slice A 0 cap, .func (.func g) #[] cb] W fun e w' => e = .returned (.tuple #[]) ∧ w' = W)
    {w : World} {base e : Nat} {v : Value} {l : List α} (h : w.ownsRow base e k v l.length (l.flatMap enc)) (hlen : l.length < 4611686018427387904) :
    CallsV P f #[v, .func (.func g) #[] cb] w fun r w' => r = .tuple #[] ∧ ∃ l' : List α, l'.Perm l ∧ (l'.Pairwise fun a b => lt b a = false) ∧ w'.ownsRow base e k v l'.length (l'.flatMap enc) ∧ w.grownBy w' v.ownBlock ∧ Only e w w' := by
  refine callsV_of_calls fun w₁ hs => ?_
  have h1 := ownsRow_same hs h
  have turn : ∀ {w' : World} {row : Option Nat}, w₁.grownBy w' row → w.grownBy w' row := fun hg => ⟨hg.os.trans hs.os, hg.tape.trans hs.tape, hg.output.trans hs.output, by rw [← hs.heap]; exact hg.size, fun q hq hne => by rw [← hs.heap] at hq ⊢; exact hg.block q hq hne⟩
  have turnO : ∀ {w' : World}, Only e w₁ w' → Only e w w' := fun ho q c t fr hq hne => ho q c t fr (by rw [hs.heap]; exact hq) hne
  by_cases h0 : l = []
  · subst h0
    obtain ⟨A, c, rfl, _, _⟩ := reads_of_owns h1
    refine (hnone A c w₁).mono ?_
    rintro r w' ⟨rfl, rfl⟩
    exact ⟨_, rfl, ⟨rfl, [], List.Perm.refl _, List.Pairwise.nil, h1, turn (grownBy_refl _ _), turnO (only_ext _ (Ext.refl _))⟩, Nat.le_refl _⟩
  · have hpos : 0 < l.length := List.length_pos_iff.2 h0
    have hv : ∃ q cap, v = .slice (some ⟨q, 0, none⟩) l.length cap := by
      obtain ⟨_, ⟨hv, hn⟩ | ⟨q, cap, cur, hv, _⟩⟩ := h1
      · omega
      · exact ⟨q, cap, hv⟩
    obtain ⟨q, cap, rfl⟩ := hv
    obtain ⟨hH, hlt, hB, hrow⟩ := sort_row hk h1
    have hcall := hsort w₁ q cap l.toArray (by simpa using hlen) hH hlt
    simp only [List.size_toArray] at hcall
    refine hcall.mono ?_
    rintro r w' ⟨rfl, d', n, os, hp, hso, rfl⟩
    have hsz : d'.size = l.length := by simpa using hp.1
    obtain ⟨ho, hg, hon⟩ := hrow d' n os hsz
    have hperm : d'.toList.Perm l := by
      have := hp.2.2
      have e1 : d'.extract 0 l.length = d' := by rw [← hsz]; exact Array.extract_size
      have e2 : l.toArray.extract 0 l.length = l.toArray := by simp
      rw [e1, e2] at this
      simpa using this
    refine ⟨_, rfl, ⟨rfl, d'.toList, hperm, ?_, ?_, turn hg, turnO hon⟩, ?_⟩
    · refine List.pairwise_iff_getElem.2 fun i j hi hj hij => ?_
      have hi' : i < d'.size := by simpa using hi
      have hj' : j < d'.size := by simpa using hj
      have := hso i j (Nat.zero_le _) hij (by omega)
      rw [getElem!_pos d' i hi', getElem!_pos d' j hj'] at this
      simpa using this
    · have e : d'.toList.length = l.length := by rw [Array.length_toList, hsz]
      rw [e]; simpa using ho
    · show w₁.drawn ≤ w₁.drawn + n
      omega
end
end Go.Eng
namespace Go.Proofs.YtdpdjcopkehdjaaGreat.Rk
open Go.Eng Go.RowKit Go.Sort
def sortA_ren : Go.Shelf.Ren := ⟨fun | 6 => 103 | 15 => 141 | 14 => 168 | 28 => 218 | 29 => 219 | 20 => 232 | 21 => 233 | 22 => 234 | 23 => 235 | 24 => 236 | 25 => 237 | 26 => 238 | 27 => 239 | 46 => 271 | 47 => 257 | 48 => 258 | 49 => 272 | 50 => 273 | 57 => 299 | n => n, fun | 22 => 47 | 24 => 60 | 25 => 115 | 3 => 3 | 39 => 163 | 0 => 0 | 53 => 249 | 55 => 251 | 4 => 4 | 46 => 243 | 45 => 242 | 50 => 113 | 5 => 5 | 9 => 9 | 66 => 274 | 70 => 265 | 76 => 289 | 77 => 210 | n => n, fun | n => n⟩
theorem sortA : Go.Proofs.SlLaysF0.n6 Tryz.prog sortA_ren := {
  mixed := by kernel_rfl,
  f6 := ⟨Tryz.f103.name, by decide, Tryz.func103.trans (congrArg some (by kernel_rfl))⟩,
  f14 := ⟨Tryz.f168.name, by decide, Tryz.func168.trans (congrArg some (by kernel_rfl))⟩,
  f15 := Tryz.func141.trans (congrArg some (by kernel_rfl)),
  f20 := ⟨Tryz.f232.name, by decide, Tryz.func232.trans (congrArg some (by kernel_rfl))⟩,
  f21 := ⟨Tryz.f233.name, by decide, Tryz.func233.trans (congrArg some (by kernel_rfl))⟩,
  f22 := ⟨Tryz.f234.name, by decide, Tryz.func234.trans (congrArg some (by kernel_rfl))⟩,
  f23 := ⟨Tryz.f235.name, by decide, Tryz.func235.trans (congrArg some (by kernel_rfl))⟩,
  f24 := ⟨Tryz.f236.name, by decide, Tryz.func236.trans (congrArg some (by kernel_rfl))⟩,
  f25 := ⟨Tryz.f237.name, by decide, Tryz.func237.trans (congrArg some (by kernel_rfl))⟩,
  f26 := ⟨Tryz.f238.name, by decide, Tryz.func238.trans (congrArg some (by kernel_rfl))⟩,
  f27 := ⟨Tryz.f239.name, by decide, Tryz.func239.trans (congrArg some (by kernel_rfl))⟩,
  f28 := Tryz.func218.trans (congrArg some (by kernel_rfl)),
  f29 := Tryz.func219.trans (congrArg some (by kernel_rfl)),
  f46 := ⟨Tryz.f271.name, by decide, Tryz.func271.trans (congrArg some (by kernel_rfl))⟩,
  f47 := Tryz.func257.trans (congrArg some (by kernel_rfl)),
  f48 := Tryz.func258.trans (congrArg some (by kernel_rfl)),
  f49 := ⟨Tryz.f272.name, by decide, Tryz.func272.trans (congrArg some (by kernel_rfl))⟩,
  f50 := ⟨Tryz.f273.name, by decide, Tryz.func273.trans (congrArg some (by kernel_rfl))⟩,
  f57 := ⟨Tryz.f299.name, by decide, Tryz.func299.trans (congrArg some (by kernel_rfl))⟩,
  t0 := Tryz.underlying0,
  a0 := Tryz.isAgg0,
  z0 := Tryz.sizeOf0,
  v0 := Tryz.zeroValue0,
  t3 := Tryz.underlying3,
  a3 := Tryz.isAgg3,
  z3 := Tryz.sizeOf3,
  v3 := Tryz.zeroValue3,
  t4 := Tryz.underlying4,
  a4 := Tryz.isAgg4,
  z4 := Tryz.sizeOf4,
  v4 := Tryz.zeroValue4,
  t5 := Tryz.underlying5,
  a5 := Tryz.isAgg5,
  z5 := Tryz.sizeOf5,
  v5 := Tryz.zeroValue5,
  t9 := Tryz.underlying9,
  a9 := Tryz.isAgg9,
  z9 := Tryz.sizeOf9,
  v9 := Tryz.zeroValue9,
  t22 := Tryz.underlying47,
  a22 := Tryz.isAgg47,
  z22 := Tryz.sizeOf47,
  v22 := Tryz.zeroValue47,
  t25 := Tryz.underlying115,
  a25 := Tryz.isAgg115,
  z25 := Tryz.sizeOf115,
  v25 := Tryz.zeroValue115,
  t39 := Tryz.underlying163,
  a39 := Tryz.isAgg163,
  z39 := Tryz.sizeOf163,
  v39 := Tryz.zeroValue163,
  t45 := Tryz.underlying242,
  a45 := Tryz.isAgg242,
  z45 := Tryz.sizeOf242,
  v45 := Tryz.zeroValue242,
  t46 := Tryz.underlying243,
  a46 := Tryz.isAgg243,
  z46 := Tryz.sizeOf243,
  v46 := Tryz.zeroValue243,
  t50 := Tryz.underlying113,
  a50 := Tryz.isAgg113,
  z50 := Tryz.sizeOf113,
  v50 := Tryz.zeroValue113,
  t53 := Tryz.underlying249,
  a53 := Tryz.isAgg249,
  z53 := Tryz.sizeOf249,
  v53 := Tryz.zeroValue249,
  t55 := Tryz.underlying251,
  a55 := Tryz.isAgg251,
  z55 := Tryz.sizeOf251,
  v55 := Tryz.zeroValue251,
  t66 := Tryz.underlying274,
  a66 := Tryz.isAgg274,
  z66 := Tryz.sizeOf274,
  v66 := Tryz.zeroValue274,
  t70 := Tryz.underlying265,
  a70 := Tryz.isAgg265,
  z70 := Tryz.sizeOf265,
  v70 := Tryz.zeroValue265,
  t76 := Tryz.underlying289,
  a76 := Tryz.isAgg289,
  z76 := Tryz.sizeOf289,
  v76 := Tryz.zeroValue289,
  t77 := Tryz.underlying210,
  a77 := Tryz.isAgg210,
  z77 := Tryz.sizeOf210,
  v77 := Tryz.zeroValue210 }
instance inhArrowS : Inhabited Arrow := ⟨arrowZ⟩
theorem ltOf_cmpA (x y : Arrow) : ltOf cmpA x y = ltA x y := by
  unfold ltOf
  rw [Bool.eq_iff_iff, decide_eq_true_eq, cmpA_lt]
theorem swo_arrow : SWO (ltOf cmpA) where
  irrefl x := by rw [ltOf_cmpA]; simp [ltA]
  trans x y z h1 h2 := by rw [ltOf_cmpA] at *; exact ltA_trans h1 h2
  ntrans x y z h1 h2 := by rw [ltOf_cmpA] at *; simp [ltA] at *; omega
theorem cmp_arrow (x y : Arrow) (W : World) : CallsV C.P 55 (#[.agg x.cells.toArray, .agg y.cells.toArray] ++ #[]) W fun v w' => v = .int .i64 (cmpA x y) ∧ Ext W w' := compareArrows_spec x y W
theorem SortArrows_spec {w : World} {base : Nat} {v : Value} {l : List Arrow} (h : w.ownsRow base 60 4 v l.length (arrows l)) (hlen : l.length < 4611686018427387904) :
    CallsV C.P 103 #[v, .func (.func 55) #[] #[]] w fun r w' => r = .tuple #[] ∧ ∃ l' : List Arrow, l'.Perm l ∧ (l'.Pairwise fun a b => ltA b a = false) ∧ w'.ownsRow base 60 4 v l'.length (arrows l') ∧ w.grownBy w' v.ownBlock ∧ Only 60 w w' := by
  have eg : ∀ args w, (callFunc 55 args).run Tryz.prog w = .ok (.enter 55 args) w := enters_of Tryz.func55 (by kernel_rfl) rfl
  have hlt : ltOf cmpA = ltA := by funext x y; exact ltOf_cmpA x y
  refine (sortV (P := C.P) (f := 103) (g := 55) (cb := #[]) (enc := Arrow.cells) (k := 4) (fun _ => rfl) (lt := ltA) (fun W blk cap d hd hH hb => ?_) (fun A cap W => ?_) h hlen).mono ?_
  · have hcon := AnyQ.slices_SortFunc sortA 4 Tryz.isAgg60 Tryz.sizeOf60 Arrow.cells (fun _ => rfl) (fun x v hv => by simp [Arrow.cells] at hv; rcases hv with rfl | rfl | rfl | rfl <;> rfl) cmpA swo_arrow 55 #[] blk 0 cap d W eg (cmpLays_of cmp_arrow) hH hb hd
    rw [hlt] at hcon
    exact hcon
  · exact AnyF.slices_SortFunc_none sortA A cap _ W
  · exact fun _ _ h => h
end Go.Proofs.YtdpdjcopkehdjaaGreat.Rk
namespace Go.Proofs.YtdpdjcopkehdjaaGreat.Rk
open Go.Eng Go.RowKit
theorem Ver.swap {l : List Rl} {T B : Rl → Bool} {ρ r q : Int} (h : Ver l T B ρ r q) : Ver l B T ρ q r := by
  refine ⟨?_, h.fb, h.fr⟩
  rcases h.top with ⟨e, h2⟩ | ⟨⟨x, hx, hxr, hxt⟩, h2⟩
  · exact .inl ⟨e, fun x hx => (h2 x hx).symm⟩
  · exact .inr ⟨⟨x, hx, hxr, hxt.symm⟩, fun x hx ht => h2 x hx ht.symm⟩
theorem decV_swap (l : List Rl) (T B : Rl → Bool) : decV l B T = ((decV l T B).2, (decV l T B).1) := by
  by_cases hx : ∃ p : Int × Int × Int, Ver l T B p.1 p.2.1 p.2.2
  · obtain ⟨p, hp⟩ := hx
    rw [decV_eq hp, decV_eq hp.swap]
  · have hy : ¬ ∃ p : Int × Int × Int, Ver l B T p.1 p.2.1 p.2.2 := fun ⟨p, hp⟩ => hx ⟨(p.1, p.2.2, p.2.1), hp.swap⟩
    unfold decV
    rw [dif_neg hx, dif_neg hy]
theorem decE_swap (l : List Rl) (a b : Prof) : decE l a b = decE l b a := by
  have e : (if a.Ok ∧ b.Ok then (0 : Int) else 1) = if b.Ok ∧ a.Ok then 0 else 1 := by
    by_cases h : a.Ok ∧ b.Ok
    · rw [if_pos h, if_pos h.symm]
    · rw [if_neg h, if_neg (fun e => h e.symm)]
  unfold decE
  rw [e]
theorem ruled_back (l : List Rl) (a b : Prof) : ruledI l b a = if decE l a b = 0 then (decP l a b).2 else -1 := by
  unfold ruledI
  rw [decE_swap l b a]
  have : decP l b a = ((decP l a b).2, (decP l a b).1) := decV_swap l _ _
  rw [this]
def wtOf (l : List Rl) (n : Int) : Int := (l.getD n.toNat default).weight
noncomputable def arrF (l : List Rl) (p : List Prof) (a b : Nat) : List Arrow := if ruledI l (p.getD a default) (p.getD b default) ≥ 0 then [⟨(a : Nat), (b : Nat), ruledI l (p.getD a default) (p.getD b default), wtOf l (ruledI l (p.getD a default) (p.getD b default))⟩] else []
theorem arrF_mem {l : List Rl} {p : List Prof} {a b : Nat} {x : Arrow} (h : x ∈ arrF l p a b) : x.fr = (a : Nat) ∧ x.to = (b : Nat) := by
  unfold arrF at h
  split at h
  · rw [List.mem_singleton.1 h]; exact ⟨rfl, rfl⟩
  · cases h
theorem arrF_nodup (l : List Rl) (p : List Prof) (a b : Nat) (R : Arrow → Arrow → Prop) : (arrF l p a b).Pairwise R := by
  unfold arrF
  split
  · exact List.pairwise_singleton _ _
  · exact List.Pairwise.nil
noncomputable def rwR (l : List Rl) (p : List Prof) (a k : Nat) : List Arrow := (List.range k).flatMap fun b => if a = b then [] else arrF l p a b
noncomputable def relL (l : List Rl) (p : List Prof) : List Arrow := (List.range p.length).flatMap fun a => rwR l p a p.length
noncomputable def rwP (l : List Rl) (p : List Prof) (a k : Nat) : List Arrow := (List.range k).flatMap fun b => if a < b then arrF l p a b ++ arrF l p b a else []
noncomputable def progTo (l : List Rl) (p : List Prof) (a : Nat) : List Arrow := (List.range a).flatMap fun a => rwP l p a p.length
theorem rwR_succ (l : List Rl) (p : List Prof) (a k : Nat) : rwR l p a (k + 1) = rwR l p a k ++ if a = k then [] else arrF l p a k := by
  unfold rwR; rw [List.range_succ, List.flatMap_append]; simp
theorem rwP_succ (l : List Rl) (p : List Prof) (a k : Nat) : rwP l p a (k + 1) = rwP l p a k ++ if a < k then arrF l p a k ++ arrF l p k a else [] := by
  unfold rwP; rw [List.range_succ, List.flatMap_append]; simp
theorem rwP_none (l : List Rl) (p : List Prof) (a k : Nat) (h : k ≤ a + 1) : rwP l p a k = [] := by
  unfold rwP
  rw [List.flatMap_eq_nil_iff]
  intro b hb
  rw [if_neg (by have := List.mem_range.1 hb; omega)]
theorem progTo_succ (l : List Rl) (p : List Prof) (a : Nat) : progTo l p (a + 1) = progTo l p a ++ rwP l p a p.length := by
  unfold progTo; rw [List.range_succ, List.flatMap_append]; simp
theorem mem_rwR {l : List Rl} {p : List Prof} {a k : Nat} {x : Arrow} : x ∈ rwR l p a k ↔ ∃ b, b < k ∧ a ≠ b ∧ x ∈ arrF l p a b := by
  unfold rwR
  rw [List.mem_flatMap]
  constructor
  · rintro ⟨b, hb, hx⟩
    by_cases e : a = b
    · rw [if_pos e] at hx; cases hx
    · rw [if_neg e] at hx; exact ⟨b, List.mem_range.1 hb, e, hx⟩
  · rintro ⟨b, hb, e, hx⟩
    exact ⟨b, List.mem_range.2 hb, by rw [if_neg e]; exact hx⟩
theorem mem_rwP {l : List Rl} {p : List Prof} {a k : Nat} {x : Arrow} : x ∈ rwP l p a k ↔ ∃ b, b < k ∧ a < b ∧ (x ∈ arrF l p a b ∨ x ∈ arrF l p b a) := by
  unfold rwP
  rw [List.mem_flatMap]
  constructor
  · rintro ⟨b, hb, hx⟩
    by_cases e : a < b
    · rw [if_pos e] at hx; exact ⟨b, List.mem_range.1 hb, e, List.mem_append.1 hx⟩
    · rw [if_neg e] at hx; cases hx
  · rintro ⟨b, hb, e, hx⟩
    exact ⟨b, List.mem_range.2 hb, by rw [if_pos e]; exact List.mem_append.2 hx⟩
theorem relL_sorted (l : List Rl) (p : List Prof) : (relL l p).Pairwise fun x y => ltA x y = true := by
  unfold relL
  refine List.pairwise_flatMap.2 ⟨fun a _ => ?_, ?_⟩
  · unfold rwR
    refine List.pairwise_flatMap.2 ⟨fun b _ => ?_, ?_⟩
    · split
      · exact List.Pairwise.nil
      · exact arrF_nodup _ _ _ _ _
    · refine List.Pairwise.imp (R := fun a b => a < b) (fun {b1 b2} hlt x hx y hy => ?_) List.pairwise_lt_range
      have hx : x ∈ arrF l p a b1 := by split at hx; (· cases hx); exact hx
      have hy : y ∈ arrF l p a b2 := by split at hy; (· cases hy); exact hy
      obtain ⟨x1, x2⟩ := arrF_mem hx
      obtain ⟨y1, y2⟩ := arrF_mem hy
      exact decide_eq_true (by omega)
  · refine List.Pairwise.imp (R := fun a b => a < b) (fun {a1 a2} hlt x hx y hy => ?_) List.pairwise_lt_range
    obtain ⟨b1, _, _, hx⟩ := mem_rwR.1 hx
    obtain ⟨b2, _, _, hy⟩ := mem_rwR.1 hy
    obtain ⟨x1, x2⟩ := arrF_mem hx
    obtain ⟨y1, y2⟩ := arrF_mem hy
    exact decide_eq_true (by omega)
theorem progTo_nodup (l : List Rl) (p : List Prof) (k : Nat) : (progTo l p k).Nodup := by
  unfold progTo
  refine List.pairwise_flatMap.2 ⟨fun a _ => ?_, ?_⟩
  · unfold rwP
    refine List.pairwise_flatMap.2 ⟨fun b _ => ?_, ?_⟩
    · split
      · next hab =>
        refine List.pairwise_append.2 ⟨arrF_nodup _ _ _ _ _, arrF_nodup _ _ _ _ _, fun x hx y hy e => ?_⟩
        obtain ⟨x1, x2⟩ := arrF_mem hx
        obtain ⟨y1, y2⟩ := arrF_mem hy
        rw [e] at x1
        omega
      · exact List.Pairwise.nil
    · refine List.Pairwise.imp (R := fun a b => a < b) (fun {b1 b2} hlt x hx y hy e => ?_) List.pairwise_lt_range
      by_cases c1 : a < b1
      · by_cases c2 : a < b2
        · rw [if_pos c1] at hx
          rw [if_pos c2] at hy
          rw [e] at hx
          rcases List.mem_append.1 hx with hx | hx <;> rcases List.mem_append.1 hy with hy | hy <;>
          · obtain ⟨x1, x2⟩ := arrF_mem hx
            obtain ⟨y1, y2⟩ := arrF_mem hy
            omega
        · rw [if_neg c2] at hy; cases hy
      · rw [if_neg c1] at hx; cases hx
  · refine List.Pairwise.imp (R := fun a b => a < b) (fun {a1 a2} hlt x hx y hy e => ?_) List.pairwise_lt_range
    obtain ⟨b1, _, _, hx⟩ := mem_rwP.1 hx
    obtain ⟨b2, _, _, hy⟩ := mem_rwP.1 hy
    rw [e] at hx
    rcases hx with hx | hx <;> rcases hy with hy | hy <;>
    · obtain ⟨x1, x2⟩ := arrF_mem hx
      obtain ⟨y1, y2⟩ := arrF_mem hy
      omega
theorem prog_perm (l : List Rl) (p : List Prof) : (progTo l p p.length).Perm (relL l p) := by
  have nd : (relL l p).Nodup := (relL_sorted l p).imp fun h e => by rw [e, ltA_iff] at h; omega
  refine (List.perm_ext_iff_of_nodup (progTo_nodup l p _) nd).2 fun x => ?_
  unfold progTo relL
  simp only [List.mem_flatMap, List.mem_range, mem_rwP, mem_rwR]
  constructor
  · rintro ⟨a, ha, b, hb, hab, hx | hx⟩
    · exact ⟨a, ha, b, hb, by omega, hx⟩
    · exact ⟨b, hb, a, ha, by omega, hx⟩
  · rintro ⟨a, ha, b, hb, hab, hx⟩
    rcases Nat.lt_or_gt_of_ne hab with h | h
    · exact ⟨a, ha, b, hb, h, .inl hx⟩
    · exact ⟨b, hb, a, ha, h, .inr hx⟩
theorem sorted_rel {l : List Rl} {p : List Prof} {L : List Arrow} (hp : L.Perm (progTo l p p.length)) (hs : L.Pairwise fun a b => ltA b a = false) : L = relL l p := by
  refine List.Perm.eq_of_pairwise (le := fun a b => ltA b a = false) (fun a b ha hb h1 h2 => ?_) hs ((relL_sorted l p).imp fun {a b} h => ?_) (hp.trans (prog_perm l p))
  · -- two arrows neither of which is before the other one: the same ends
    have ha' := (hp.trans (prog_perm l p)).mem_iff.1 ha
    have hfr : a.fr = b.fr ∧ a.to = b.to := by
      have h1 : ¬ (b.fr < a.fr ∨ b.fr = a.fr ∧ b.to < a.to) := of_decide_eq_false h1
      have h2 : ¬ (a.fr < b.fr ∨ a.fr = b.fr ∧ a.to < b.to) := of_decide_eq_false h2
      omega
    unfold relL at ha' hb
    simp only [List.mem_flatMap, List.mem_range, mem_rwR] at ha' hb
    obtain ⟨a1, _, b1, _, _, hx⟩ := ha'
    obtain ⟨a2, _, b2, _, _, hy⟩ := hb
    obtain ⟨x1, x2⟩ := arrF_mem hx
    obtain ⟨y1, y2⟩ := arrF_mem hy
    have e1 : a1 = a2 := by omega
    have e2 : b1 = b2 := by omega
    subst e1 e2
    unfold arrF at hx hy
    split at hx
    · rename_i hc
      rw [if_pos hc] at hy
      rw [List.mem_singleton.1 hx, List.mem_singleton.1 hy]
    · cases hx
  · have h : a.fr < b.fr ∨ a.fr = b.fr ∧ a.to < b.to := ltA_iff.1 h
    exact decide_eq_false (by omega)
end Go.Proofs.YtdpdjcopkehdjaaGreat.Rk
namespace Go.Proofs.YtdpdjcopkehdjaaGreat.Rk
open Go.Eng Go.RowKit
theorem firstI_lt (l : List Rl) (ρ : Int) (T : Rl → Bool) : firstI l ρ T < (l.length : Nat) := by
  unfold firstI
  split
  · rename_i i hi
    have := (List.findIdx?_eq_some_iff_getElem.1 hi).1
    omega
  · omega
theorem ruledI_lt (l : List Rl) (a b : Prof) : ruledI l a b < (l.length : Nat) := by
  unfold ruledI
  split
  · unfold decP decV
    split
    · rename_i hx
      rw [show ((hx.choose.2.1, hx.choose.2.2) : Int × Int).1 = hx.choose.2.1 from rfl, hx.choose_spec.fr]
      exact firstI_lt _ _ _
    · show (-1 : Int) < _; omega
  · omega
theorem ver_parts (l : List Rl) (a b : Prof) : ∃ k r q : Int, (if decE l a b = 0 then verV (decP l a b) else .agg (verC 0 0 0).toArray) = .agg (verC k r q).toArray ∧ ((k = 1 ∨ k = 3) ↔ ruledI l a b ≥ 0) ∧ (ruledI l a b ≥ 0 → r = ruledI l a b) ∧ ((k = 2 ∨ k = 3) ↔ ruledI l b a ≥ 0) ∧ (ruledI l b a ≥ 0 → q = ruledI l b a) := by
  by_cases hd : decE l a b = 0
  · have e1 : ruledI l a b = (decP l a b).1 := if_pos hd
    have e2 : ruledI l b a = (decP l a b).2 := (ruled_back l a b).trans (if_pos hd)
    rw [if_pos hd, e1, e2]
    refine ⟨kindV (decP l a b), (decP l a b).1, (decP l a b).2, rfl, ?_, fun _ => rfl, ?_, fun _ => rfl⟩
    · unfold kindV
      by_cases h1 : (decP l a b).1 ≥ 0 <;> by_cases h2 : (decP l a b).2 ≥ 0 <;> simp [h1, h2]
    · unfold kindV
      by_cases h1 : (decP l a b).1 ≥ 0 <;> by_cases h2 : (decP l a b).2 ≥ 0 <;> simp [h1, h2]
  · have e1 : ruledI l a b = -1 := if_neg hd
    have e2 : ruledI l b a = -1 := (ruled_back l a b).trans (if_neg hd)
    rw [if_neg hd, e1, e2]
    exact ⟨0, 0, 0, rfl, by decide, fun h => absurd h (by decide), by decide, fun h => absurd h (by decide)⟩
theorem wtOf_nat {l : List Rl} {n : Nat} (h : n < l.length) : wtOf l (n : Nat) = l[n].weight := by
  unfold wtOf
  rw [Int.toNat_natCast, List.getD_eq_getElem?_getD, List.getElem?_eq_getElem h]; rfl
set_option maxRecDepth 100000 in
set_option maxHeartbeats 8000000 in
theorem decided_spec {w : World} {R P : Option Addr} {l : List Rl} {c : Nat} (h : HRs w R l c) {p : List Prof} {cp : Nat} (hP : HL Prof.cells w P p cp) {a b : Nat} (ha : a < p.length) (hb : b < p.length) (hp : p.length ≤ 2 ^ 20) :
    CallsV C.P 102 #[.agg #[.slice R l.length c], .slice P p.length cp, .int .i64 (a : Nat), .int .i64 (b : Nat)] w fun v w' => NewL Arrow.cells 60 4 w.heap.size w' v (arrF l p a b ++ arrF l p b a) ∧ Ext w w' := by
  obtain ⟨x, hx⟩ : ∃ x, x = p[a] := ⟨_, rfl⟩
  obtain ⟨y, hy⟩ : ∃ y, y = p[b] := ⟨_, rfl⟩
  have gx : p.getD a default = x := by rw [List.getD_eq_getElem?_getD, List.getElem?_eq_getElem ha, hx]; rfl
  have gy : p.getD b default = y := by rw [List.getD_eq_getElem?_getD, List.getElem?_eq_getElem hb, hy]; rfl
  obtain ⟨k, r, q, hv, hk1, hr1, hk2, hq1⟩ := ver_parts l x y
  have fa : arrF l p a b = if ruledI l x y ≥ 0 then [⟨(a : Nat), (b : Nat), ruledI l x y, wtOf l (ruledI l x y)⟩] else [] := by unfold arrF; rw [gx, gy]
  have fb : arrF l p b a = if ruledI l y x ≥ 0 then [⟨(b : Nat), (a : Nat), ruledI l y x, wtOf l (ruledI l y x)⟩] else [] := by unfold arrF; rw [gx, gy]
  have l1 := ruledI_lt l x y
  have l2 := ruledI_lt l y x
  obtain ⟨F1, hF1⟩ : ∃ F1, F1 = arrF l p a b := ⟨_, rfl⟩
  obtain ⟨F2, hF2⟩ : ∃ F2, F2 = arrF l p b a := ⟨_, rfl⟩
  rw [← hF1] at fa ⊢
  rw [← hF2] at fb ⊢
  refine callsV_ofS (args := [_, _, _, _]) Tryz.func102 rfl Tryz.ntmps102 C_ok (Nat.le_of_ble_eq_true rfl) ?_
  refine Snd.go C_ok plans102 (by kernel_rfl) ?_
  intro g4 w1 h1
  have M1 : Mem w w1 [(g4, .cells #[.slice R l.length c] 29 (0, 0))] := (Mem.start w).alloc h1
  refine ⟨Snd.join C_ok plans102 (fun g9 : Nat => [(2, .int .i64 (a : Nat)), (3, .int .i64 (b : Nat)), (4, .pointer (some ⟨g4, 0, none⟩)), (9, .pointer (some ⟨g9, 0, none⟩))])
    (fun g9 w' => Mem w w' [(g9, .cells (verC k r q).toArray 64 (0, 0)), (g4, .cells #[.slice R l.length c] 29 (0, 0))]) (by kernel_rfl) ?_ ?_⟩
  · obtain ⟨b1, o1, hA1, hc1⟩ := (hP.ext M1.ext).at (k := 7) (fun _ => rfl) (by omega) ha
    obtain ⟨b2, o2, hA2, hc2⟩ := (hP.ext M1.ext).at (k := 7) (fun _ => rfl) (by omega) hb
    rw [← hx] at hc1
    rw [← hy] at hc2
    have X := fun w' (e : Ext w w') => Decide_spec (h.ext e) x y
    rw [hv] at X
    refine ⟨[.slice R l.length c], rfl, M1.rd 0 rfl, ?_⟩
    refine ⟨a, b1, o1, rfl, ha, hA1, ?_⟩
    refine ⟨x.cells, rfl, hc1, ?_⟩
    refine ⟨b, b2, o2, rfl, hb, hA2, ?_⟩
    refine ⟨y.cells, rfl, hc2, ?_⟩
    refine ⟨?A, ?B⟩
    case A =>
      refine (X _ M1.ext).mono ?_
      rintro v w2 ⟨rfl, e2⟩
      refine ⟨e2, ?_⟩
      intro g9 w3 h3
      refine ⟨h3.ext, ?_⟩
      have M := (M1.grow e2).alloc h3
      refine ⟨rfl, _, _, M.get 0 rfl, Nat.le_of_ble_eq_true rfl, rfl, ?_⟩
      intro w4 h4
      exact ⟨g9, ⟨rfl, rfl, rfl, rfl, trivial⟩, M.put 0 rfl h4⟩
    case B =>
      intro g9 w3 h3
      refine ⟨h3.ext, ?_⟩
      refine (X _ (M1.ext.trans h3.ext)).mono ?_
      rintro v w2 ⟨rfl, e2⟩
      refine ⟨e2, ?_⟩
      have M := (M1.alloc h3).grow e2
      refine ⟨rfl, _, _, M.get 0 rfl, Nat.le_of_ble_eq_true rfl, rfl, ?_⟩
      intro w4 h4
      exact ⟨g9, ⟨rfl, rfl, rfl, rfl, trivial⟩, M.put 0 rfl h4⟩
  clear M1 h1
  rintro g9 w3 M
  have hlt9 : g9 < w3.heap.size := M.lt (List.mem_cons_self)
  have hlt4 : g4 < w3.heap.size := M.lt (List.mem_cons_of_mem _ (List.mem_cons_self))
  have hw3 : w.heap.size ≤ w3.heap.size := M.ext.size
  have keep : ∀ {w5 w6 : World} {v : Value} {n : Nat} {cs : List Value}, Mem w w5 [(g9, .cells (verC k r q).toArray 64 (0, 0)), (g4, .cells #[.slice R l.length c] 29 (0, 0))] → w5.ownsRow w3.heap.size 60 4 v n cs → w5.grownBy w6 v.ownBlock → Mem w w6 [(g9, .cells (verC k r q).toArray 64 (0, 0)), (g4, .cells #[.slice R l.length c] 29 (0, 0))] := by
    intro w5 w6 v n cs MM ho hg
    refine MM.grown hg (fun j hj => Nat.le_trans hw3 (ho.lt j hj).1) (fun pp hpp e => ?_)
    have := (ho.lt pp.1 e.symm).1
    simp only [List.mem_cons, List.not_mem_nil, or_false] at hpp
    rcases hpp with rfl | rfl <;> simp only at this <;> omega
  refine Snd.go C_ok plans102 (by kernel_rfl) ?_
  refine ⟨Snd.join C_ok plans102 (fun v : Value => [(2, .int .i64 (a : Nat)), (3, .int .i64 (b : Nat)), (4, .pointer (some ⟨g4, 0, none⟩)), (9, .pointer (some ⟨g9, 0, none⟩)), (11, v)])
    (fun v w' => Mem w w' [(g9, .cells (verC k r q).toArray 64 (0, 0)), (g4, .cells #[.slice R l.length c] 29 (0, 0))] ∧ NewL Arrow.cells 60 4 w3.heap.size w' v F1 ∧ w3.heap.size ≤ w'.heap.size) (by kernel_rfl) ?_ ?_⟩
  · refine ⟨_, M.cell 0 (i := 0) rfl rfl, ?_⟩
    refine brE_dec (fun c1 => ?Y1) (fun c1 => ?N1)
    case' Y1 =>
      have hyes : ruledI l x y ≥ 0 := hk1.1 (.inl c1)
    case' N1 =>
      have c1 : ¬ k = 1 := c1
      refine ⟨_, M.cell 0 (i := 0) rfl rfl, ?_⟩
      refine brE_dec (fun c3 => ?Y3) (fun c3 => ?N3)
      case' N3 =>
        have c3 : ¬ k = 3 := c3
        have hno : ¬ ruledI l x y ≥ 0 := fun e => (hk1.2 e).elim c1 c3
        refine ⟨.slice none 0 0, ⟨rfl, rfl, rfl, rfl, rfl, trivial⟩, M, ?_, Nat.le_refl _⟩
        rw [fa, if_neg hno]; exact newL_nil
      case' Y3 =>
        have hyes : ruledI l x y ≥ 0 := hk1.1 (.inr c3)
    all_goals
      have er := hr1 hyes
      obtain ⟨n, hn⟩ := Int.eq_ofNat_of_zero_le (show 0 ≤ r by omega)
      have hnl : n < l.length := by omega
      have fa2 : F1 = [⟨(a : Nat), (b : Nat), (n : Nat), l[n].weight⟩] := by rw [fa, if_pos hyes, ← er, hn, wtOf_nat hnl]
      obtain ⟨bb, oo, hR, hc8⟩ := (h.ext M.ext).at hnl
      refine ⟨_, M.cell 0 (i := 1) rfl rfl, ?_⟩
      refine ⟨_, M.cell 1 rfl rfl, ?_⟩
      refine ⟨_, M.cell 0 (i := 1) rfl rfl, ?_⟩
      refine ⟨n, bb, oo, hn, hnl, hR, ?_⟩
      refine ⟨_, hc8 2 _ rfl, ?_⟩
      intro g12 w5 h5
      have M5 := M.grow h5.ext
      have ho : NewL Arrow.cells 60 4 w3.heap.size w5 (.slice none 0 0) ([] : List Arrow) := newL_nil
      refine ⟨rfl, rfl, rfl, w3.heap.size, _, _, (Arrow.mk (a : Nat) (b : Nat) r l[n].weight).cells, ho, h5.ext.size, Nat.le_of_ble_eq_true rfl, rfl, rfl, .inr ⟨g12, 0, rfl, Rd.of_block h5.here⟩, rfl, rfl, by simp, by simp [maxLen], ?_⟩
      intro v6 w6 ho6 hg6 hpl6
      refine ⟨v6, ⟨rfl, rfl, rfl, rfl, rfl, trivial⟩, keep M5 ho hg6, ?_, Nat.le_trans h5.ext.size hg6.size⟩
      rw [fa2, ← hn]
      exact ho6
  clear M
  rintro v1 w5 ⟨M, ho1, hsz5⟩
  have hf1 : F1.length ≤ 1 := by rw [fa]; split <;> simp
  refine Snd.join C_ok plans102 (fun v : Value => [(11, v)])
    (fun v w' => Mem w w' [(g9, .cells (verC k r q).toArray 64 (0, 0)), (g4, .cells #[.slice R l.length c] 29 (0, 0))] ∧ NewL Arrow.cells 60 4 w3.heap.size w' v (F1 ++ F2)) (by kernel_rfl) ?_ ?_
  · refine ⟨_, M.cell 0 (i := 0) rfl rfl, ?_⟩
    refine brE_dec (fun c1 => ?Y1b) (fun c1 => ?N1b)
    case' Y1b =>
      have hyes : ruledI l y x ≥ 0 := hk2.1 (.inl c1)
    case' N1b =>
      have c1 : ¬ k = 2 := c1
      refine ⟨_, M.cell 0 (i := 0) rfl rfl, ?_⟩
      refine brE_dec (fun c3 => ?Y3b) (fun c3 => ?N3b)
      case' N3b =>
        have c3 : ¬ k = 3 := c3
        have hno : ¬ ruledI l y x ≥ 0 := fun e => (hk2.2 e).elim c1 c3
        refine ⟨v1, ⟨rfl, trivial⟩, M, ?_⟩
        rw [fb, if_neg hno, List.append_nil]; exact ho1
      case' Y3b =>
        have hyes : ruledI l y x ≥ 0 := hk2.1 (.inr c3)
    all_goals
      have er := hq1 hyes
      obtain ⟨n, hn⟩ := Int.eq_ofNat_of_zero_le (show 0 ≤ q by omega)
      have hnl : n < l.length := by omega
      have fb2 : F2 = [⟨(b : Nat), (a : Nat), (n : Nat), l[n].weight⟩] := by rw [fb, if_pos hyes, ← er, hn, wtOf_nat hnl]
      obtain ⟨bb, oo, hR, hc8⟩ := (h.ext M.ext).at hnl
      refine ⟨_, M.cell 0 (i := 2) rfl rfl, ?_⟩
      refine ⟨_, M.cell 1 rfl rfl, ?_⟩
      refine ⟨_, M.cell 0 (i := 2) rfl rfl, ?_⟩
      refine ⟨n, bb, oo, hn, hnl, hR, ?_⟩
      refine ⟨_, hc8 2 _ rfl, ?_⟩
      intro g12 w6 h6
      have M6 := M.grow h6.ext
      have ho := ho1.ext h6.ext
      refine ⟨rfl, rfl, rfl, w3.heap.size, _, _, (Arrow.mk (b : Nat) (a : Nat) q l[n].weight).cells, ho, Nat.le_trans hsz5 h6.ext.size, Nat.le_of_ble_eq_true rfl, rfl, rfl, .inr ⟨g12, 0, rfl, Rd.of_block h6.here⟩, rfl, rfl, by omega, by simp only [maxLen]; omega, ?_⟩
      intro v7 w7 ho7 hg7 hpl7
      refine ⟨v7, ⟨rfl, trivial⟩, keep M6 ho hg7, ?_⟩
      rw [fb2, ← hn]
      unfold NewL
      rw [List.length_append, List.flatMap_append]
      simpa using ho7
  clear M
  rintro v8 w8 ⟨M, ho8⟩
  refine Snd.fin C_ok (plans := plans102) (by kernel_rfl) ?_
  exact ⟨ho8.base hw3, M.ext⟩
end Go.Proofs.YtdpdjcopkehdjaaGreat.Rk
namespace Go.Proofs.YtdpdjcopkehdjaaGreat.Rk
open Go.Eng Go.RowKit
theorem arrF_le (l : List Rl) (p : List Prof) (a b : Nat) : (arrF l p a b).length ≤ 1 := by unfold arrF; split <;> simp
theorem rwP_le (l : List Rl) (p : List Prof) (a k : Nat) : (rwP l p a k).length ≤ 2 * k := by
  induction k with
  | zero => simp [rwP]
  | succ k ih =>
    rw [rwP_succ, List.length_append]
    have h1 := arrF_le l p a k
    have h2 := arrF_le l p k a
    have : (if a < k then arrF l p a k ++ arrF l p k a else []).length ≤ 2 := by
      split
      · rw [List.length_append]; omega
      · simp
    omega
theorem progTo_le (l : List Rl) (p : List Prof) (a : Nat) : (progTo l p a).length ≤ a * (2 * p.length) := by
  induction a with
  | zero => simp [progTo]
  | succ a ih =>
    rw [progTo_succ, List.length_append]
    have := rwP_le l p a p.length
    rw [Nat.succ_mul]; omega
theorem arrows_one (L : List Arrow) : (L.flatMap Arrow.cells).all (·.oneCell') = true := by
  rw [List.all_eq_true]
  intro v hv
  obtain ⟨x, _, hx⟩ := List.mem_flatMap.1 hv
  simp only [Arrow.cells, List.mem_cons, List.not_mem_nil, or_false] at hx
  rcases hx with rfl | rfl | rfl | rfl <;> rfl
set_option maxRecDepth 100000 in
set_option maxHeartbeats 8000000 in
theorem relate_spec {w : World} {R P : Option Addr} {l : List Rl} {c : Nat} (h : HRs w R l c) {p : List Prof} {cp : Nat} (hP : HL Prof.cells w P p cp) (hp : p.length ≤ 24) :
    CallsV C.P 47 #[.agg #[.slice R l.length c], .slice P p.length cp] w fun v w' => NewRel w.heap.size w' v (p.length : Nat) (relL l p) ∧ Ext w w' := by
  refine callsV_of C_ok (args := [_, _]) (plans := plans47) Tryz.func47 rfl Tryz.ntmps47 (by kernel_rfl) (Nat.le_of_ble_eq_true rfl) ?_
  intro g2 w1 h1
  have M : Mem w w1 [(g2, .cells #[.slice R l.length c] 29 (0, 0))] := (Mem.start w).alloc h1
  intro g4 w2 h2
  have M : Mem w w2 [(g4, .cells #[.int .i64 0, .slice none 0 0] 49 (0, 0)), (g2, .cells #[.slice R l.length c] 29 (0, 0))] := M.alloc h2
  intro g5 w3 h3
  have M := M.alloc h3
  refine ⟨rfl, _, _, M.get 0 rfl, Nat.le_of_ble_eq_true rfl, rfl, ?_⟩
  intro w4 h4
  have M : Mem w w4 [(g5, .cells #[.int .i64 (p.length : Nat), .slice none 0 0] 49 (0, 0)), (g4, .cells #[.int .i64 0, .slice none 0 0] 49 (0, 0)), (g2, .cells #[.slice R l.length c] 29 (0, 0))] := M.put 0 rfl h4
  clear h1 h2 h3 h4
  obtain ⟨B, hB⟩ : ∃ B, B = w4.heap.size := ⟨_, rfl⟩
  have hwB : w.heap.size ≤ B := by rw [hB]; exact M.ext.size
  have b5 : g5 < B := by rw [hB]; exact M.lt List.mem_cons_self
  have b4 : g4 < B := by rw [hB]; exact M.lt (List.mem_cons_of_mem _ List.mem_cons_self)
  have b2 : g2 < B := by rw [hB]; exact M.lt (List.mem_cons_of_mem _ (List.mem_cons_of_mem _ List.mem_cons_self))
  have keep : ∀ {w5 w6 : World} {v u : Value} {cs : List Value} {n : Nat}, Mem w w5 [(g5, .cells #[.int .i64 (p.length : Nat), u] 49 (0, 0)), (g4, .cells #[.int .i64 0, .slice none 0 0] 49 (0, 0)), (g2, .cells #[.slice R l.length c] 29 (0, 0))] → w5.ownsRow B 60 4 v n cs → w5.grownBy w6 v.ownBlock →
      Mem w w6 [(g5, .cells #[.int .i64 (p.length : Nat), u] 49 (0, 0)), (g4, .cells #[.int .i64 0, .slice none 0 0] 49 (0, 0)), (g2, .cells #[.slice R l.length c] 29 (0, 0))] := by
    intro w5 w6 v u cs n MM ho hg
    refine MM.grown hg (fun j hj => Nat.le_trans hwB (ho.lt j hj).1) (fun pp hpp e => ?_)
    have := (ho.lt pp.1 e.symm).1
    simp only [List.mem_cons, List.not_mem_nil, or_false] at hpp
    rcases hpp with rfl | rfl | rfl <;> simp only at this <;> omega
  refine loopE C_ok (fun (s : Nat × Value) => [(1, .slice P p.length cp), (2, .pointer (some ⟨g2, 0, none⟩)), (4, .pointer (some ⟨g4, 0, none⟩)), (5, .pointer (some ⟨g5, 0, none⟩)), (12, .int .i64 (p.length : Nat)), (13, .int .i64 (s.1 : Nat))])
    (fun s w' => s.1 ≤ p.length ∧ Mem w w' [(g5, .cells #[.int .i64 (p.length : Nat), s.2] 49 (0, 0)), (g4, .cells #[.int .i64 0, .slice none 0 0] 49 (0, 0)), (g2, .cells #[.slice R l.length c] 29 (0, 0))] ∧ NewL Arrow.cells 60 4 B w' s.2 (progTo l p s.1) ∧ B ≤ w'.heap.size)
    (fun s => p.length - s.1) (0, .slice none 0 0) ⟨rfl, rfl, rfl, rfl, rfl, rfl, trivial⟩ ⟨Nat.zero_le _, M, newL_nil, Nat.le_of_eq hB⟩ ?_
  clear M hB
  rintro ⟨a, v⟩ w5 ⟨ha', M', ho', hs'⟩
  have ha : a ≤ p.length := ha'
  have M : Mem w w5 [(g5, .cells #[.int .i64 (p.length : Nat), v] 49 (0, 0)), (g4, .cells #[.int .i64 0, .slice none 0 0] 49 (0, 0)), (g2, .cells #[.slice R l.length c] 29 (0, 0))] := M'
  have ho : NewL Arrow.cells 60 4 B w5 v (progTo l p a) := ho'
  have hs : B ≤ w5.heap.size := hs'
  clear ha' M' ho' hs'
  refine brE_dec (fun hlt => ?_) (fun hge => ?_)
  · have hlta : a < p.length := by have : (a : Int) < (p.length : Nat) := hlt; omega
    have next : IntKind.i64.wrap ((a : Int) + 1) = ((a + 1 : Nat) : Int) := fit ⟨by omega, by omega⟩
    refine ⟨_, next, ?_⟩
    refine loopE C_ok (fun (s : Nat × Value) => [(1, .slice P p.length cp), (2, .pointer (some ⟨g2, 0, none⟩)), (4, .pointer (some ⟨g4, 0, none⟩)), (5, .pointer (some ⟨g5, 0, none⟩)), (6, .int .i64 (a : Nat)), (7, .int .i64 (s.1 : Nat)), (12, .int .i64 (p.length : Nat)), (13, .int .i64 (a : Nat))])
      (fun s w' => a < s.1 ∧ s.1 ≤ p.length ∧ Mem w w' [(g5, .cells #[.int .i64 (p.length : Nat), s.2] 49 (0, 0)), (g4, .cells #[.int .i64 0, .slice none 0 0] 49 (0, 0)), (g2, .cells #[.slice R l.length c] 29 (0, 0))] ∧ NewL Arrow.cells 60 4 B w' s.2 (progTo l p a ++ rwP l p a s.1) ∧ B ≤ w'.heap.size)
      (fun s => p.length - s.1) (a + 1, v) ⟨rfl, rfl, rfl, rfl, rfl, rfl, rfl, rfl, trivial⟩ ⟨Nat.lt_succ_self a, hlta, M, by show NewL _ _ _ _ _ _ (progTo l p a ++ rwP l p a (a + 1)); rw [rwP_none l p a (a + 1) (Nat.le_refl _), List.append_nil]; exact ho, hs⟩ ?_
    clear M ho hs
    rintro ⟨b, u⟩ w6 ⟨hab', hb', M', ho', hs'⟩
    have hab : a < b := hab'
    have hb : b ≤ p.length := hb'
    have M : Mem w w6 [(g5, .cells #[.int .i64 (p.length : Nat), u] 49 (0, 0)), (g4, .cells #[.int .i64 0, .slice none 0 0] 49 (0, 0)), (g2, .cells #[.slice R l.length c] 29 (0, 0))] := M'
    have ho : NewL Arrow.cells 60 4 B w6 u (progTo l p a ++ rwP l p a b) := ho'
    have hs : B ≤ w6.heap.size := hs'
    clear hab' hb' M' ho' hs'
    refine brE_dec (fun hlt2 => ?_) (fun hge2 => ?_)
    · have hltb : b < p.length := by have : (b : Int) < (p.length : Nat) := hlt2; omega
      have nextb : IntKind.i64.wrap ((b : Int) + 1) = ((b + 1 : Nat) : Int) := fit ⟨by omega, by omega⟩
      refine ⟨_, M.cell 0 (i := 1) rfl rfl, ?_⟩
      refine ⟨[.slice R l.length c], rfl, M.rd 2 rfl, ?_⟩
      refine (decided_spec (h.ext M.ext) (hP.ext M.ext) hlta hltb (by omega)).mono ?_
      rintro v7 w7 ⟨hd, e7⟩
      refine ⟨e7, ?_⟩
      have M := M.grow e7
      have ho := ho.ext e7
      obtain ⟨A7, c7, rfl, hr7, _⟩ := reads_of_owns hd
      have n1 := arrF_le l p a b
      have n2 := arrF_le l p b a
      have n3 := progTo_le l p a
      have n4 := rwP_le l p a b
      have n5 : a * (2 * p.length) ≤ 24 * 48 := Nat.mul_le_mul (by omega) (by omega)
      obtain ⟨L7, hL7⟩ : ∃ L7, L7 = arrF l p a b ++ arrF l p b a := ⟨_, rfl⟩
      have hl7 : L7.length ≤ 2 := by rw [hL7, List.length_append]; omega
      have hstep : progTo l p a ++ rwP l p a (b + 1) = (progTo l p a ++ rwP l p a b) ++ L7 := by rw [rwP_succ, if_pos hab, hL7, List.append_assoc]
      rw [← hL7] at hr7 ⊢
      have hsome : (A7.isSome || L7.length.beq 0) = true := by
        rcases hr7 with h0 | ⟨b', o', hA7, _⟩
        · have h1 : L7.length = 0 := by
            have := flat_length (enc := Arrow.cells) (k := 4) (fun _ => rfl) L7
            rw [h0] at this
            have : L7.length * 4 = 0 := this.symm
            omega
          rw [h1]; cases A7 <;> rfl
        · rw [hA7]; rfl
      have hpl : (progTo l p a ++ rwP l p a b).length ≤ 24 * 48 + 48 := by rw [List.length_append]; omega
      obtain ⟨D, hD⟩ : ∃ D, D = progTo l p a ++ rwP l p a b := ⟨_, rfl⟩
      rw [← hD] at hstep hpl ho
      refine ⟨rfl, rfl, rfl, B, D.length, D.flatMap Arrow.cells, L7.flatMap Arrow.cells, ho, Nat.le_trans hs e7.size, Nat.le_of_ble_eq_true rfl, rfl, flat_length (enc := Arrow.cells) (k := 4) (fun _ => rfl) L7, hr7, hsome, arrows_one L7, by omega, by simp only [maxLen]; omega, ?_⟩
      intro v8 w8 ho8 hg8 hpl8
      have M := keep M ho hg8
      obtain ⟨A8, n8, c8, e8⟩ : ∃ A8 n8 c8, v8 = .slice A8 n8 c8 := by
        obtain ⟨A8, c8, e, _, _⟩ := reads_of_owns ho8
        exact ⟨_, _, _, e⟩
      subst e8
      refine ⟨rfl, _, _, M.get 0 rfl, Nat.le_of_ble_eq_true rfl, rfl, ?_⟩
      intro w9 h9
      have M9 := M.put 0 rfl h9
      refine ⟨_, nextb, ?_⟩
      have ho9 : NewL Arrow.cells 60 4 B w8 (.slice A8 n8 c8) (D ++ L7) := by
        unfold NewL
        rw [List.length_append, List.flatMap_append]
        exact ho8
      refine ⟨(b + 1, _), ⟨rfl, rfl, rfl, rfl, rfl, rfl, rfl, rfl, trivial⟩, ⟨by show a < b + 1; omega, hltb, M9, ?_, ?_⟩, by show p.length - (b + 1) < p.length - b; omega⟩
      · show NewL _ _ _ _ _ _ (progTo l p a ++ rwP l p a (b + 1))
        rw [hstep]
        exact ownsRow_put ho9 h9 (fun e => by have := (ho9.lt g5 e).1; omega)
      · show B ≤ w9.heap.size
        rw [h9.size]; exact Nat.le_trans (Nat.le_trans hs e7.size) hg8.size
    · have hbe : b = p.length := by have : ¬ (b : Int) < (p.length : Nat) := hge2; omega
      refine ⟨_, next, ?_⟩
      refine ⟨(a + 1, u), ⟨rfl, rfl, rfl, rfl, rfl, rfl, trivial⟩, ⟨hlta, M, ?_, hs⟩, by show p.length - (a + 1) < p.length - a; omega⟩
      show NewL _ _ _ _ _ _ (progTo l p (a + 1))
      rw [progTo_succ, ← hbe]
      rw [hbe] at ho ⊢
      exact ho
  · have hae : a = p.length := by have : ¬ (a : Int) < (p.length : Nat) := hge; omega
    rw [hae] at ho
    refine ⟨_, M.cell 0 (i := 1) rfl rfl, ?_⟩
    have n3 := progTo_le l p p.length
    have n5 : p.length * (2 * p.length) ≤ 24 * 48 := Nat.mul_le_mul hp (by omega)
    refine (SortArrows_spec (l := progTo l p p.length) ho (by omega)).mono ?_
    rintro r w6 ⟨rfl, L, hLp, hLs, ho6, hg6, hon6⟩
    have hL := sorted_rel hLp hLs
    have M6 := keep M ho hg6
    rw [hL] at ho6
    obtain ⟨A6, c6, rfl, _, _⟩ := reads_of_owns ho6
    refine ⟨[.int .i64 (p.length : Nat), _], rfl, M6.rd 0 rfl, ?_⟩
    refine ⟨rfl, _, _, M6.get 1 rfl, Nat.le_of_ble_eq_true rfl, rfl, ?_⟩
    intro w7 h7
    have M7 := M6.put 1 rfl h7
    refine ⟨[.int .i64 (p.length : Nat), _], rfl, M7.rd 1 rfl, ?_⟩
    refine ⟨⟨A6, c6, rfl, ?_⟩, M7.ext⟩
    exact ownsRow_base (ownsRow_put ho6 h7 (fun e => by have := (ho6.lt g4 e).1; omega)) hwB
end Go.Proofs.YtdpdjcopkehdjaaGreat.Rk
namespace Go.Eng
open Go.RowKit
theorem splice_mid (a b c d : List Value) (h : d.length = b.length) : splice (a ++ (b ++ c)) a.length d = a ++ (d ++ c) := by
  unfold splice
  rw [List.take_append_of_le_length (Nat.le_refl _), List.take_length, List.append_assoc]
  congr 2
  rw [List.drop_append, List.drop_eq_nil_of_le (by omega), List.nil_append, h, Nat.add_sub_cancel_left, List.drop_append, List.drop_length, List.nil_append, Nat.sub_self, List.drop_zero]
theorem flat_set {α : Type} {enc : α → List Value} {k : Nat} (hk : ∀ x, (enc x).length = k) {l : List α} {i : Nat} (hi : i < l.length) (x : α) : splice (l.flatMap enc) (i * k) (enc x) = (l.set i x).flatMap enc := by
  have e1 : l.flatMap enc = (l.take i).flatMap enc ++ (enc l[i] ++ (l.drop (i + 1)).flatMap enc) := by
    conv => lhs; rw [← List.take_append_drop i l, List.drop_eq_getElem_cons hi]
    rw [List.flatMap_append, List.flatMap_cons]
  have e2 : (l.set i x).flatMap enc = (l.take i).flatMap enc ++ (enc x ++ (l.drop (i + 1)).flatMap enc) := by
    rw [List.set_eq_take_append_cons_drop, if_pos hi, List.flatMap_append, List.flatMap_cons]
  have hl : ((l.take i).flatMap enc).length = i * k := by rw [flat_length hk, List.length_take, Nat.min_eq_left (Nat.le_of_lt hi)]
  rw [e1, e2, ← hl]
  exact splice_mid _ _ _ _ (by rw [hk, hk])
theorem flat_take {α : Type} {enc : α → List Value} {k : Nat} (hk : ∀ x, (enc x).length = k) {l : List α} {i : Nat} (hi : i ≤ l.length) : (l.flatMap enc).take (i * k) = (l.take i).flatMap enc := by
  have e : l.flatMap enc = (l.take i).flatMap enc ++ (l.drop i).flatMap enc := by rw [← List.flatMap_append, List.take_append_drop]
  have hl : ((l.take i).flatMap enc).length = i * k := by rw [flat_length hk, List.length_take, Nat.min_eq_left hi]
  rw [e, List.take_append_of_le_length (by omega), ← hl, List.take_length]
theorem splice_take_at {cs vs : List Value} {i : Nat} (h : i ≤ cs.length) : (splice cs i vs).take i = cs.take i := by
  unfold splice
  rw [List.append_assoc, List.take_append_of_le_length (by simp; omega), List.take_take, Nat.min_self]
theorem keep_at {α : Type} {p : α → Bool} {l : List α} {j : Nat} (hj : j < l.length) : (l.take (j + 1)).filter (fun x => !p x) = (l.take j).filter (fun x => !p x) ++ if p l[j] = true then [] else [l[j]] := by
  rw [List.take_succ_eq_append_getElem hj, List.filter_append, List.filter_cons, List.filter_nil]
  cases p l[j] <;> rfl
theorem keep_first {α : Type} {p : α → Bool} {l : List α} {i : Nat} (hi : i < l.length) (hp : p l[i] = true) (h : ∀ j (hj : j < l.length), j < i → p l[j] = false) : (l.take (i + 1)).filter (fun x => !p x) = l.take i := by
  rw [keep_at hi, if_pos hp, List.append_nil]
  refine List.filter_eq_self.2 fun x hx => ?_
  obtain ⟨j, hj, rfl⟩ := List.getElem_of_mem hx
  rw [List.length_take] at hj
  rw [List.getElem_take, h j (by omega) (by omega)]
  rfl
end Go.Eng
namespace Go.Proofs.YtdpdjcopkehdjaaGreat
open Go.Eng Go.RowKit
theorem IndexFuncF_spec {w : World} {A : Option Addr} {l : List Fact} {c gd : Nat} {cb : Array Value} {p : Fact → Bool} (hr : Reads w A (fcells l)) (hl : l.length ≤ 2 ^ 20) (hgd : C.can gd = true)
    (hdel : ∀ (x : Fact) (w' : World), Ext w w' → CallsV C.P gd (#[] ++ [x.val].toArray ++ cb) w' fun v w'' => v = .bool (p x) ∧ Ext w' w'') :
    CallsV C.P 204 #[.slice A l.length c, .func (.func gd) #[] cb] w fun v w' => ((v = .int .i64 (-1) ∧ ∀ x ∈ l, p x = false) ∨ ∃ i : Nat, v = .int .i64 (i : Nat) ∧ ∃ h : i < l.length, p l[i] = true ∧ ∀ j (hj : j < l.length), j < i → p l[j] = false) ∧ Ext w w' := by
  refine callsV_of C_ok (args := [_, _]) (plans := []) Tryz.func204 rfl Tryz.ntmps204 (by kernel_rfl) (Nat.le_of_ble_eq_true rfl) ?_
  refine loopE C_ok (fun (i : Nat) => [(0, .slice A l.length c), (1, .func (.func gd) #[] cb), (7, .int .i64 l.length), (8, .int .i64 i)])
    (fun i w' => Ext w w' ∧ i ≤ l.length ∧ ∀ j (hj : j < l.length), j < i → p l[j] = false) (fun i => l.length - i) 0 ⟨rfl, rfl, rfl, rfl, trivial⟩
    ⟨Ext.refl _, Nat.zero_le _, fun j _ hj => absurd hj (Nat.not_lt_zero _)⟩ ?_
  rintro i w1 ⟨e1, hi, hall⟩
  refine brE_dec (fun hlt => ?_) (fun hge => ?_)
  · have hlt : i < l.length := by have : (i : Int) < (l.length : Nat) := hlt; omega
    obtain ⟨b, o, hA, hc⟩ := Reads.fact (hr.ext e1) hlt
    refine ⟨i, b, o, rfl, hlt, hA, ?_⟩
    refine ⟨l[i].cells, rfl, hc, ?_⟩
    refine brE_true hgd ?_
    refine (hdel l[i] w1 e1).mono ?_
    rintro v w2 ⟨rfl, e2⟩
    refine brE_mk (fun h2 => ?_) (fun h2 => ?_)
    · exact ⟨.inr ⟨i, rfl, hlt, h2, hall⟩, e1.trans e2⟩
    · refine ⟨((i + 1 : Nat) : Int), fit ⟨by omega, by omega⟩, ?_⟩
      refine ⟨i + 1, ⟨rfl, rfl, rfl, rfl, trivial⟩, ⟨e1.trans e2, hlt, fun j hj hji => ?_⟩, by omega⟩
      rcases Nat.lt_or_ge j i with h | h
      · exact hall j hj h
      · obtain rfl : j = i := by omega
        exact h2
  · have : i = l.length := by have : ¬ (i : Int) < (l.length : Nat) := hge; omega
    subst this
    refine ⟨.inl ⟨rfl, fun x hx => ?_⟩, e1⟩
    obtain ⟨j, hj, rfl⟩ := List.getElem_of_mem hx
    exact hall j hj hj
set_option maxRecDepth 100000 in
theorem DeleteFuncF_spec {B : Nat} {w : World} {v : Value} {l : List Fact} {gd : Nat} {cb : Array Value} {p : Fact → Bool} (ho : NewF B w v l) (hB : B ≤ w.heap.size) (hl : l.length ≤ 2 ^ 20) (hgd : C.can gd = true)
    (hdel : ∀ (x : Fact) (w' : World), Below B w w' → CallsV C.P gd (#[] ++ [x.val].toArray ++ cb) w' fun v w'' => v = .bool (p x) ∧ Ext w' w'') :
    CallsV C.P 136 #[v, .func (.func gd) #[] cb] w fun v' w' => NewF B w' v' (l.filter fun x => !p x) ∧ Below B w w' := by
  obtain ⟨A, cap, rfl, hR, hlc⟩ := ho.slice
  refine callsV_of C_ok (args := [_, _]) (plans := []) Tryz.func136 rfl Tryz.ntmps136 (by kernel_rfl) (Nat.le_of_ble_eq_true rfl) ?_
  refine (IndexFuncF_spec hR hl hgd fun x w' e => hdel x w' (e.mono hB)).mono ?_
  rintro v w1 ⟨hi | ⟨i0, rfl, hi0, hsm, hfirst⟩, e1⟩
  · obtain ⟨rfl, hall⟩ := hi
    have e : (l.filter fun x => !p x) = l := List.filter_eq_self.2 fun x hx => by rw [hall x hx]; rfl
    rw [e]
    exact ⟨ho.ext e1, e1.mono hB⟩
  refine ⟨((i0 + 1 : Nat) : Int), fit ⟨by omega, by omega⟩, ?_⟩
  have hA : ∃ g, A = some ⟨g, 0, none⟩ := by
    obtain ⟨_, ⟨hv, h0⟩ | ⟨g, cap', cur, hv, _⟩⟩ := ho
    · omega
    · simp at hv; exact ⟨g, hv.1⟩
  obtain ⟨g, rfl⟩ := hA
  have kp0 := keep_first hi0 hsm hfirst
  have ho1 : w1.ownsRow B 55 9 (.slice (some ⟨g, 0, none⟩) l.length cap) l.length (fcells l) := ho.ext e1
  refine loopE C_ok (fun (s : Nat × Nat × List Fact) => [(0, .slice (some ⟨g, 0, none⟩) l.length cap), (1, .func (.func gd) #[] cb), (5, .int .i64 s.2.1), (6, .int .i64 s.1)])
    (fun s w' => s.2.1 = ((l.take s.1).filter fun x => !p x).length ∧ s.2.1 < s.1 ∧ s.1 ≤ l.length ∧ s.2.2.length = l.length ∧ w'.ownsRow B 55 9 (.slice (some ⟨g, 0, none⟩) l.length cap) l.length (fcells s.2.2) ∧ s.2.2.take s.2.1 = ((l.take s.1).filter fun x => !p x) ∧ (∀ k, s.1 ≤ k → s.2.2[k]? = l[k]?) ∧ Below B w w')
    (fun s => l.length - s.1) (i0 + 1, i0, l) ⟨rfl, rfl, rfl, rfl, trivial⟩
    ⟨by show i0 = _; rw [kp0, List.length_take]; omega, Nat.lt_succ_self _, hi0, rfl, ho1, kp0.symm, fun _ _ => rfl, e1.mono hB⟩ ?_
  rintro ⟨j, i, R⟩ w2 ⟨hi', hij', hj', hRl', ho2', htake', hrest', b2⟩
  have hi : i = ((l.take j).filter fun x => !p x).length := hi'
  have hij : i < j := hij'
  have hj : j ≤ l.length := hj'
  have hRl : R.length = l.length := hRl'
  have ho2 : w2.ownsRow B 55 9 (.slice (some ⟨g, 0, none⟩) l.length cap) l.length (fcells R) := ho2'
  have htake : R.take i = ((l.take j).filter fun x => !p x) := htake'
  have hrest : ∀ k, j ≤ k → R[k]? = l[k]? := hrest'
  clear hRl' hi' hij' hj' ho2' hrest' htake'
  refine brE_dec (fun hlt => ?_) (fun hge => ?_)
  · have hlt : j < l.length := by have : (j : Int) < (l.length : Nat) := hlt; omega
    have next : IntKind.i64.wrap ((j : Int) + 1) = ((j + 1 : Nat) : Int) := fit ⟨by omega, by omega⟩
    have hRj : R[j]'(by omega) = l[j] := by
      have := hrest j (Nat.le_refl _)
      rw [List.getElem?_eq_getElem hlt, List.getElem?_eq_getElem (by omega)] at this
      exact Option.some.inj this
    have hreads : Reads w2 (some ⟨g, 0, none⟩) (fcells R) := by
      obtain ⟨A', c', e, h, _⟩ := reads_of_owns ho2
      cases e; exact h
    obtain ⟨b1, o1, hA1, hc1⟩ := Reads.fact hreads (i := j) (by omega)
    cases hA1
    rw [hRj] at hc1
    refine ⟨j, g, 0, rfl, hlt, rfl, ?_⟩
    refine ⟨l[j].cells, rfl, hc1, ?_⟩
    intro g7 w3 h3
    refine ⟨rfl, _, _, h3.here, Nat.le_of_ble_eq_true rfl, rfl, ?_⟩
    intro w4 h4
    have h4 : Put w3 g7 (.cells l[j].cells.toArray 55 (0, 0)) w4 := h4
    have e24 : Ext w2 w4 := h4.ext_of h3.ext (by rw [h3.new]; exact Nat.le_refl _)
    have hBw2 : B ≤ w2.heap.size := Nat.le_trans hB b2.size
    have b4 : Below B w w4 := b2.trans (e24.mono hBw2)
    refine ⟨l[j].cells, rfl, Rd.of_block h4.here, ?_⟩
    refine brE_true hgd ?_
    refine (hdel l[j] w4 b4).mono ?_
    rintro v w5 ⟨rfl, e5⟩
    have e25 := e24.trans e5
    have b5 : Below B w w5 := b2.trans (e25.mono hBw2)
    have ho5 := ownsRow_ext ho2 e25
    have hk := keep_at (p := p) hlt
    refine brE_mk (fun h2 => ?_) (fun h2 => ?_)
    · have h2 : p l[j] = false := by simpa using h2
      rw [h2, if_neg (by decide)] at hk
      obtain ⟨cur, hg, hgB, hcl, hccap, hncap, hdl, hct, hput⟩ := ownsRow_open ho5
      refine ⟨l[j].cells, rfl, Rd.of_block (e5.heap h4.here), ?_⟩
      refine ⟨i, g, 0, rfl, (by omega : i < l.length), rfl, ?_⟩
      refine ⟨rfl, _, _, hg, by show 0 + i * 9 + 9 ≤ cur.length; omega, rfl, ?_⟩
      intro w6 h6
      have h6 : Put w5 g (.cells (splice cur (0 + i * 9) l[j].cells).toArray 55 (0, 0)) w6 := h6
      have ho6 := hput (0 + i * 9) l[j].cells w6 (by show 0 + i * 9 + 9 ≤ _; omega) h6
      have e0 : 0 + i * 9 = i * 9 := by omega
      rw [e0] at ho6
      have hset : splice (fcells R) (i * 9) l[j].cells = fcells (R.set i l[j]) := flat_set Fact.len (by omega) _
      rw [hset] at ho6
      have nexti : IntKind.i64.wrap ((i : Int) + 1) = ((i + 1 : Nat) : Int) := fit ⟨by omega, by omega⟩
      refine ⟨_, nexti, ?_⟩
      refine ⟨_, next, ?_⟩
      refine ⟨(j + 1, i + 1, R.set i l[j]), ⟨rfl, rfl, rfl, rfl, trivial⟩, ⟨?_, by show i + 1 < j + 1; omega, hlt, by show (R.set i l[j]).length = _; rw [List.length_set, hRl], ho6, ?_, ?_, below_put b5 h6 hgB⟩, by show l.length - (j + 1) < l.length - j; omega⟩
      · show i + 1 = ((l.take (j + 1)).filter fun x => !p x).length
        rw [hk, List.length_append, ← hi]; rfl
      · show (R.set i l[j]).take (i + 1) = ((l.take (j + 1)).filter fun x => !p x)
        have hil : i < (R.set i l[j]).length := by rw [List.length_set]; omega
        rw [hk, List.take_succ_eq_append_getElem hil, List.take_set_of_le (Nat.le_refl _), htake]
        congr 1
        simp
      · intro k hk1
        show (R.set i l[j])[k]? = l[k]?
        have hk1 : j + 1 ≤ k := hk1
        rw [List.getElem?_set_ne (by omega)]
        exact hrest k (by omega)
    · have h2 : p l[j] = true := by simpa using h2
      rw [h2, if_pos rfl, List.append_nil] at hk
      refine ⟨_, next, ?_⟩
      exact ⟨(j + 1, i, R), ⟨rfl, rfl, rfl, rfl, trivial⟩, ⟨by show i = ((l.take (j + 1)).filter fun x => !p x).length; rw [hk]; exact hi, by show i < j + 1; omega, hlt, hRl, ho5, by show R.take i = ((l.take (j + 1)).filter fun x => !p x); rw [hk]; exact htake, fun k hk1 => hrest k (by have : j + 1 ≤ k := hk1; omega), b5⟩, by show l.length - (j + 1) < l.length - j; omega⟩
  · have : j = l.length := by have : ¬ (j : Int) < (l.length : Nat) := hge; omega
    subst this
    rw [List.take_length] at hi htake
    obtain ⟨cur, hg, hgB, hcl, hccap, hncap, hdl, hct, hput⟩ := ownsRow_open ho2
    refine ⟨i, l.length, rfl, rfl, by omega, by omega, ?_⟩
    have hA : (if cap = i then (some (⟨g, 0, none⟩ : Addr)) else (some (⟨g, 0, none⟩ : Addr)).map (·.add (i * 9))) = some ⟨g, 0 + i * 9, none⟩ := by
      rw [if_neg (by omega)]
      simp [add_spot]
    refine clearRow (esz := 9) C_ok rfl rfl rfl rfl rfl rfl rfl (by decide) hA (by omega) hg (by omega) ?_
    intro zs w3 hzs h3
    have ho3 := hput (0 + i * 9) zs w3 (by rw [hzs]; omega) h3
    refine ⟨0, i, rfl, rfl, Nat.zero_le _, by omega, ?_⟩
    have e : (if cap = 0 then (some ⟨g, 0, none⟩ : Option Addr) else (some (⟨g, 0, none⟩ : Addr)).map (·.add (0 * 9))) = some ⟨g, 0, none⟩ := by
      split <;> rfl
    have hcut := ownsRow_cut ho3 (k := i) (by omega)
    have e0 : 0 + i * 9 = i * 9 := by omega
    have hft : (fcells R).take (i * 9) = fcells (R.take i) := flat_take Fact.len (by omega)
    rw [e0, splice_take_at (by rw [fcells_length]; omega), hft, htake] at hcut
    refine ⟨?_, below_put b2 h3 hgB⟩
    show w3.ownsRow B 55 9 (.slice (if cap = 0 then (some ⟨g, 0, none⟩ : Option Addr) else (some (⟨g, 0, none⟩ : Addr)).map (·.add (0 * 9))) i cap) (l.filter fun x => !p x).length _
    rw [e, ← hi]
    exact hcut
end Go.Proofs.YtdpdjcopkehdjaaGreat
