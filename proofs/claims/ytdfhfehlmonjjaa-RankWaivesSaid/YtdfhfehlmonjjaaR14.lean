/- rank: Waive, Changed. -/
import Derived.Test.YtdfhfehlmonjjaaR13
namespace Go.Proofs.Ytdfhfehlmonjjaa
open Go.Eng Go.RowKit

/-- A relation of one's own. -/
def NewRel (B : Nat) (w : World) (v : Value) (N : Int) (xs : List Arrow) : Prop := ∃ A c, v = relVal N A xs.length c ∧ w.ownsRow B 43 4 (.slice A xs.length c) xs.length (arrows xs)

theorem NewRel.base {B B' : Nat} {w : World} {v : Value} {N : Int} {xs : List Arrow} (h : NewRel B' w v N xs) (hb : B ≤ B') : NewRel B w v N xs :=
  let ⟨A, c, h1, h2⟩ := h
  ⟨A, c, h1, ownsRow_base h2 hb⟩
theorem NewRel.ext {B : Nat} {w w' : World} {v : Value} {N : Int} {xs : List Arrow} (h : NewRel B w v N xs) (e : Ext w w') : NewRel B w' v N xs :=
  let ⟨A, c, h1, h2⟩ := h
  ⟨A, c, h1, ownsRow_ext h2 e⟩
theorem newRel_zero (B : Nat) (w : World) : NewRel B w (.agg #[.int .i64 0, .slice none 0 0]) 0 [] := ⟨none, 0, rfl, World.ownsRow_nil _ _ _ _⟩

theorem NewRel.hrel {B : Nat} {w : World} {v : Value} {N : Int} {xs : List Arrow} (h : NewRel B w v N xs) (hN : In64 N) (hx : ∀ x ∈ xs, In64 x.fr ∧ In64 x.to ∧ In64 x.rule ∧ In64 x.wt) (hl : xs.length ≤ 9223372036854775807) : ∃ A c, v = relVal N A xs.length c ∧ HRel w N A xs c := by
  obtain ⟨A, c, rfl, ho⟩ := h
  obtain ⟨A', c', e, hr, hc⟩ := reads_of_owns ho
  cases e
  exact ⟨A, c, rfl, hN, hx, hr, hc, hl⟩

theorem Waive_spec {N : Int} {A B : Option Addr} {xs : List Arrow} {c d : Nat} {ps : List (Int × Int)} {w : World} (h : HRel w N A xs c) (hx : xs.length ≤ 2 ^ 40) (hp : ∀ p ∈ ps, In64 p.1 ∧ In64 p.2) (hr : Reads w B (prCells ps)) (hpl : ps.length ≤ 2 ^ 44) :
    CallsV C.P 37 #[relVal N A xs.length c, .slice B ps.length d] w fun v w' => (∃ u, v = .tuple #[u, .int .i64 (chk N xs)] ∧ NewRel w.heap.size w' u (if chk N xs = 0 then N else 0) (if chk N xs = 0 then waiveL xs ps else [])) ∧ Ext w w' := by
  refine callsV_of C_ok (args := [_, _]) (plans := []) Try.func37 rfl Try.ntmps37 (by kernel_rfl) (Nat.le_of_ble_eq_true rfl) ?_
  intro g2 w1 h1
  intro g4 w2 h2
  have M2 := ((Mem.start w).alloc h1).alloc h2
  refine ⟨[.int .i64 N, .slice A xs.length c], rfl, M2.rd 1 rfl, ?_⟩
  refine (Check_spec (h.ext M2.ext)).mono ?_
  rintro v w3 ⟨rfl, e3⟩
  have M3 := M2.grow e3
  refine brE_mk (fun hb => ?_) (fun hb => ?_)
  · have hv : chk N xs ≠ 0 := by simpa using hb
    refine ⟨rfl, _, _, M3.get 0 rfl, Nat.le_of_ble_eq_true rfl, rfl, ?_⟩
    intro w4 h4
    have M4 := M3.put 0 rfl h4
    refine ⟨[.int .i64 0, .slice none 0 0], rfl, M4.rd 0 rfl, ?_⟩
    refine ⟨⟨_, rfl, ?_⟩, M4.ext⟩
    rw [if_neg hv, if_neg hv]
    exact newRel_zero _ _
  · have hv : chk N xs = 0 := by simpa using hb
    refine ⟨[.int .i64 N, .slice A xs.length c], rfl, M3.rd 1 rfl, ?_⟩
    refine (waive_spec (h.ext M3.ext) hx hp (hr.ext M3.ext) hpl).mono ?_
    rintro v w4 ⟨⟨A4, c4, rfl, ho⟩, e4⟩
    have M4 := M3.grow e4
    refine ⟨rfl, _, _, M4.get 0 rfl, Nat.le_of_ble_eq_true rfl, rfl, ?_⟩
    intro w5 h5
    have M5 := M4.put 0 rfl h5
    refine ⟨[.int .i64 N, .slice A4 (waiveL xs ps).length c4], rfl, M5.rd 0 rfl, ?_⟩
    refine ⟨⟨_, by rw [hv], ?_⟩, M5.ext⟩
    rw [if_pos hv, if_pos hv]
    exact ⟨A4, c4, rfl, ownsRow_base (ownsRow_put ho h5 (fun e => own_ne ho (M4.get 0 rfl) (fun c fr e => by cases e) e.symm)) M3.ext.size⟩

def diffB (R S : Nat → Nat → Bool) (a b : Nat) : Bool := !decide (standR R a b = standR S a b)

theorem Changed1_spec {w : World} {gb gc g h n m : Nat} {T R U S : Nat → Nat → Bool} (hb : w.heap[gb]? = some (.cells #[.pointer (some ⟨g, 0, none⟩)] 70 (0, 0))) (hw : Web w g n T R)
    (hc : w.heap[gc]? = some (.cells #[.pointer (some ⟨h, 0, none⟩)] 70 (0, 0))) (hv : Web w h m U S) {a b : Nat} (ha : a < 24) (hb24 : b < 24) :
    CallsV C.P 79 #[.int .i64 a, .int .i64 b, .pointer (some ⟨gb, 0, none⟩), .pointer (some ⟨gc, 0, none⟩)] w fun v w' => v = .bool (diffB R S a b) ∧ Ext w w' := by
  refine callsV_of C_ok (args := [_, _, _, _]) (plans := plans79) Try.func79 rfl Try.ntmps79 (by kernel_rfl) (Nat.le_of_ble_eq_true rfl) ?_
  refine ⟨_, cell_of_block hb rfl, ?_⟩
  refine ⟨_, cell_of_block hc rfl, ?_⟩
  refine (standing_spec hw ha hb24).mono ?_
  rintro v w1 ⟨rfl, rfl⟩
  refine ⟨Ext.refl _, ?_⟩
  refine (standing_spec hv ha hb24).mono ?_
  rintro v w2 ⟨rfl, rfl⟩
  exact ⟨rfl, Ext.refl _⟩

/-- What Changed says. -/
noncomputable def changedE (N : Int) (xs : List Arrow) (M : Int) (ys : List Arrow) : Int := if chk N xs ≠ 0 then chk N xs else if chk M ys ≠ 0 then chk M ys else if N ≠ M then 1 else 0
noncomputable def changedL (N : Int) (xs : List Arrow) (M : Int) (ys : List Arrow) : List (Int × Int) := if changedE N xs M ys = 0 then pairsL N.toNat (diffB (reach (toM xs)) (reach (toM ys))) else []

theorem Changed_spec {N M : Int} {A B : Option Addr} {xs ys : List Arrow} {c d : Nat} {w : World} (h : HRel w N A xs c) (k : HRel w M B ys d) :
    CallsV C.P 52 #[relVal N A xs.length c, relVal M B ys.length d] w fun v w' => (∃ u, v = .tuple #[u, .int .i64 (changedE N xs M ys)] ∧ Prs w.heap.size w' u (changedL N xs M ys)) ∧ Ext w w' := by
  refine callsV_of C_ok (args := [_, _]) (plans := plans52) Try.func52 rfl Try.ntmps52 (by kernel_rfl) (Nat.le_of_ble_eq_true rfl) ?_
  intro g2 w1 h1
  intro g3 w2 h2
  have M2 := ((Mem.start w).alloc h1).alloc h2
  refine ⟨[.int .i64 N, .slice A xs.length c], rfl, M2.rd 1 rfl, ?_⟩
  by_cases hv : chk N xs = 0
  · have hok := valid_of_chk hv
    refine (open_yes (h.ext M2.ext) hok).mono ?_
    rintro v w3 ⟨g, rfl, hg, hw, e3⟩
    have M3 := M2.grow e3
    intro g6 w4 h4
    have M4 := M3.alloc h4
    refine ⟨rfl, _, _, M4.get 0 rfl, Nat.le_of_ble_eq_true rfl, rfl, ?_⟩
    intro w5 h5
    have M5 := M4.put 0 rfl h5
    have e35 : Ext w3 w5 := h5.ext_of h4.ext (by rw [h4.new]; exact Nat.le_refl _)
    refine ⟨[.int .i64 M, .slice B ys.length d], rfl, M5.rd 1 rfl, ?_⟩
    by_cases hv2 : chk M ys = 0
    · have hok2 := valid_of_chk hv2
      refine (open_yes (k.ext M5.ext) hok2).mono ?_
      rintro v w6 ⟨g', rfl, hg', hw', e6⟩
      have M6 := M5.grow e6
      intro g8 w7 h7
      have M7 := M6.alloc h7
      refine ⟨rfl, _, _, M7.get 0 rfl, Nat.le_of_ble_eq_true rfl, rfl, ?_⟩
      intro w8 h8
      have M8 := M7.put 0 rfl h8
      have e68 : Ext w6 w8 := h8.ext_of h7.ext (by rw [h7.new]; exact Nat.le_refl _)
      have web1 : Web w8 g N (toM xs) (reach (toM xs)) := hw.ext ((e35.trans e6).trans e68)
      have web2 : Web w8 g' M (toM ys) (reach (toM ys)) := hw'.ext e68
      refine ⟨_, M8.cell 1 rfl rfl, ?_⟩
      refine ⟨_, web1.n, ?_⟩
      refine ⟨_, M8.cell 0 rfl rfl, ?_⟩
      refine ⟨_, web2.n, ?_⟩
      refine brE_mk (fun hb => ?_) (fun hb => ?_)
      · have hne : N ≠ M := by simpa using hb
        have he : changedE N xs M ys = 1 := by simp [changedE, hv, hv2, hne]
        refine ⟨⟨_, by rw [he], ?_⟩, M8.ext⟩
        rw [changedL, he, if_neg (by decide)]
        exact prs_nil _ _
      · have hne : N = M := by simpa using hb
        subst hne
        have he : changedE N xs N ys = 0 := by simp [changedE, hv, hv2]
        refine ⟨_, M8.cell 1 rfl rfl, ?_⟩
        refine ⟨[], [.pointer (some ⟨g6, 0, none⟩), .pointer (some ⟨g8, 0, none⟩)], rfl, rfl, ?_⟩
        obtain ⟨n, rfl⟩ := Int.eq_ofNat_of_zero_le hok.lo
        have := hok.hi
        refine (pairs_spec (.inr rfl) web1 (by omega) (hs := diffB (reach (toM xs)) (reach (toM ys))) (fun w' e a b ha hb => ?_)).mono ?_
        · exact Changed1_spec (e.heap (M8.get 1 rfl)) (web1.ext e) (e.heap (M8.get 0 rfl)) (web2.ext e) (by omega) (by omega)
        · rintro v w9 ⟨hp, e9⟩
          refine ⟨⟨v, by rw [he], ?_⟩, M8.ext.trans e9⟩
          rw [changedL, if_pos he]
          exact hp.base M8.ext.size
    · refine (open_no (k.ext M5.ext) hv2).mono ?_
      rintro v w6 ⟨rfl, e6⟩
      have M6 := M5.grow e6
      intro g8 w7 h7
      have M7 := M6.alloc h7
      refine ⟨rfl, _, _, M7.get 0 rfl, Nat.le_of_ble_eq_true rfl, rfl, ?_⟩
      intro w8 h8
      have M8 := M7.put 0 rfl h8
      refine ⟨[.int .i64 M, .slice B ys.length d], rfl, M8.rd 2 rfl, ?_⟩
      refine (Check_spec (k.ext M8.ext)).mono ?_
      rintro v w9 ⟨rfl, e9⟩
      have he : changedE N xs M ys = chk M ys := by simp [changedE, hv, hv2]
      refine ⟨⟨_, by rw [he], ?_⟩, M8.ext.trans e9⟩
      rw [changedL, he, if_neg hv2]
      exact prs_nil _ _
  · refine (open_no (h.ext M2.ext) hv).mono ?_
    rintro v w3 ⟨rfl, e3⟩
    have M3 := M2.grow e3
    intro g6 w4 h4
    have M4 := M3.alloc h4
    refine ⟨rfl, _, _, M4.get 0 rfl, Nat.le_of_ble_eq_true rfl, rfl, ?_⟩
    intro w5 h5
    have M5 := M4.put 0 rfl h5
    refine ⟨[.int .i64 N, .slice A xs.length c], rfl, M5.rd 2 rfl, ?_⟩
    refine (Check_spec (h.ext M5.ext)).mono ?_
    rintro v w6 ⟨rfl, e6⟩
    have he : changedE N xs M ys = chk N xs := by simp [changedE, hv]
    refine ⟨⟨_, by rw [he], ?_⟩, M5.ext.trans e6⟩
    rw [changedL, he, if_neg hv]
    exact prs_nil _ _

end Go.Proofs.Ytdfhfehlmonjjaa
