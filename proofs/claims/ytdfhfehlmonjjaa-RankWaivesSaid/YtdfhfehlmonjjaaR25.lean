/- Scenes and guests checked, by the program and by the reference; a relation checked by the reference. -/
import Derived.Test.YtdfhfehlmonjjaaR24
namespace Go.Proofs.Ytdfhfehlmonjjaa
open Go.Eng Go.RowKit
open Go.Maps (Keyed)

abbrev idB (n : Int) : Bool := decide (1 ≤ n ∧ n ≤ 1000000)

theorem isId_spec (n : Int) (w : World) : CallsV C.P 66 #[.int .i64 n] w fun v w' => v = .bool (idB n) ∧ w' = w := by
  refine callsV_of C_ok (args := [_]) (plans := []) Try.func66 rfl Try.ntmps66 (by kernel_rfl) (Nat.le_of_ble_eq_true rfl) ?_
  refine brE_dec (fun h => ?_) (fun h => ?_)
  · have h : n ≥ 1 := h
    refine ⟨?_, rfl⟩
    have : (1 : Int) ≤ n := h
    simp [this]
  · have h : ¬ n ≥ 1 := h
    refine ⟨?_, rfl⟩
    have : ¬ (1 : Int) ≤ n := h
    simp [this]

theorem id_spec (n : Int) (w : World) : CallsV C.P 67 #[.int .i64 n] w fun v w' => v = .bool (idB n) ∧ w' = w := by
  refine callsV_of C_ok (args := [_]) (plans := []) Try.func67 rfl Try.ntmps67 (by kernel_rfl) (Nat.le_of_ble_eq_true rfl) ?_
  refine brE_dec (fun h => ?_) (fun h => ?_)
  · have h : n ≥ 1 := h
    refine ⟨?_, rfl⟩
    have : (1 : Int) ≤ n := h
    simp [this]
  · have h : ¬ n ≥ 1 := h
    refine ⟨?_, rfl⟩
    have : ¬ (1 : Int) ≤ n := h
    simp [this]

structure Scn where
  host : Int
  lang : Int
  lot : Int
  known : Int
  day : Int

def Scn.cells (s : Scn) : List Value := [.int .i64 s.host, .int .i64 s.lang, .int .i64 s.lot, .int .i64 s.known, .int .i64 s.day]
def Scn.val (s : Scn) : Value := .agg s.cells.toArray
def Scn.ok (s : Scn) : Prop := (1 ≤ s.host ∧ s.host ≤ 1000000) ∧ (1 ≤ s.lang ∧ s.lang ≤ 3) ∧ (0 ≤ s.lot ∧ s.lot ≤ 199) ∧ (0 ≤ s.known ∧ s.known ≤ 100000) ∧ (0 ≤ s.day ∧ s.day ≤ 100000)
instance (s : Scn) : Decidable s.ok := by unfold Scn.ok; infer_instance
def schk (s : Scn) : Int := if s.ok then 0 else 1

theorem schk_bad {s : Scn} (h : ¬ s.ok) : (1 : Int) = schk s := by rw [schk, if_neg h]
theorem schk_ok {s : Scn} (h : s.ok) : (0 : Int) = schk s := by rw [schk, if_pos h]

theorem CheckScene_spec (s : Scn) (w : World) : CallsV C.P 24 #[s.val] w fun v w' => v = .int .i64 (schk s) ∧ Ext w w' := by
  refine callsV_of C_ok (args := [_]) (plans := []) Try.func24 rfl Try.ntmps24 (by kernel_rfl) (Nat.le_of_ble_eq_true rfl) ?_
  intro g1 w1 h1
  have M1 := (Mem.start w).alloc h1
  refine ⟨_, M1.cell 0 rfl rfl, ?_⟩
  refine (isId_spec s.host w1).mono ?_
  rintro v w2 ⟨rfl, rfl⟩
  refine brE_mk (fun b1 => ?_) (fun b1 => ?_)
  · refine ⟨?_, M1.ext⟩
    rw [← schk_bad]
    intro h; have h' := h.1; simp at b1; omega
  refine ⟨_, M1.cell 0 rfl rfl, ?_⟩
  refine (in_spec _ _ _ _).mono ?_
  rintro v w2 ⟨rfl, rfl⟩
  refine brE_mk (fun b2 => ?_) (fun b2 => ?_)
  · refine ⟨?_, M1.ext⟩
    rw [← schk_bad]
    intro h; have h' := h.2.1; simp at b2; omega
  refine ⟨_, M1.cell 0 rfl rfl, ?_⟩
  refine (in_spec _ _ _ _).mono ?_
  rintro v w2 ⟨rfl, rfl⟩
  refine brE_mk (fun b3 => ?_) (fun b3 => ?_)
  · refine ⟨?_, M1.ext⟩
    rw [← schk_bad]
    intro h; have h' := h.2.2.1; simp at b3; omega
  refine ⟨_, M1.cell 0 rfl rfl, ?_⟩
  refine (in_spec _ _ _ _).mono ?_
  rintro v w2 ⟨rfl, rfl⟩
  refine brE_mk (fun b4 => ?_) (fun b4 => ?_)
  · refine ⟨?_, M1.ext⟩
    rw [← schk_bad]
    intro h; have h' := h.2.2.2.1; simp at b4; omega
  refine ⟨_, M1.cell 0 rfl rfl, ?_⟩
  refine (in_spec _ _ _ _).mono ?_
  rintro v w2 ⟨rfl, rfl⟩
  refine brE_mk (fun b5 => ?_) (fun b5 => ?_)
  · refine ⟨?_, M1.ext⟩
    rw [← schk_bad]
    intro h; have h' := h.2.2.2.2; simp at b5; omega
  · refine ⟨?_, M1.ext⟩
    rw [← schk_ok]
    simp at b1 b2 b3 b4 b5
    exact ⟨b1, b2, b3, b4, b5⟩

theorem refScene_spec (s : Scn) (w : World) : CallsV C.P 25 #[s.val] w fun v w' => v = .int .i64 (schk s) ∧ Ext w w' := by
  refine callsV_of C_ok (args := [_]) (plans := []) Try.func25 rfl Try.ntmps25 (by kernel_rfl) (Nat.le_of_ble_eq_true rfl) ?_
  intro g1 w1 h1
  have M1 := (Mem.start w).alloc h1
  refine ⟨_, M1.cell 0 rfl rfl, ?_⟩
  refine (id_spec s.host w1).mono ?_
  rintro v w2 ⟨rfl, rfl⟩
  refine brE_mk (fun b1 => ?_) (fun b1 => ?_)
  · refine ⟨?_, M1.ext⟩
    rw [← schk_bad]
    intro h; have h' := h.1; simp at b1; omega
  have b1 : 1 ≤ s.host ∧ s.host ≤ 1000000 := by simpa using b1
  refine ⟨_, M1.cell 0 rfl rfl, ?_⟩
  refine brE_dec (fun c1 => ?_) (fun c1 => ?_)
  · have c1 : s.lang < 1 := c1
    exact ⟨by rw [← schk_bad]; intro h; have := h.2.1; omega, M1.ext⟩
  have c1 : ¬ s.lang < 1 := c1
  refine ⟨_, M1.cell 0 rfl rfl, ?_⟩
  refine brE_dec (fun c2 => ?_) (fun c2 => ?_)
  · have c2 : s.lang > 3 := c2
    exact ⟨by rw [← schk_bad]; intro h; have := h.2.1; omega, M1.ext⟩
  have c2 : ¬ s.lang > 3 := c2
  refine ⟨_, M1.cell 0 rfl rfl, ?_⟩
  refine brE_dec (fun c3 => ?_) (fun c3 => ?_)
  · have c3 : s.lot < 0 := c3
    exact ⟨by rw [← schk_bad]; intro h; have := h.2.2.1; omega, M1.ext⟩
  have c3 : ¬ s.lot < 0 := c3
  refine ⟨_, M1.cell 0 rfl rfl, ?_⟩
  refine brE_dec (fun c4 => ?_) (fun c4 => ?_)
  · have c4 : s.lot > 199 := c4
    exact ⟨by rw [← schk_bad]; intro h; have := h.2.2.1; omega, M1.ext⟩
  have c4 : ¬ s.lot > 199 := c4
  refine ⟨_, M1.cell 0 rfl rfl, ?_⟩
  refine brE_dec (fun c5 => ?_) (fun c5 => ?_)
  · have c5 : s.known < 0 := c5
    exact ⟨by rw [← schk_bad]; intro h; have := h.2.2.2.1; omega, M1.ext⟩
  have c5 : ¬ s.known < 0 := c5
  refine ⟨_, M1.cell 0 rfl rfl, ?_⟩
  refine brE_dec (fun c6 => ?_) (fun c6 => ?_)
  · have c6 : s.known > 100000 := c6
    exact ⟨by rw [← schk_bad]; intro h; have := h.2.2.2.1; omega, M1.ext⟩
  have c6 : ¬ s.known > 100000 := c6
  refine ⟨_, M1.cell 0 rfl rfl, ?_⟩
  refine brE_dec (fun c7 => ?_) (fun c7 => ?_)
  · have c7 : s.day < 0 := c7
    exact ⟨by rw [← schk_bad]; intro h; have := h.2.2.2.2; omega, M1.ext⟩
  have c7 : ¬ s.day < 0 := c7
  refine ⟨_, M1.cell 0 rfl rfl, ?_⟩
  refine brE_dec (fun c8 => ?_) (fun c8 => ?_)
  · have c8 : s.day > 100000 := c8
    exact ⟨by rw [← schk_bad]; intro h; have := h.2.2.2.2; omega, M1.ext⟩
  have c8 : ¬ s.day > 100000 := c8
  exact ⟨by rw [← schk_ok]; exact ⟨b1, ⟨by omega, by omega⟩, ⟨by omega, by omega⟩, ⟨by omega, by omega⟩, ⟨by omega, by omega⟩⟩, M1.ext⟩

/-! ### guests -/
def gloop : List Int → List (Int × Int) → Int
  | _, [] => 0
  | seen, g :: r => if (idB g.1 && idB g.2) = true then (if g.1 ∈ seen then 6 else gloop (seen ++ [g.1]) r) else 1
def gchk (gs : List (Int × Int)) : Int := if gs.length > 24 then 2 else gloop [] gs

theorem gloop_at {gs : List (Int × Int)} {i : Nat} (hi : i < gs.length) : gloop ((gs.take i).map Prod.fst) (gs.drop i) =
    if (idB gs[i].1 && idB gs[i].2) = true then (if gs[i].1 ∈ (gs.take i).map Prod.fst then 6 else gloop ((gs.take (i + 1)).map Prod.fst) (gs.drop (i + 1))) else 1 := by
  rw [List.drop_eq_getElem_cons hi, gloop, List.take_succ_eq_append_getElem hi, List.map_append]
  rfl

end Go.Proofs.Ytdfhfehlmonjjaa
