/- a part of the proof: steps, walks and plain laws that the law below stands on; no condition. -/
import Derived.Test.YtdpdjcopkehdjaaGreatRSa
import Derived.Test.YtdpdjcopkehdjaaGreatRSb
import Derived.Test.YtdpdjcopkehdjaaGreatRSc
import Derived.Test.YtdpdjcopkehdjaaGreatRSd
import Derived.Test.YtdpdjcopkehdjaaGreatRSe
import Derived.Test.YtdpdjcopkehdjaaGreatRSf
import Derived.Test.YtdpdjcopkehdjaaGreatRSg
import Derived.Test.YtdpdjcopkehdjaaGreatRows
import Derived.ProofKit
import Derived.Lib.SmallJoins
import Derived.Deep.Slices
import Derived.Deep.SlicePairs
import Derived.RowKit
import Derived.RowKit3
import Derived.Test.YtdpdjcopkehdjaaGreatProg
import Derived.Shelf.SortM.Plain
import Derived.Shelf.SortM.SortNone
import Derived.KernelRfl
import Derived.Shelf.SlSortCmp.NoneTotal
set_option linter.unusedVariables false
set_option linter.unusedSimpArgs false
set_option linter.unnecessarySimpa false
set_option linter.unusedSectionVars false
namespace Go.Proofs.YtdpdjcopkehdjaaGreat.Rk
open Go.Eng Go.RowKit
open Go.Maps (Keyed)
abbrev idB (n : Int) : Bool := decide (1 ≤ n ∧ n ≤ 1000000)
theorem isId_spec (n : Int) (w : World) : CallsV C.P 135 #[.int .i64 n] w fun v w' => v = .bool (idB n) ∧ w' = w := by
  refine callsV_of C_ok (args := [_]) (plans := []) Tryz.func135 rfl Tryz.ntmps135 (by kernel_rfl) (Nat.le_of_ble_eq_true rfl) ?_
  refine brE_dec (fun h => ?_) (fun h => ?_)
  · have h : n ≥ 1 := h
    refine ⟨?_, rfl⟩
    have : (1 : Int) ≤ n := h
    simp [this]
  · have h : ¬ n ≥ 1 := h
    refine ⟨?_, rfl⟩
    have : ¬ (1 : Int) ≤ n := h
    simp [this]
theorem id_spec (n : Int) (w : World) : CallsV C.P 142 #[.int .i64 n] w fun v w' => v = .bool (idB n) ∧ w' = w := by
  refine callsV_of C_ok (args := [_]) (plans := []) Tryz.func142 rfl Tryz.ntmps142 (by kernel_rfl) (Nat.le_of_ble_eq_true rfl) ?_
  refine brE_dec (fun h => ?_) (fun h => ?_)
  · have h : n ≥ 1 := h
    refine ⟨?_, rfl⟩
    have : (1 : Int) ≤ n := h
    simp [this]
  · have h : ¬ n ≥ 1 := h
    refine ⟨?_, rfl⟩
    have : ¬ (1 : Int) ≤ n := h
    simp [this]
structure Scn where
  host : Int
  lang : Int
  lot : Int
  known : Int
  day : Int
def Scn.cells (s : Scn) : List Value := [.int .i64 s.host, .int .i64 s.lang, .int .i64 s.lot, .int .i64 s.known, .int .i64 s.day]
def Scn.val (s : Scn) : Value := .agg s.cells.toArray
def Scn.ok (s : Scn) : Prop := (1 ≤ s.host ∧ s.host ≤ 1000000) ∧ (1 ≤ s.lang ∧ s.lang ≤ 3) ∧ (0 ≤ s.lot ∧ s.lot ≤ 199) ∧ (0 ≤ s.known ∧ s.known ≤ 100000) ∧ (0 ≤ s.day ∧ s.day ≤ 100000)
instance (s : Scn) : Decidable s.ok := by unfold Scn.ok; infer_instance
def schk (s : Scn) : Int := if s.ok then 0 else 1
theorem schk_bad {s : Scn} (h : ¬ s.ok) : (1 : Int) = schk s := by rw [schk, if_neg h]
theorem schk_ok {s : Scn} (h : s.ok) : (0 : Int) = schk s := by rw [schk, if_pos h]
theorem CheckScene_spec (s : Scn) (w : World) : CallsV C.P 78 #[s.val] w fun v w' => v = .int .i64 (schk s) ∧ Ext w w' := by
  refine callsV_of C_ok (args := [_]) (plans := []) Tryz.func78 rfl Tryz.ntmps78 (by kernel_rfl) (Nat.le_of_ble_eq_true rfl) ?_
  intro g1 w1 h1
  have M1 := (Mem.start w).alloc h1
  refine ⟨_, M1.cell 0 rfl rfl, ?_⟩
  refine (isId_spec s.host w1).mono ?_
  rintro v w2 ⟨rfl, rfl⟩
  refine brE_mk (fun b1 => ?_) (fun b1 => ?_)
  · refine ⟨?_, M1.ext⟩
    rw [← schk_bad]
    intro h; have h' := h.1; simp at b1; omega
  refine ⟨_, M1.cell 0 rfl rfl, ?_⟩
  refine (in_spec _ _ _ _).mono ?_
  rintro v w2 ⟨rfl, rfl⟩
  refine brE_mk (fun b2 => ?_) (fun b2 => ?_)
  · refine ⟨?_, M1.ext⟩
    rw [← schk_bad]
    intro h; have h' := h.2.1; simp at b2; omega
  refine ⟨_, M1.cell 0 rfl rfl, ?_⟩
  refine (in_spec _ _ _ _).mono ?_
  rintro v w2 ⟨rfl, rfl⟩
  refine brE_mk (fun b3 => ?_) (fun b3 => ?_)
  · refine ⟨?_, M1.ext⟩
    rw [← schk_bad]
    intro h; have h' := h.2.2.1; simp at b3; omega
  refine ⟨_, M1.cell 0 rfl rfl, ?_⟩
  refine (in_spec _ _ _ _).mono ?_
  rintro v w2 ⟨rfl, rfl⟩
  refine brE_mk (fun b4 => ?_) (fun b4 => ?_)
  · refine ⟨?_, M1.ext⟩
    rw [← schk_bad]
    intro h; have h' := h.2.2.2.1; simp at b4; omega
  refine ⟨_, M1.cell 0 rfl rfl, ?_⟩
  refine (in_spec _ _ _ _).mono ?_
  rintro v w2 ⟨rfl, rfl⟩
  refine brE_mk (fun b5 => ?_) (fun b5 => ?_)
  · refine ⟨?_, M1.ext⟩
    rw [← schk_bad]
    intro h; have h' := h.2.2.2.2; simp at b5; omega
  · refine ⟨?_, M1.ext⟩
    rw [← schk_ok]
    simp at b1 b2 b3 b4 b5
    exact ⟨b1, b2, b3, b4, b5⟩
theorem refScene_spec (s : Scn) (w : World) : CallsV C.P 84 #[s.val] w fun v w' => v = .int .i64 (schk s) ∧ Ext w w' := by
  refine callsV_of C_ok (args := [_]) (plans := []) Tryz.func84 rfl Tryz.ntmps84 (by kernel_rfl) (Nat.le_of_ble_eq_true rfl) ?_
  intro g1 w1 h1
  have M1 := (Mem.start w).alloc h1
  refine ⟨_, M1.cell 0 rfl rfl, ?_⟩
  refine (id_spec s.host w1).mono ?_
  rintro v w2 ⟨rfl, rfl⟩
  refine brE_mk (fun b1 => ?_) (fun b1 => ?_)
  · refine ⟨?_, M1.ext⟩
    rw [← schk_bad]
    intro h; have h' := h.1; simp at b1; omega
  have b1 : 1 ≤ s.host ∧ s.host ≤ 1000000 := by simpa using b1
  refine ⟨_, M1.cell 0 rfl rfl, ?_⟩
  refine brE_dec (fun c1 => ?_) (fun c1 => ?_)
  · have c1 : s.lang < 1 := c1
    exact ⟨by rw [← schk_bad]; intro h; have := h.2.1; omega, M1.ext⟩
  have c1 : ¬ s.lang < 1 := c1
  refine ⟨_, M1.cell 0 rfl rfl, ?_⟩
  refine brE_dec (fun c2 => ?_) (fun c2 => ?_)
  · have c2 : s.lang > 3 := c2
    exact ⟨by rw [← schk_bad]; intro h; have := h.2.1; omega, M1.ext⟩
  have c2 : ¬ s.lang > 3 := c2
  refine ⟨_, M1.cell 0 rfl rfl, ?_⟩
  refine brE_dec (fun c3 => ?_) (fun c3 => ?_)
  · have c3 : s.lot < 0 := c3
    exact ⟨by rw [← schk_bad]; intro h; have := h.2.2.1; omega, M1.ext⟩
  have c3 : ¬ s.lot < 0 := c3
  refine ⟨_, M1.cell 0 rfl rfl, ?_⟩
  refine brE_dec (fun c4 => ?_) (fun c4 => ?_)
  · have c4 : s.lot > 199 := c4
    exact ⟨by rw [← schk_bad]; intro h; have := h.2.2.1; omega, M1.ext⟩
  have c4 : ¬ s.lot > 199 := c4
  refine ⟨_, M1.cell 0 rfl rfl, ?_⟩
  refine brE_dec (fun c5 => ?_) (fun c5 => ?_)
  · have c5 : s.known < 0 := c5
    exact ⟨by rw [← schk_bad]; intro h; have := h.2.2.2.1; omega, M1.ext⟩
  have c5 : ¬ s.known < 0 := c5
  refine ⟨_, M1.cell 0 rfl rfl, ?_⟩
  refine brE_dec (fun c6 => ?_) (fun c6 => ?_)
  · have c6 : s.known > 100000 := c6
    exact ⟨by rw [← schk_bad]; intro h; have := h.2.2.2.1; omega, M1.ext⟩
  have c6 : ¬ s.known > 100000 := c6
  refine ⟨_, M1.cell 0 rfl rfl, ?_⟩
  refine brE_dec (fun c7 => ?_) (fun c7 => ?_)
  · have c7 : s.day < 0 := c7
    exact ⟨by rw [← schk_bad]; intro h; have := h.2.2.2.2; omega, M1.ext⟩
  have c7 : ¬ s.day < 0 := c7
  refine ⟨_, M1.cell 0 rfl rfl, ?_⟩
  refine brE_dec (fun c8 => ?_) (fun c8 => ?_)
  · have c8 : s.day > 100000 := c8
    exact ⟨by rw [← schk_bad]; intro h; have := h.2.2.2.2; omega, M1.ext⟩
  have c8 : ¬ s.day > 100000 := c8
  exact ⟨by rw [← schk_ok]; exact ⟨b1, ⟨by omega, by omega⟩, ⟨by omega, by omega⟩, ⟨by omega, by omega⟩, ⟨by omega, by omega⟩⟩, M1.ext⟩
def gloop : List Int → List (Int × Int) → Int
  | _, [] => 0
  | seen, g :: r => if (idB g.1 && idB g.2) = true then (if g.1 ∈ seen then 6 else gloop (seen ++ [g.1]) r) else 1
def gchk (gs : List (Int × Int)) : Int := if gs.length > 24 then 2 else gloop [] gs
theorem gloop_at {gs : List (Int × Int)} {i : Nat} (hi : i < gs.length) : gloop ((gs.take i).map Prod.fst) (gs.drop i) =
    if (idB gs[i].1 && idB gs[i].2) = true then (if gs[i].1 ∈ (gs.take i).map Prod.fst then 6 else gloop ((gs.take (i + 1)).map Prod.fst) (gs.drop (i + 1))) else 1 := by
  rw [List.drop_eq_getElem_cons hi, gloop, List.take_succ_eq_append_getElem hi, List.map_append]
  rfl
end Go.Proofs.YtdpdjcopkehdjaaGreat.Rk
namespace Go.Proofs.YtdpdjcopkehdjaaGreat.Rk
open Go.Eng Go.RowKit
open Go.Maps (Keyed)
theorem intK : Keyed C.P 3 := Go.Maps.int_keyed under3
theorem intKey {x : Int} (h : In64 x) : keyOf C.P 3 (.int .i64 x) = some (.int .i64 x) := Go.Maps.keyOf_int_mk under3 (wf64 h)
noncomputable def seenV (l : List Int) : Value → Option Value := l.foldl (fun f x => updV f (.int .i64 x) (.bool true)) fun _ => none
theorem seenV_snoc (l : List Int) (x : Int) : seenV (l ++ [x]) = updV (seenV l) (.int .i64 x) (.bool true) := by simp [seenV]
theorem seenV_get (l : List Int) (q : Int) : seenV l (.int .i64 q) = if q ∈ l then some (.bool true) else none := by
  suffices h : ∀ (l : List Int) (f : Value → Option Value), (l.foldl (fun f x => updV f (.int .i64 x) (.bool true)) f) (.int .i64 q) = if q ∈ l then some (.bool true) else f (.int .i64 q) from h l _
  intro l
  induction l with
  | nil => intro f; simp
  | cons p l ih =>
    intro f
    rw [List.foldl_cons, ih]
    by_cases h1 : q ∈ l
    · simp [h1]
    · by_cases h2 : q = p
      · subst h2; simp [h1, updV]
      · simp [h1, h2, updV]
theorem CheckGuests_spec {w : World} {B : Option Addr} {gs : List (Int × Int)} {d : Nat} (hr : Reads w B (prCells gs)) :
    CallsV C.P 80 #[.slice B gs.length d] w fun v w' => v = .int .i64 (gchk gs) ∧ Ext w w' := by
  refine callsV_of C_ok (args := [_]) (plans := []) Tryz.func80 rfl Tryz.ntmps80 (by kernel_rfl) (Nat.le_of_ble_eq_true rfl) ?_
  refine brE_dec (fun hl => ?_) (fun hl => ?_)
  · have hl : (gs.length : Int) > 24 := hl
    exact ⟨by rw [gchk, if_pos (by omega)], Ext.refl _⟩
  have hl : ¬ (gs.length : Int) > 24 := hl
  have hg : gchk gs = gloop [] gs := by rw [gchk, if_neg (by omega)]
  rw [hg]
  intro gm w1 h1
  refine loopE C_ok (fun (i : Nat) => [(3, .map (some gm)), (10, .slice B gs.length d), (11, .int .i64 gs.length), (12, .int .i64 i)])
    (fun i w' => i ≤ gs.length ∧ (∃ om, Mem w w' [(gm, om)]) ∧ MapIs C.P 3 w' gm (seenV ((gs.take i).map Prod.fst)) ∧ gloop [] gs = gloop ((gs.take i).map Prod.fst) (gs.drop i))
    (fun i => gs.length - i) 0 ⟨rfl, rfl, rfl, rfl, trivial⟩ ⟨Nat.zero_le _, ⟨_, (Mem.start w).alloc h1⟩, MapIs.empty h1.here, rfl⟩ ?_
  rintro i w2 ⟨hi, ⟨om, M2⟩, hmap, hloop⟩
  refine brE_dec (fun hlt => ?_) (fun hge => ?_)
  · have hlt : i < gs.length := by omega
    rw [gloop_at hlt] at hloop
    obtain ⟨b, o, hA, hrd⟩ := Reads.pair (hr.ext M2.ext) hlt
    refine ⟨i, b, o, rfl, hlt, hA, ?_⟩
    refine ⟨[.int .i64 gs[i].1, .int .i64 gs[i].2], rfl, hrd, ?_⟩
    intro g5 w3 h3
    have M3 := M2.alloc h3
    refine ⟨rfl, _, _, M3.get 0 rfl, Nat.le_of_ble_eq_true rfl, rfl, ?_⟩
    intro w4 h4
    have M4 : Mem w w4 [(g5, .cells #[.int .i64 gs[i].1, .int .i64 gs[i].2] 44 (0, 0)), (gm, om)] := M3.put 0 rfl h4
    have hmap4 : MapIs C.P 3 w4 gm (seenV ((gs.take i).map Prod.fst)) := (hmap.ext h3.ext).put h4 (by
      have := M2.lt (g := gm) (o := om) (by simp)
      rw [h3.new]; omega)
    refine ⟨_, M4.cell 0 rfl rfl, ?_⟩
    refine (isId_spec _ _).mono ?_
    rintro v w5 ⟨rfl, rfl⟩
    refine brE_mk (fun b1 => ?_) (fun b1 => ?_)
    · rw [Bool.not_eq_true'] at b1
      rw [b1, Bool.false_and, if_neg (by decide)] at hloop
      exact ⟨by rw [hloop], M4.ext⟩
    rw [Bool.not_eq_false'] at b1
    refine ⟨_, M4.cell 0 rfl rfl, ?_⟩
    refine (isId_spec _ _).mono ?_
    rintro v w5 ⟨rfl, rfl⟩
    refine brE_mk (fun b2 => ?_) (fun b2 => ?_)
    · rw [Bool.not_eq_true'] at b2
      rw [b2, Bool.and_false, if_neg (by decide)] at hloop
      exact ⟨by rw [hloop], M4.ext⟩
    rw [Bool.not_eq_false'] at b2
    rw [b1, b2, Bool.and_true, if_pos rfl] at hloop
    have hin := of_decide_eq_true b1
    have h64 : In64 gs[i].1 := ⟨by omega, by omega⟩
    have hget : (seenV ((gs.take i).map Prod.fst) (.int .i64 gs[i].1)).getD (.bool false) = .bool (decide (gs[i].1 ∈ (gs.take i).map Prod.fst)) := by
      rw [seenV_get]
      by_cases hm : gs[i].1 ∈ (gs.take i).map Prod.fst <;> simp only [hm, if_true, if_false, Option.getD_some, Option.getD_none, decide_true, decide_false]
    refine ⟨_, M4.cell 0 rfl rfl, ?_⟩
    refine ⟨.bool (decide (gs[i].1 ∈ (gs.take i).map Prod.fst)), mapGet1 C_ok (te := ty4) (x := .int .i64 gs[i].1) (intKey h64) hmap4 intK rfl rfl rfl rfl rfl rfl hget, ?_⟩
    refine brE_dec (fun hm => ?_) (fun hm => ?_)
    · rw [if_pos hm] at hloop
      exact ⟨by rw [hloop], M4.ext⟩
    rw [if_neg hm] at hloop
    refine ⟨_, M4.cell 0 rfl rfl, ?_⟩
    refine mapPut C_ok rfl rfl (x := .int .i64 gs[i].1) rfl rfl rfl rfl intK (intKey h64) hmap4 ?_
    intro o' w6 h6 hmap6
    have M6 := (M4.put 1 rfl h6).tail
    refine ⟨((i + 1 : Nat) : Int), fit ⟨by omega, by omega⟩, ?_⟩
    refine ⟨i + 1, ⟨rfl, rfl, rfl, rfl, trivial⟩, ⟨hlt, ⟨_, M6⟩, ?_, hloop⟩, by omega⟩
    rw [List.take_succ_eq_append_getElem hlt, List.map_append]
    show MapIs _ _ _ _ (seenV (_ ++ [gs[i].1]))
    rw [seenV_snoc]
    exact hmap6
  · have : i = gs.length := by omega
    subst this
    rw [List.drop_length] at hloop
    exact ⟨by rw [hloop]; rfl, M2.ext⟩
theorem refGuests_spec {w : World} {B : Option Addr} {gs : List (Int × Int)} {d : Nat} (hr : Reads w B (prCells gs)) :
    CallsV C.P 85 #[.slice B gs.length d] w fun v w' => v = .int .i64 (gchk gs) ∧ Ext w w' := by
  refine callsV_of C_ok (args := [_]) (plans := plans85) Tryz.func85 rfl Tryz.ntmps85 (by kernel_rfl) (Nat.le_of_ble_eq_true rfl) ?_
  refine brE_dec (fun hl => ?_) (fun hl => ?_)
  · have hl : (gs.length : Int) > 24 := hl
    exact ⟨by rw [gchk, if_pos (by omega)], Ext.refl _⟩
  have hl : ¬ (gs.length : Int) > 24 := hl
  have hg : gchk gs = gloop [] gs := by rw [gchk, if_neg (by omega)]
  rw [hg]
  refine loopE C_ok (fun (i : Nat) => [(0, .slice B gs.length d), (3, .int .i64 i)])
    (fun i w' => i ≤ gs.length ∧ w' = w ∧ gloop [] gs = gloop ((gs.take i).map Prod.fst) (gs.drop i))
    (fun i => gs.length - i) 0 ⟨rfl, rfl, trivial⟩ ⟨Nat.zero_le _, rfl, rfl⟩ ?_
  rintro i w2 ⟨hi, rfl, hloop⟩
  refine brE_dec (fun hlt => ?_) (fun hge => ?_)
  · have hlt : i < gs.length := by omega
    rw [gloop_at hlt] at hloop
    obtain ⟨b, o, hA, hrd⟩ := Reads.pair hr hlt
    have c0 : w2.cell? ⟨b, o + i * 2, none⟩ = some (.int .i64 gs[i].1) := by simpa using hrd 0 _ rfl
    have c1 : w2.cell? ⟨b, o + i * 2 + 1, none⟩ = some (.int .i64 gs[i].2) := by simpa using hrd 1 _ rfl
    refine ⟨i, b, o, rfl, hlt, hA, ?_⟩
    refine ⟨_, c0, ?_⟩
    refine (id_spec _ _).mono ?_
    rintro v w5 ⟨rfl, rfl⟩
    refine brE_mk (fun b1 => ?_) (fun b1 => ?_)
    · rw [Bool.not_eq_true'] at b1
      rw [b1, Bool.false_and, if_neg (by decide)] at hloop
      exact ⟨by rw [hloop], Ext.refl _⟩
    rw [Bool.not_eq_false'] at b1
    refine ⟨i, b, o, rfl, hlt, hA, ?_⟩
    refine ⟨_, c1, ?_⟩
    refine (id_spec _ _).mono ?_
    rintro v w5 ⟨rfl, rfl⟩
    refine brE_mk (fun b2 => ?_) (fun b2 => ?_)
    · rw [Bool.not_eq_true'] at b2
      rw [b2, Bool.and_false, if_neg (by decide)] at hloop
      exact ⟨by rw [hloop], Ext.refl _⟩
    rw [Bool.not_eq_false'] at b2
    rw [b1, b2, Bool.and_true, if_pos rfl] at hloop
    refine loopE C_ok (fun (k : Nat) => [(0, .slice B gs.length d), (3, .int .i64 i), (4, .int .i64 k)])
      (fun k w' => k ≤ i ∧ w' = w5 ∧ ∀ j (hj : j < gs.length), j < k → gs[j].1 ≠ gs[i].1) (fun k => i - k) 0 ⟨rfl, rfl, rfl, trivial⟩ ⟨Nat.zero_le _, rfl, fun _ _ h => absurd h (Nat.not_lt_zero _)⟩ ?_
    rintro k w6 ⟨hk, rfl, hno⟩
    refine brE_dec (fun hlt2 => ?_) (fun hge2 => ?_)
    · have hlt2 : k < i := by omega
      have hkl : k < gs.length := by omega
      obtain ⟨b', o', hA', hrd'⟩ := Reads.pair hr hkl
      refine ⟨k, b', o', rfl, hkl, hA', ?_⟩
      have c2 : w6.cell? ⟨b', o' + k * 2, none⟩ = some (.int .i64 gs[k].1) := by simpa using hrd' 0 _ rfl
      refine ⟨_, c2, ?_⟩
      refine ⟨i, b, o, rfl, hlt, hA, ?_⟩
      refine ⟨_, c0, ?_⟩
      refine brE_dec (fun he => ?_) (fun he => ?_)
      · have he : gs[k].1 = gs[i].1 := he
        have hm : gs[i].1 ∈ (gs.take i).map Prod.fst := List.mem_map.2 ⟨gs[k], List.mem_take_iff_getElem.2 ⟨k, by omega, rfl⟩, he⟩
        rw [if_pos hm] at hloop
        exact ⟨by rw [hloop], Ext.refl _⟩
      · have he : ¬ gs[k].1 = gs[i].1 := he
        refine ⟨((k + 1 : Nat) : Int), fit ⟨by omega, by omega⟩, ?_⟩
        refine ⟨k + 1, ⟨rfl, rfl, rfl, trivial⟩, ⟨hlt2, rfl, fun j hj hjk => ?_⟩, by omega⟩
        rcases Nat.lt_or_ge j k with h | h
        · exact hno j hj h
        · obtain rfl : j = k := by omega
          exact he
    · have : k = i := by omega
      subst this
      have hm : ¬ gs[k].1 ∈ (gs.take k).map Prod.fst := by
        intro hm
        obtain ⟨g, hg1, hg2⟩ := List.mem_map.1 hm
        obtain ⟨j, hj, rfl⟩ := List.mem_take_iff_getElem.1 hg1
        exact hno j (by omega) (by omega) hg2
      rw [if_neg hm] at hloop
      refine ⟨((k + 1 : Nat) : Int), fit ⟨by omega, by omega⟩, ?_⟩
      exact ⟨k + 1, ⟨rfl, rfl, trivial⟩, ⟨hlt, rfl, hloop⟩, by omega⟩
  · have : i = gs.length := by omega
    subst this
    rw [List.drop_length] at hloop
    exact ⟨by rw [hloop]; rfl, Ext.refl _⟩
end Go.Proofs.YtdpdjcopkehdjaaGreat.Rk
namespace Go.Proofs.YtdpdjcopkehdjaaGreat.Rk
open Go.Eng Go.RowKit
theorem goodA_no {N : Int} {x : Arrow} (h : ¬ (0 ≤ x.fr ∧ x.fr ≤ N - 1 ∧ 0 ≤ x.to ∧ x.to ≤ N - 1 ∧ x.fr ≠ x.to ∧ 0 ≤ x.rule ∧ x.rule ≤ 23 ∧ 1 ≤ x.wt ∧ x.wt ≤ 1000)) : goodA N x = false := by
  cases hg : goodA N x with
  | false => rfl
  | true => exact absurd (goodA_spec hg) h
theorem goodA_yes {N : Int} {x : Arrow} (h : 0 ≤ x.fr ∧ x.fr ≤ N - 1 ∧ 0 ≤ x.to ∧ x.to ≤ N - 1 ∧ x.fr ≠ x.to ∧ 0 ≤ x.rule ∧ x.rule ≤ 23 ∧ 1 ≤ x.wt ∧ x.wt ≤ 1000) : goodA N x = true := by
  obtain ⟨a, b, c, d, e, f, g, i, j⟩ := h
  simp [goodA, a, b, c, d, e, f, g, i, j]
theorem refCheck_spec {N : Int} {A : Option Addr} {xs : List Arrow} {c : Nat} {w : World} (h : HRel w N A xs c) : CallsV C.P 118 #[relVal N A xs.length c] w fun v w' => v = .int .i64 (chk N xs) ∧ Ext w w' := by
  have hcap := h.cap
  refine callsV_of C_ok (args := [_]) (plans := []) Tryz.func118 rfl Tryz.ntmps118 (by kernel_rfl) (Nat.le_of_ble_eq_true rfl) ?_
  intro g1 w1 h1
  have M1 := (Mem.start w).alloc h1
  refine ⟨_, M1.cell 0 rfl rfl, ?_⟩
  refine brE_dec (fun hN => ?_) (fun hN => ?_)
  · exact ⟨by rw [chk_big hN], M1.ext⟩
  refine ⟨_, M1.cell 0 rfl rfl, ?_⟩
  refine brE_dec (fun hN0 => ?_) (fun hN0 => ?_)
  · exact ⟨by rw [chk_neg hN hN0], M1.ext⟩
  have hN' : ¬ N > 24 := hN
  have hN0' : ¬ N < 0 := hN0
  refine loopE C_ok (fun i : Nat => [(1, .pointer (some ⟨g1, 0, none⟩)), (3, .int .i64 i)])
    (fun i w' => Mem w w' [(g1, .cells #[.int .i64 N, .slice A xs.length c] 49 (0, 0))] ∧ i ≤ xs.length ∧ ∀ j < i, okAt N xs j = true) (fun i => xs.length - i) 0 ⟨rfl, rfl, trivial⟩ ⟨M1, Nat.zero_le _, by simp⟩ ?_
  rintro i w2 ⟨M2, hi, hall⟩
  refine ⟨_, M2.cell 0 rfl rfl, ?_⟩
  refine brE_dec (fun hlt => ?_) (fun hge => ?_)
  · have hlt : i < xs.length := by omega
    obtain ⟨b, o, hA, hr⟩ := Reads.arrow h.reads hlt
    refine ⟨_, M2.cell 0 rfl rfl, ?_⟩
    refine ⟨i, b, o, rfl, hlt, hA, ?_⟩
    refine ⟨xs[i].cells, rfl, M2.oldRd hr, ?_⟩
    intro g3 w3 h3
    have M3 := M2.alloc h3
    refine ⟨rfl, _, _, M3.get 0 rfl, Nat.le_of_ble_eq_true rfl, rfl, ?_⟩
    intro w4 h4
    have M4 : Mem w w4 [(g3, .cells xs[i].cells.toArray 60 (0, 0)), (g1, .cells #[.int .i64 N, .slice A xs.length c] 49 (0, 0))] := M3.put 0 rfl h4
    have bad : ∀ {w' : World}, Ext w w' → goodA N xs[i] = false → (Value.int IntKind.i64 1 = .int .i64 (chk N xs)) ∧ Ext w w' := fun he hb =>
      ⟨by rw [chk_bad hN hN0 hlt (by unfold okAt; simp [hlt, hb])], he⟩
    refine ⟨_, M4.cell 0 rfl rfl, ?_⟩
    refine brE_dec (fun c1 => ?_) (fun c1 => ?_)
    · have c1 : xs[i].fr < 0 := c1
      exact bad M4.ext (goodA_no fun hh => by omega)
    have c1 : ¬ xs[i].fr < 0 := c1
    refine ⟨_, M4.cell 0 rfl rfl, ?_⟩
    refine ⟨_, M4.cell 1 rfl rfl, ?_⟩
    refine brE_dec (fun c2 => ?_) (fun c2 => ?_)
    · have c2 : xs[i].fr ≥ N := c2
      exact bad M4.ext (goodA_no fun hh => by omega)
    have c2 : ¬ xs[i].fr ≥ N := c2
    refine ⟨_, M4.cell 0 rfl rfl, ?_⟩
    refine brE_dec (fun c3 => ?_) (fun c3 => ?_)
    · have c3 : xs[i].to < 0 := c3
      exact bad M4.ext (goodA_no fun hh => by omega)
    have c3 : ¬ xs[i].to < 0 := c3
    refine ⟨_, M4.cell 0 rfl rfl, ?_⟩
    refine ⟨_, M4.cell 1 rfl rfl, ?_⟩
    refine brE_dec (fun c4 => ?_) (fun c4 => ?_)
    · have c4 : xs[i].to ≥ N := c4
      exact bad M4.ext (goodA_no fun hh => by omega)
    have c4 : ¬ xs[i].to ≥ N := c4
    refine ⟨_, M4.cell 0 rfl rfl, ?_⟩
    refine ⟨_, M4.cell 0 rfl rfl, ?_⟩
    refine brE_dec (fun c5 => ?_) (fun c5 => ?_)
    · have c5 : xs[i].fr = xs[i].to := c5
      exact bad M4.ext (goodA_no fun hh => by omega)
    have c5 : ¬ xs[i].fr = xs[i].to := c5
    refine ⟨_, M4.cell 0 rfl rfl, ?_⟩
    refine brE_dec (fun c6 => ?_) (fun c6 => ?_)
    · have c6 : xs[i].rule < 0 := c6
      exact bad M4.ext (goodA_no fun hh => by omega)
    have c6 : ¬ xs[i].rule < 0 := c6
    refine ⟨_, M4.cell 0 rfl rfl, ?_⟩
    refine brE_dec (fun c7 => ?_) (fun c7 => ?_)
    · have c7 : xs[i].rule > 23 := c7
      exact bad M4.ext (goodA_no fun hh => by omega)
    have c7 : ¬ xs[i].rule > 23 := c7
    refine ⟨_, M4.cell 0 rfl rfl, ?_⟩
    refine brE_dec (fun c8 => ?_) (fun c8 => ?_)
    · have c8 : xs[i].wt < 1 := c8
      exact bad M4.ext (goodA_no fun hh => by omega)
    have c8 : ¬ xs[i].wt < 1 := c8
    refine ⟨_, M4.cell 0 rfl rfl, ?_⟩
    refine brE_dec (fun c9 => ?_) (fun c9 => ?_)
    · have c9 : xs[i].wt > 1000 := c9
      exact bad M4.ext (goodA_no fun hh => by omega)
    have c9 : ¬ xs[i].wt > 1000 := c9
    have hgood : goodA N xs[i] = true := goodA_yes (by omega)
    refine brE_dec (fun hi0 => ?_) (fun hi0 => ?_)
    · obtain ⟨j, rfl⟩ : ∃ j, i = j + 1 := ⟨i - 1, by omega⟩
      have hj : j < xs.length := by omega
      obtain ⟨b', o', hA', hr'⟩ := Reads.arrow h.reads hj
      have worse : ∀ {w' : World}, Ext w w' → ltA xs[j] xs[j + 1] = false → (Value.int IntKind.i64 1 = .int .i64 (chk N xs)) ∧ Ext w w' := fun he hb =>
        ⟨by rw [chk_bad hN hN0 hlt (by unfold okAt; simp [hlt, hj, hb])], he⟩
      refine ⟨_, M4.cell 1 rfl rfl, ?_⟩
      refine ⟨(j : Int), by rw [fit ⟨by omega, by omega⟩]; omega, ?_⟩
      refine ⟨j, b', o', rfl, hj, hA', ?_⟩
      refine ⟨xs[j].cells, rfl, M4.oldRd hr', ?_⟩
      intro g5 w5 h5
      have M5 := M4.alloc h5
      refine ⟨rfl, _, _, M5.get 0 rfl, Nat.le_of_ble_eq_true rfl, rfl, ?_⟩
      intro w6 h6
      have M6 : Mem w w6 [(g5, .cells xs[j].cells.toArray 60 (0, 0)), (g3, .cells xs[j + 1].cells.toArray 60 (0, 0)), (g1, .cells #[.int .i64 N, .slice A xs.length c] 49 (0, 0))] := M5.put 0 rfl h6
      have go1 : ltA xs[j] xs[j + 1] = true → Mem w w6 [(g1, .cells #[.int .i64 N, .slice A xs.length c] 49 (0, 0))] ∧ j + 1 + 1 ≤ xs.length ∧ ∀ k < j + 1 + 1, okAt N xs k = true := fun hl2 => ⟨M6.tail.tail, hlt, fun k hk => by
        rcases Nat.lt_or_ge k (j + 1) with h | h
        · exact hall k h
        · obtain rfl : k = j + 1 := by omega
          unfold okAt; simp [hlt, hj, hgood, hl2]⟩
      have next : IntKind.i64.wrap (((j + 1 : Nat) : Int) + 1) = ((j + 1 + 1 : Nat) : Int) := fit ⟨by omega, by omega⟩
      refine ⟨_, M6.cell 0 rfl rfl, ?_⟩
      refine ⟨_, M6.cell 1 rfl rfl, ?_⟩
      refine brE_dec (fun d1 => ?_) (fun d1 => ?_)
      · have d1 : xs[j].fr > xs[j + 1].fr := d1
        exact worse M6.ext (by unfold ltA; rw [decide_eq_false]; omega)
      have d1 : ¬ xs[j].fr > xs[j + 1].fr := d1
      refine ⟨_, M6.cell 0 rfl rfl, ?_⟩
      refine ⟨_, M6.cell 1 rfl rfl, ?_⟩
      refine brE_dec (fun d2 => ?_) (fun d2 => ?_)
      · have d2 : xs[j].fr = xs[j + 1].fr := d2
        refine ⟨_, M6.cell 0 rfl rfl, ?_⟩
        refine ⟨_, M6.cell 1 rfl rfl, ?_⟩
        refine brE_dec (fun d3 => ?_) (fun d3 => ?_)
        · have d3 : xs[j].to ≥ xs[j + 1].to := d3
          exact worse M6.ext (by unfold ltA; rw [decide_eq_false]; omega)
        · have d3 : ¬ xs[j].to ≥ xs[j + 1].to := d3
          refine ⟨_, next, ?_⟩
          exact ⟨j + 1 + 1, ⟨rfl, rfl, trivial⟩, go1 (by unfold ltA; rw [decide_eq_true]; omega), by omega⟩
      · have d2 : ¬ xs[j].fr = xs[j + 1].fr := d2
        refine ⟨_, next, ?_⟩
        exact ⟨j + 1 + 1, ⟨rfl, rfl, trivial⟩, go1 (by unfold ltA; rw [decide_eq_true]; omega), by omega⟩
    · obtain rfl : i = 0 := by omega
      refine ⟨((0 + 1 : Nat) : Int), fit ⟨by omega, by omega⟩, ?_⟩
      refine ⟨0 + 1, ⟨rfl, rfl, trivial⟩, ⟨M4.tail, hlt, fun k hk => ?_⟩, by omega⟩
      obtain rfl : k = 0 := by omega
      unfold okAt; simp [hlt, hgood]
  · have : i = xs.length := by omega
    subst this
    exact ⟨by rw [chk_ok hN hN0 hall], M2.ext⟩
end Go.Proofs.YtdpdjcopkehdjaaGreat.Rk
namespace Go.Proofs.YtdpdjcopkehdjaaGreat.Rk
open Go.Eng Go.RowKit
end Go.Proofs.YtdpdjcopkehdjaaGreat.Rk
namespace Go.Proofs.YtdpdjcopkehdjaaGreat.Rk
open Go.Eng Go.RowKit
end Go.Proofs.YtdpdjcopkehdjaaGreat.Rk
namespace Go.Proofs.YtdpdjcopkehdjaaGreat.Rk
open Go.Eng Go.RowKit
end Go.Proofs.YtdpdjcopkehdjaaGreat.Rk
namespace Go.Proofs.YtdpdjcopkehdjaaGreat.Rk
open Go.Eng Go.RowKit
end Go.Proofs.YtdpdjcopkehdjaaGreat.Rk
namespace Go.Proofs.YtdpdjcopkehdjaaGreat.Rk
open Go.Eng Go.RowKit Go.ChangeShapes Go.WideShapes Go.ChangeAt
open Go.ChangeMaps (open_string shut_string)
theorem own : ownKnob Tryz.prog.godebug = none := by kernel_rfl
theorem cells5 : Tryz.prog.cellsOf 5 = 1 := by kernel_rfl
theorem cells9 : Tryz.prog.cellsOf 9 = 1 := by kernel_rfl
theorem cellsF : Tryz.prog.cellsOf 55 = 9 := by kernel_rfl
theorem recFs : Tryz.prog.readableRec 22 = true := by kernel_rfl
theorem rowFs : (22 : TypeId) < Tryz.prog.types.size := of_decide_eq_true (by kernel_rfl)
theorem rec3 : Tryz.prog.readableRec 3 = true := by kernel_rfl
theorem row3 : (3 : TypeId) < Tryz.prog.types.size := of_decide_eq_true (by kernel_rfl)
theorem wf_u8 {a : Int} (h : (Lit.int .u8 a).wf = true) : 0 ≤ a ∧ a ≤ 255 := by
  simp [Lit.wf, IntKind.min, IntKind.max, IntKind.bits, IntKind.signed] at h
  omega
theorem list9 {l : List Value} (h : l.length = 9) : ∃ a b c d e f g h' i, l = [a, b, c, d, e, f, g, h', i] := by
  match l, h with
  | [a, b, c, d, e, f, g, h', i], _ => exact ⟨a, b, c, d, e, f, g, h', i, rfl⟩
theorem recSc : Tryz.prog.readableRec 24 = true := by kernel_rfl
theorem rowSc : (24 : TypeId) < Tryz.prog.types.size := of_decide_eq_true (by kernel_rfl)
theorem recUs : Tryz.prog.readableRec 25 = true := by kernel_rfl
theorem rowUs : (25 : TypeId) < Tryz.prog.types.size := of_decide_eq_true (by kernel_rfl)
theorem cellsSc : Tryz.prog.cellsOf 24 = 5 := by kernel_rfl
theorem cellsU : Tryz.prog.cellsOf 44 = 2 := by kernel_rfl
theorem underUs : Tryz.prog.underlying 25 = some (.slice 44) := by kernel_rfl
theorem underU : Tryz.prog.underlying 44 = some (.struct #[⟨ "Person", 3, 0, false, "", "", 0⟩, ⟨ "State", 3, 1, false, "", "", 8⟩]) := by kernel_rfl
theorem underSc : Tryz.prog.underlying 24 = some (.struct #[⟨ "Host", 3, 0, false, "", "", 0⟩, ⟨ "Lang", 3, 1, false, "", "", 8⟩, ⟨ "Lot", 3, 2, false, "", "", 16⟩, ⟨ "Known", 3, 3, false, "", "", 24⟩, ⟨ "Day", 3, 4, false, "", "", 32⟩]) := by kernel_rfl
section
variable {H : Type} {enc : TypeId × Value → H} {W : World}
set_option maxRecDepth 100000 in
/-- One fact: its cells. -/
theorem open_fcells {base n : Nat} {spare : Nat → Bool} {held : Bool} {cs : List Value} {x : DataW H × List MemPlace} (h : DataW.trod enc Tryz.prog W base spare held n 55 cs = some x) :
    ∃ y : Fact, cs = y.cells ∧ y.Nums := by
  obtain ⟨xs, n', _, _, hlen, hxs, hg⟩ := DataW.trod_struct underF h
  rw [cellsF] at hlen
  obtain ⟨a0, a1, a2, a3, a4, a5, a6, a7, a8, rfl⟩ := list9 hlen
  have some9 : ∀ i, i < 9 → ∃ y, xs[i]? = some y := fun i hi => ⟨_, List.getElem?_eq_getElem (by rw [hxs]; exact hi)⟩
  have get3 : ∀ (i : Nat) (u : Value) (f : Field), (#[⟨ "Id", 3, 0, false, "", "", 0⟩, ⟨ "Known", 3, 1, false, "", "", 8⟩, ⟨ "Kind", 5, 2, false, "", "", 16⟩, ⟨ "Who", 3, 3, false, "", "", 24⟩, ⟨ "What", 3, 4, false, "", "", 32⟩, ⟨ "Other", 3, 5, false, "", "", 40⟩, ⟨ "Since", 3, 6, false, "", "", 48⟩, ⟨ "Until", 3, 7, false, "", "", 56⟩, ⟨ "Name", 9, 8, false, "", "", 64⟩] : Array Field)[i]? = some f → f.type = 3 → i < 9 →
      ((([a0, a1, a2, a3, a4, a5, a6, a7, a8] : List Value).drop f.offset).take 1) = [u] → ∃ z : Int, u = .int .i64 z ∧ In64 z := by
    intro i u f hi h3 hi9 hu
    have := hg i f hi
    rw [h3, cells3, hu] at this
    obtain ⟨y, hy⟩ := some9 i hi9
    rw [hy] at this
    obtain ⟨z, e1, _, wz⟩ := DataW.trod_int under3 this
    simp at e1
    exact ⟨z, e1, wf_in64 wz⟩
  obtain ⟨z0, rfl, w0⟩ := get3 0 a0 _ rfl rfl (by omega) rfl
  obtain ⟨z1, rfl, w1⟩ := get3 1 a1 _ rfl rfl (by omega) rfl
  obtain ⟨z3, rfl, w3⟩ := get3 3 a3 _ rfl rfl (by omega) rfl
  obtain ⟨z4, rfl, w4⟩ := get3 4 a4 _ rfl rfl (by omega) rfl
  obtain ⟨z5, rfl, w5⟩ := get3 5 a5 _ rfl rfl (by omega) rfl
  obtain ⟨z6, rfl, w6⟩ := get3 6 a6 _ rfl rfl (by omega) rfl
  obtain ⟨z7, rfl, w7⟩ := get3 7 a7 _ rfl rfl (by omega) rfl
  have h2 : DataW.trod enc Tryz.prog W base spare held n' 5 ((([.int .i64 z0, .int .i64 z1, a2, .int .i64 z3, .int .i64 z4, .int .i64 z5, .int .i64 z6, .int .i64 z7, a8] : List Value).drop 2).take (Tryz.prog.cellsOf 5)) = xs[2]? := hg 2 ⟨ "Kind", 5, 2, false, "", "", 16⟩ rfl
  have h8 : DataW.trod enc Tryz.prog W base spare held n' 9 ((([.int .i64 z0, .int .i64 z1, a2, .int .i64 z3, .int .i64 z4, .int .i64 z5, .int .i64 z6, .int .i64 z7, a8] : List Value).drop 8).take (Tryz.prog.cellsOf 9)) = xs[8]? := hg 8 ⟨ "Name", 9, 8, false, "", "", 64⟩ rfl
  obtain ⟨y2, hy2⟩ := some9 2 (by omega)
  obtain ⟨y8, hy8⟩ := some9 8 (by omega)
  rw [cells5, hy2] at h2
  rw [cells9, hy8] at h8
  obtain ⟨z2, e2, _, w2⟩ := DataW.trod_int under5 h2
  obtain ⟨s8, e8, _, w8⟩ := DataW.trod_string under9 h8
  simp at e2 e8
  subst e2 e8
  exact ⟨⟨z0, z1, z2, z3, z4, z5, z6, z7, s8⟩, rfl, ⟨w0, w1, wf_u8 w2, w3, w4, w5, w6, w7, by simpa [maxLen] using w8⟩⟩
theorem fcells_range (f : Nat → Fact) (n i : Nat) (v : Value) (h : (fcells ((List.range n).map f))[i]? = some v) : ∃ k j, k < n ∧ j < 9 ∧ i = k * 9 + j ∧ (f k).cells[j]? = some v := by
  have hl := fcells_length ((List.range n).map f)
  have hi := (List.getElem?_eq_some_iff.1 h).1
  rw [hl] at hi
  simp at hi
  have hk : i / 9 < ((List.range n).map f).length := by simp; omega
  have hj : i % 9 < 9 := Nat.mod_lt _ (by omega)
  refine ⟨i / 9, i % 9, by simpa using hk, hj, by omega, ?_⟩
  have := flat_get Fact.len ((List.range n).map f) (i / 9) (i % 9) hk hj
  rw [show i / 9 * 9 + i % 9 = i by omega] at this
  have h2 : ((List.range n).map f).flatMap Fact.cells = fcells ((List.range n).map f) := rfl
  rw [h2, h] at this
  rw [this]
  simp
set_option maxRecDepth 100000 in
theorem open_facts {v : Value} {d : DataW H} {p : List MemPlace} {b0 : Nat} (hv : Value.okWide Tryz.prog W .any b0 22 v) (h : DataW.Trod enc Tryz.prog W 0 (fun _ => true) true 22 v d p) :
    ∃ A l c, v = .slice A l.length c ∧ HF W A l c := by
  obtain ⟨a0, len0, cap0, rfl⟩ := okWide_slice underFs hv
  obtain ⟨fuel, hf⟩ := h
  rcases Deep.open_slice underFs hf with ⟨e1, _⟩ | ⟨a, len, cap, m, n, D, Pl, e1, hb, hl, hm, hmm, _, hx⟩
  · simp [Value.cells] at e1
    obtain ⟨rfl, rfl, rfl⟩ := e1
    exact ⟨none, [], 0, rfl, by simp, .inl rfl, Nat.le_refl _, by simp⟩
  · simp [Value.cells] at e1
    obtain ⟨rfl, rfl, rfl⟩ := e1
    have hmm : m = cap0 := by simpa using hmm
    subst hmm
    rw [cellsF] at hx
    obtain ⟨f, hf2⟩ := Deep.choose_lt (p := fun i (y : Fact) => W.cells? 0 (a.add (i * 9)) 9 = some y.cells ∧ y.Nums) (fun i hi => by
      obtain ⟨cs', h1, h2⟩ := hx i hi
      obtain ⟨y, rfl, hy⟩ := open_fcells h2
      exact ⟨y, h1, hy⟩)
    have hlen : ((List.range len0).map f).length = len0 := by simp
    refine ⟨some a, (List.range len0).map f, m, by rw [hlen], ?_, ?_, by rw [hlen]; exact hl, by rw [hlen]; simp only [maxLen] at hm; omega⟩
    · intro x hx
      obtain ⟨i, hi, rfl⟩ := List.mem_map.1 hx
      exact (hf2 i (by have := List.mem_range.1 hi; omega)).2
    · by_cases h0 : len0 = 0
      · subst h0; exact .inl rfl
      · have hc : ∀ i < len0, ∀ j < 9, W.cell? ((a.add (i * 9)).add j) = (f i).cells[j]? := fun i hi j hj => (World.cells?_some (hf2 i (by omega)).1).2.2 j hj
        have hs : a.spot = none := by
          have := hc 0 (by omega) 0 (by omega)
          have h2 : W.cell? ((a.add (0 * 9)).add 0) = some (.int .i64 (f 0).id) := this
          unfold World.cell? at h2
          cases hsp : a.spot with
          | none => rfl
          | some s =>
            have ea : (a.add (0 * 9)).add 0 = a := rfl
            rw [ea] at h2
            simp only [hsp] at h2
            split at h2 <;> simp at h2
        obtain ⟨b, o, sp⟩ := a
        simp only at hs
        subst hs
        refine .inr ⟨b, o, rfl, fun i v hv => ?_⟩
        obtain ⟨k, j, hk, hj, rfl, hg⟩ := fcells_range f len0 i v hv
        have := hc k hk j hj
        rw [hg] at this
        rw [← this]
        rw [add_spot, add_spot, Nat.add_assoc]
theorem list5 {l : List Value} (h : l.length = 5) : ∃ a b c d e, l = [a, b, c, d, e] := by
  match l, h with
  | [a, b, c, d, e], _ => exact ⟨a, b, c, d, e, rfl⟩
theorem prs_range (f : Nat → Int × Int) (n i : Nat) (v : Value) (h : (prCells ((List.range n).map f))[i]? = some v) : ∃ k j, k < n ∧ j < 2 ∧ i = k * 2 + j ∧ ([.int .i64 (f k).1, .int .i64 (f k).2] : List Value)[j]? = some v := by
  have hl := prCells_length ((List.range n).map f)
  have hi := (List.getElem?_eq_some_iff.1 h).1
  rw [hl] at hi
  simp at hi
  have hk : i / 2 < ((List.range n).map f).length := by simp; omega
  have hj : i % 2 < 2 := Nat.mod_lt _ (by omega)
  refine ⟨i / 2, i % 2, by simpa using hk, hj, by omega, ?_⟩
  obtain ⟨u, hu⟩ : ∃ u, ([.int .i64 (f (i / 2)).1, .int .i64 (f (i / 2)).2] : List Value)[i % 2]? = some u := ⟨_, List.getElem?_eq_getElem (by simpa using hj)⟩
  have := prCells_get hk (i % 2) u (by simpa using hu)
  rw [show i / 2 * 2 + i % 2 = i by omega] at this
  rw [hu, ← this, h]
set_option maxRecDepth 100000 in
/-- A slice of two numbers each: pairs, guests. -/
theorem open_two {v : Value} {d : DataW H} {p : List MemPlace} {b0 t e : Nat} {n0 n1 : String} {o1 : Nat} (ht : Tryz.prog.underlying t = some (.slice e)) (ce : Tryz.prog.cellsOf e = 2)
    (he : Tryz.prog.underlying e = some (.struct #[⟨ n0, 3, 0, false, "", "", 0⟩, ⟨ n1, 3, 1, false, "", "", o1⟩]))
    (hv : Value.okWide Tryz.prog W .any b0 t v) (h : DataW.Trod enc Tryz.prog W 0 (fun _ => true) true t v d p) :
    ∃ B l c, v = .slice B l.length c ∧ Reads W B (prCells l) ∧ l.length ≤ c ∧ c ≤ 9223372036854775807 ∧ ∀ x ∈ l, In64 x.1 ∧ In64 x.2 := by
  obtain ⟨a0, len0, cap0, rfl⟩ := okWide_slice ht hv
  obtain ⟨fuel, hf⟩ := h
  rcases Deep.open_slice_pairs ht he ce rfl rfl cells3 cells3 hf with ⟨e1, _⟩ | ⟨a, len, cap, m, n, V0, V1, D0, D1, P0, P1, e1, _, hl, hm, hmm, _, hx⟩
  · simp [Value.cells] at e1
    obtain ⟨rfl, rfl, rfl⟩ := e1
    exact ⟨none, [], 0, rfl, .inl rfl, Nat.le_refl _, by omega, by simp⟩
  · simp [Value.cells] at e1
    obtain ⟨rfl, rfl, rfl⟩ := e1
    have hmm : m = cap0 := by simpa using hmm
    subst hmm
    obtain ⟨f, hf2⟩ := Deep.choose_lt (p := fun i (y : Int × Int) => W.cell? (a.add (i * 2)) = some (.int .i64 y.1) ∧ W.cell? (a.add (i * 2 + 1)) = some (.int .i64 y.2) ∧ In64 y.1 ∧ In64 y.2) (fun i hi => by
      obtain ⟨h1, h2, h3, h4⟩ := hx i hi
      obtain ⟨x, e3, _, w3⟩ := DataW.trod_int under3 h3
      obtain ⟨y, e4, _, w4⟩ := DataW.trod_int under3 h4
      simp at e3 e4
      exact ⟨(x, y), by rw [h1, e3], by rw [h2, e4], wf_in64 w3, wf_in64 w4⟩)
    have hlen : ((List.range len0).map f).length = len0 := by simp
    refine ⟨some a, (List.range len0).map f, m, by rw [hlen], ?_, by rw [hlen]; exact hl, by simp only [maxLen] at hm; omega, ?_⟩
    · by_cases h0 : len0 = 0
      · subst h0; exact .inl rfl
      · have hs : a.spot = none := by
          have h2 : W.cell? a = some (.int .i64 (f 0).1) := (hf2 0 (by omega)).1
          unfold World.cell? at h2
          cases hsp : a.spot with
          | none => rfl
          | some s =>
            simp only [hsp] at h2
            split at h2 <;> simp at h2
        obtain ⟨b, o, sp⟩ := a
        simp only at hs
        subst hs
        refine .inr ⟨b, o, rfl, fun i v hv => ?_⟩
        obtain ⟨k, j, hk, hj, rfl, hg⟩ := prs_range f len0 i v hv
        have h3 := hf2 k (by omega)
        rw [add_spot, add_spot] at h3
        match j, hj with
        | 0, _ => simp at hg; rw [← hg]; simpa using h3.1
        | 1, _ => simp at hg; rw [← hg]; simpa [Nat.add_assoc] using h3.2.1
    · intro x hx2
      obtain ⟨i, hi, rfl⟩ := List.mem_map.1 hx2
      exact (hf2 i (by have := List.mem_range.1 hi; omega)).2.2
set_option maxRecDepth 100000 in
theorem open_guests {v : Value} {d : DataW H} {p : List MemPlace} {b0 : Nat} (hv : Value.okWide Tryz.prog W .any b0 25 v) (h : DataW.Trod enc Tryz.prog W 0 (fun _ => true) true 25 v d p) :
    ∃ B l c, v = .slice B l.length c ∧ Reads W B (prCells l) ∧ l.length ≤ c ∧ c ≤ 9223372036854775807 ∧ ∀ x ∈ l, In64 x.1 ∧ In64 x.2 := open_two underUs cellsU underU hv h
set_option maxRecDepth 100000 in
theorem open_scene {v : Value} {d : DataW H} {p : List MemPlace} {b0 : Nat} (hv : Value.okWide Tryz.prog W .any b0 24 v) (h : DataW.Trod enc Tryz.prog W 0 (fun _ => true) true 24 v d p) :
    ∃ s : Scn, v = s.val ∧ In64 s.host ∧ In64 s.lang ∧ In64 s.lot ∧ In64 s.known ∧ In64 s.day := by
  obtain ⟨cs, rfl, hsz⟩ := okWide_struct underSc hv
  obtain ⟨fuel, hf⟩ := h
  obtain ⟨xs, n, _, _, hlen, hxs, hg⟩ := DataW.trod_struct underSc hf
  have hcl : cs.toList.length = 5 := by simpa [cellsSc] using hsz
  obtain ⟨a, b, c, d', e, hcs⟩ := list5 hcl
  have hcv : (Value.agg cs).cells.toList = [a, b, c, d', e] := hcs
  rw [hcv] at hg
  have get : ∀ (i : Nat) (u : Value) (f : Field), (#[⟨ "Host", 3, 0, false, "", "", 0⟩, ⟨ "Lang", 3, 1, false, "", "", 8⟩, ⟨ "Lot", 3, 2, false, "", "", 16⟩, ⟨ "Known", 3, 3, false, "", "", 24⟩, ⟨ "Day", 3, 4, false, "", "", 32⟩] : Array Field)[i]? = some f → f.type = 3 → i < 5 →
      ((([a, b, c, d', e] : List Value).drop f.offset).take 1) = [u] → ∃ z : Int, u = .int .i64 z ∧ In64 z := by
    intro i u f hi h3 hi5 hu
    have := hg i f hi
    rw [h3, cells3, hu] at this
    have hx : i < xs.length := by rw [hxs]; simpa using hi5
    rw [List.getElem?_eq_getElem hx] at this
    obtain ⟨z, e1, _, wz⟩ := DataW.trod_int under3 this
    simp at e1
    exact ⟨z, e1, wf_in64 wz⟩
  obtain ⟨z0, rfl, w0⟩ := get 0 a _ rfl rfl (by omega) rfl
  obtain ⟨z1, rfl, w1⟩ := get 1 b _ rfl rfl (by omega) rfl
  obtain ⟨z2, rfl, w2⟩ := get 2 c _ rfl rfl (by omega) rfl
  obtain ⟨z3, rfl, w3⟩ := get 3 d' _ rfl rfl (by omega) rfl
  obtain ⟨z4, rfl, w4⟩ := get 4 e _ rfl rfl (by omega) rfl
  refine ⟨⟨z0, z1, z2, z3, z4⟩, ?_, w0, w1, w2, w3, w4⟩
  show Value.agg cs = Value.agg _
  congr 1
  apply Array.ext'
  rw [hcs]
  rfl
end
end Go.Proofs.YtdpdjcopkehdjaaGreat.Rk
namespace Go.Eng
open Go.RowKit
theorem splice_mid (a b c d : List Value) (h : d.length = b.length) : splice (a ++ (b ++ c)) a.length d = a ++ (d ++ c) := by
  unfold splice
  rw [List.take_append_of_le_length (Nat.le_refl _), List.take_length, List.append_assoc]
  congr 2
  rw [List.drop_append, List.drop_eq_nil_of_le (by omega), List.nil_append, h, Nat.add_sub_cancel_left, List.drop_append, List.drop_length, List.nil_append, Nat.sub_self, List.drop_zero]
theorem flat_set {α : Type} {enc : α → List Value} {k : Nat} (hk : ∀ x, (enc x).length = k) {l : List α} {i : Nat} (hi : i < l.length) (x : α) : splice (l.flatMap enc) (i * k) (enc x) = (l.set i x).flatMap enc := by
  have e1 : l.flatMap enc = (l.take i).flatMap enc ++ (enc l[i] ++ (l.drop (i + 1)).flatMap enc) := by
    conv => lhs; rw [← List.take_append_drop i l, List.drop_eq_getElem_cons hi]
    rw [List.flatMap_append, List.flatMap_cons]
  have e2 : (l.set i x).flatMap enc = (l.take i).flatMap enc ++ (enc x ++ (l.drop (i + 1)).flatMap enc) := by
    rw [List.set_eq_take_append_cons_drop, if_pos hi, List.flatMap_append, List.flatMap_cons]
  have hl : ((l.take i).flatMap enc).length = i * k := by rw [flat_length hk, List.length_take, Nat.min_eq_left (Nat.le_of_lt hi)]
  rw [e1, e2, ← hl]
  exact splice_mid _ _ _ _ (by rw [hk, hk])
theorem flat_take {α : Type} {enc : α → List Value} {k : Nat} (hk : ∀ x, (enc x).length = k) {l : List α} {i : Nat} (hi : i ≤ l.length) : (l.flatMap enc).take (i * k) = (l.take i).flatMap enc := by
  have e : l.flatMap enc = (l.take i).flatMap enc ++ (l.drop i).flatMap enc := by rw [← List.flatMap_append, List.take_append_drop]
  have hl : ((l.take i).flatMap enc).length = i * k := by rw [flat_length hk, List.length_take, Nat.min_eq_left hi]
  rw [e, List.take_append_of_le_length (by omega), ← hl, List.take_length]
theorem splice_take_at {cs vs : List Value} {i : Nat} (h : i ≤ cs.length) : (splice cs i vs).take i = cs.take i := by
  unfold splice
  rw [List.append_assoc, List.take_append_of_le_length (by simp; omega), List.take_take, Nat.min_self]
/-- What is kept of a row while it is gone through. -/
theorem keep_at {α : Type} {p : α → Bool} {l : List α} {j : Nat} (hj : j < l.length) : (l.take (j + 1)).filter (fun x => !p x) = (l.take j).filter (fun x => !p x) ++ if p l[j] = true then [] else [l[j]] := by
  rw [List.take_succ_eq_append_getElem hj, List.filter_append, List.filter_cons, List.filter_nil]
  cases p l[j] <;> rfl
theorem keep_first {α : Type} {p : α → Bool} {l : List α} {i : Nat} (hi : i < l.length) (hp : p l[i] = true) (h : ∀ j (hj : j < l.length), j < i → p l[j] = false) : (l.take (i + 1)).filter (fun x => !p x) = l.take i := by
  rw [keep_at hi, if_pos hp, List.append_nil]
  refine List.filter_eq_self.2 fun x hx => ?_
  obtain ⟨j, hj, rfl⟩ := List.getElem_of_mem hx
  rw [List.length_take] at hj
  rw [List.getElem_take, h j (by omega) (by omega)]
  rfl
end Go.Eng
namespace Go.Proofs.YtdpdjcopkehdjaaGreat
open Go.Eng Go.RowKit
theorem IndexFuncF_spec {w : World} {A : Option Addr} {l : List Fact} {c gd : Nat} {cb : Array Value} {p : Fact → Bool} (hr : Reads w A (fcells l)) (hl : l.length ≤ 2 ^ 20) (hgd : C.can gd = true)
    (hdel : ∀ (x : Fact) (w' : World), Ext w w' → CallsV C.P gd (#[] ++ [x.val].toArray ++ cb) w' fun v w'' => v = .bool (p x) ∧ Ext w' w'') :
    CallsV C.P 204 #[.slice A l.length c, .func (.func gd) #[] cb] w fun v w' => ((v = .int .i64 (-1) ∧ ∀ x ∈ l, p x = false) ∨ ∃ i : Nat, v = .int .i64 (i : Nat) ∧ ∃ h : i < l.length, p l[i] = true ∧ ∀ j (hj : j < l.length), j < i → p l[j] = false) ∧ Ext w w' := by
  refine callsV_of C_ok (args := [_, _]) (plans := []) Tryz.func204 rfl Tryz.ntmps204 (by kernel_rfl) (Nat.le_of_ble_eq_true rfl) ?_
  refine loopE C_ok (fun (i : Nat) => [(0, .slice A l.length c), (1, .func (.func gd) #[] cb), (7, .int .i64 l.length), (8, .int .i64 i)])
    (fun i w' => Ext w w' ∧ i ≤ l.length ∧ ∀ j (hj : j < l.length), j < i → p l[j] = false) (fun i => l.length - i) 0 ⟨rfl, rfl, rfl, rfl, trivial⟩
    ⟨Ext.refl _, Nat.zero_le _, fun j _ hj => absurd hj (Nat.not_lt_zero _)⟩ ?_
  rintro i w1 ⟨e1, hi, hall⟩
  refine brE_dec (fun hlt => ?_) (fun hge => ?_)
  · have hlt : i < l.length := by have : (i : Int) < (l.length : Nat) := hlt; omega
    obtain ⟨b, o, hA, hc⟩ := Reads.fact (hr.ext e1) hlt
    refine ⟨i, b, o, rfl, hlt, hA, ?_⟩
    refine ⟨l[i].cells, rfl, hc, ?_⟩
    refine brE_true hgd ?_
    refine (hdel l[i] w1 e1).mono ?_
    rintro v w2 ⟨rfl, e2⟩
    refine brE_mk (fun h2 => ?_) (fun h2 => ?_)
    · exact ⟨.inr ⟨i, rfl, hlt, h2, hall⟩, e1.trans e2⟩
    · refine ⟨((i + 1 : Nat) : Int), fit ⟨by omega, by omega⟩, ?_⟩
      refine ⟨i + 1, ⟨rfl, rfl, rfl, rfl, trivial⟩, ⟨e1.trans e2, hlt, fun j hj hji => ?_⟩, by omega⟩
      rcases Nat.lt_or_ge j i with h | h
      · exact hall j hj h
      · obtain rfl : j = i := by omega
        exact h2
  · have : i = l.length := by have : ¬ (i : Int) < (l.length : Nat) := hge; omega
    subst this
    refine ⟨.inl ⟨rfl, fun x hx => ?_⟩, e1⟩
    obtain ⟨j, hj, rfl⟩ := List.getElem_of_mem hx
    exact hall j hj hj
set_option maxRecDepth 100000 in
theorem DeleteFuncF_spec {B : Nat} {w : World} {v : Value} {l : List Fact} {gd : Nat} {cb : Array Value} {p : Fact → Bool} (ho : NewF B w v l) (hB : B ≤ w.heap.size) (hl : l.length ≤ 2 ^ 20) (hgd : C.can gd = true)
    (hdel : ∀ (x : Fact) (w' : World), Below B w w' → CallsV C.P gd (#[] ++ [x.val].toArray ++ cb) w' fun v w'' => v = .bool (p x) ∧ Ext w' w'') :
    CallsV C.P 136 #[v, .func (.func gd) #[] cb] w fun v' w' => NewF B w' v' (l.filter fun x => !p x) ∧ Below B w w' := by
  obtain ⟨A, cap, rfl, hR, hlc⟩ := ho.slice
  refine callsV_of C_ok (args := [_, _]) (plans := []) Tryz.func136 rfl Tryz.ntmps136 (by kernel_rfl) (Nat.le_of_ble_eq_true rfl) ?_
  refine (IndexFuncF_spec hR hl hgd fun x w' e => hdel x w' (e.mono hB)).mono ?_
  rintro v w1 ⟨hi | ⟨i0, rfl, hi0, hsm, hfirst⟩, e1⟩
  · obtain ⟨rfl, hall⟩ := hi
    have e : (l.filter fun x => !p x) = l := List.filter_eq_self.2 fun x hx => by rw [hall x hx]; rfl
    rw [e]
    exact ⟨ho.ext e1, e1.mono hB⟩
  refine ⟨((i0 + 1 : Nat) : Int), fit ⟨by omega, by omega⟩, ?_⟩
  have hA : ∃ g, A = some ⟨g, 0, none⟩ := by
    obtain ⟨_, ⟨hv, h0⟩ | ⟨g, cap', cur, hv, _⟩⟩ := ho
    · omega
    · simp at hv; exact ⟨g, hv.1⟩
  obtain ⟨g, rfl⟩ := hA
  have kp0 := keep_first hi0 hsm hfirst
  have ho1 : w1.ownsRow B 55 9 (.slice (some ⟨g, 0, none⟩) l.length cap) l.length (fcells l) := ho.ext e1
  refine loopE C_ok (fun (s : Nat × Nat × List Fact) => [(0, .slice (some ⟨g, 0, none⟩) l.length cap), (1, .func (.func gd) #[] cb), (5, .int .i64 s.2.1), (6, .int .i64 s.1)])
    (fun s w' => s.2.1 = ((l.take s.1).filter fun x => !p x).length ∧ s.2.1 < s.1 ∧ s.1 ≤ l.length ∧ s.2.2.length = l.length ∧ w'.ownsRow B 55 9 (.slice (some ⟨g, 0, none⟩) l.length cap) l.length (fcells s.2.2) ∧ s.2.2.take s.2.1 = ((l.take s.1).filter fun x => !p x) ∧ (∀ k, s.1 ≤ k → s.2.2[k]? = l[k]?) ∧ Below B w w')
    (fun s => l.length - s.1) (i0 + 1, i0, l) ⟨rfl, rfl, rfl, rfl, trivial⟩
    ⟨by show i0 = _; rw [kp0, List.length_take]; omega, Nat.lt_succ_self _, hi0, rfl, ho1, kp0.symm, fun _ _ => rfl, e1.mono hB⟩ ?_
  rintro ⟨j, i, R⟩ w2 ⟨hi', hij', hj', hRl', ho2', htake', hrest', b2⟩
  have hi : i = ((l.take j).filter fun x => !p x).length := hi'
  have hij : i < j := hij'
  have hj : j ≤ l.length := hj'
  have hRl : R.length = l.length := hRl'
  have ho2 : w2.ownsRow B 55 9 (.slice (some ⟨g, 0, none⟩) l.length cap) l.length (fcells R) := ho2'
  have htake : R.take i = ((l.take j).filter fun x => !p x) := htake'
  have hrest : ∀ k, j ≤ k → R[k]? = l[k]? := hrest'
  clear hRl' hi' hij' hj' ho2' hrest' htake'
  refine brE_dec (fun hlt => ?_) (fun hge => ?_)
  · have hlt : j < l.length := by have : (j : Int) < (l.length : Nat) := hlt; omega
    have next : IntKind.i64.wrap ((j : Int) + 1) = ((j + 1 : Nat) : Int) := fit ⟨by omega, by omega⟩
    have hRj : R[j]'(by omega) = l[j] := by
      have := hrest j (Nat.le_refl _)
      rw [List.getElem?_eq_getElem hlt, List.getElem?_eq_getElem (by omega)] at this
      exact Option.some.inj this
    have hreads : Reads w2 (some ⟨g, 0, none⟩) (fcells R) := by
      obtain ⟨A', c', e, h, _⟩ := reads_of_owns ho2
      cases e; exact h
    obtain ⟨b1, o1, hA1, hc1⟩ := Reads.fact hreads (i := j) (by omega)
    cases hA1
    rw [hRj] at hc1
    refine ⟨j, g, 0, rfl, hlt, rfl, ?_⟩
    refine ⟨l[j].cells, rfl, hc1, ?_⟩
    intro g7 w3 h3
    refine ⟨rfl, _, _, h3.here, Nat.le_of_ble_eq_true rfl, rfl, ?_⟩
    intro w4 h4
    have h4 : Put w3 g7 (.cells l[j].cells.toArray 55 (0, 0)) w4 := h4
    have e24 : Ext w2 w4 := h4.ext_of h3.ext (by rw [h3.new]; exact Nat.le_refl _)
    have hBw2 : B ≤ w2.heap.size := Nat.le_trans hB b2.size
    have b4 : Below B w w4 := b2.trans (e24.mono hBw2)
    refine ⟨l[j].cells, rfl, Rd.of_block h4.here, ?_⟩
    refine brE_true hgd ?_
    refine (hdel l[j] w4 b4).mono ?_
    rintro v w5 ⟨rfl, e5⟩
    have e25 := e24.trans e5
    have b5 : Below B w w5 := b2.trans (e25.mono hBw2)
    have ho5 := ownsRow_ext ho2 e25
    have hk := keep_at (p := p) hlt
    refine brE_mk (fun h2 => ?_) (fun h2 => ?_)
    · have h2 : p l[j] = false := by simpa using h2
      rw [h2, if_neg (by decide)] at hk
      obtain ⟨cur, hg, hgB, hcl, hccap, hncap, hdl, hct, hput⟩ := ownsRow_open ho5
      refine ⟨l[j].cells, rfl, Rd.of_block (e5.heap h4.here), ?_⟩
      refine ⟨i, g, 0, rfl, (by omega : i < l.length), rfl, ?_⟩
      refine ⟨rfl, _, _, hg, by show 0 + i * 9 + 9 ≤ cur.length; omega, rfl, ?_⟩
      intro w6 h6
      have h6 : Put w5 g (.cells (splice cur (0 + i * 9) l[j].cells).toArray 55 (0, 0)) w6 := h6
      have ho6 := hput (0 + i * 9) l[j].cells w6 (by show 0 + i * 9 + 9 ≤ _; omega) h6
      have e0 : 0 + i * 9 = i * 9 := by omega
      rw [e0] at ho6
      have hset : splice (fcells R) (i * 9) l[j].cells = fcells (R.set i l[j]) := flat_set Fact.len (by omega) _
      rw [hset] at ho6
      have nexti : IntKind.i64.wrap ((i : Int) + 1) = ((i + 1 : Nat) : Int) := fit ⟨by omega, by omega⟩
      refine ⟨_, nexti, ?_⟩
      refine ⟨_, next, ?_⟩
      refine ⟨(j + 1, i + 1, R.set i l[j]), ⟨rfl, rfl, rfl, rfl, trivial⟩, ⟨?_, by show i + 1 < j + 1; omega, hlt, by show (R.set i l[j]).length = _; rw [List.length_set, hRl], ho6, ?_, ?_, below_put b5 h6 hgB⟩, by show l.length - (j + 1) < l.length - j; omega⟩
      · show i + 1 = ((l.take (j + 1)).filter fun x => !p x).length
        rw [hk, List.length_append, ← hi]; rfl
      · show (R.set i l[j]).take (i + 1) = ((l.take (j + 1)).filter fun x => !p x)
        have hil : i < (R.set i l[j]).length := by rw [List.length_set]; omega
        rw [hk, List.take_succ_eq_append_getElem hil, List.take_set_of_le (Nat.le_refl _), htake]
        congr 1
        simp
      · intro k hk1
        show (R.set i l[j])[k]? = l[k]?
        have hk1 : j + 1 ≤ k := hk1
        rw [List.getElem?_set_ne (by omega)]
        exact hrest k (by omega)
    · have h2 : p l[j] = true := by simpa using h2
      rw [h2, if_pos rfl, List.append_nil] at hk
      refine ⟨_, next, ?_⟩
      exact ⟨(j + 1, i, R), ⟨rfl, rfl, rfl, rfl, trivial⟩, ⟨by show i = ((l.take (j + 1)).filter fun x => !p x).length; rw [hk]; exact hi, by show i < j + 1; omega, hlt, hRl, ho5, by show R.take i = ((l.take (j + 1)).filter fun x => !p x); rw [hk]; exact htake, fun k hk1 => hrest k (by have : j + 1 ≤ k := hk1; omega), b5⟩, by show l.length - (j + 1) < l.length - j; omega⟩
  · have : j = l.length := by have : ¬ (j : Int) < (l.length : Nat) := hge; omega
    subst this
    rw [List.take_length] at hi htake
    obtain ⟨cur, hg, hgB, hcl, hccap, hncap, hdl, hct, hput⟩ := ownsRow_open ho2
    refine ⟨i, l.length, rfl, rfl, by omega, by omega, ?_⟩
    have hA : (if cap = i then (some (⟨g, 0, none⟩ : Addr)) else (some (⟨g, 0, none⟩ : Addr)).map (·.add (i * 9))) = some ⟨g, 0 + i * 9, none⟩ := by
      rw [if_neg (by omega)]
      simp [add_spot]
    refine clearRow (esz := 9) C_ok rfl rfl rfl rfl rfl rfl rfl (by decide) hA (by omega) hg (by omega) ?_
    intro zs w3 hzs h3
    have ho3 := hput (0 + i * 9) zs w3 (by rw [hzs]; omega) h3
    refine ⟨0, i, rfl, rfl, Nat.zero_le _, by omega, ?_⟩
    have e : (if cap = 0 then (some ⟨g, 0, none⟩ : Option Addr) else (some (⟨g, 0, none⟩ : Addr)).map (·.add (0 * 9))) = some ⟨g, 0, none⟩ := by
      split <;> rfl
    have hcut := ownsRow_cut ho3 (k := i) (by omega)
    have e0 : 0 + i * 9 = i * 9 := by omega
    have hft : (fcells R).take (i * 9) = fcells (R.take i) := flat_take Fact.len (by omega)
    rw [e0, splice_take_at (by rw [fcells_length]; omega), hft, htake] at hcut
    refine ⟨?_, below_put b2 h3 hgB⟩
    show w3.ownsRow B 55 9 (.slice (if cap = 0 then (some ⟨g, 0, none⟩ : Option Addr) else (some (⟨g, 0, none⟩ : Addr)).map (·.add (0 * 9))) i cap) (l.filter fun x => !p x).length _
    rw [e, ← hi]
    exact hcut
end Go.Proofs.YtdpdjcopkehdjaaGreat
namespace Go.Proofs.YtdpdjcopkehdjaaGreat
open Go.Eng Go.RowKit
theorem ownsRow_grown {w w' : World} {base e size n : Nat} {v : Value} {xs : List Value} {row : Option Nat} (h : w.ownsRow base e size v n xs) (hg : w.grownBy w' row) (hne : v.ownBlock ≠ row) : w'.ownsRow base e size v n xs := by
  obtain ⟨hl, hv | ⟨g', cap, cur, hv, hb, hg', h1⟩⟩ := h
  · exact ⟨hl, .inl hv⟩
  · refine ⟨hl, .inr ⟨g', cap, cur, hv, hb, ?_, h1⟩⟩
    rw [hg.block g' (lt_of_heap hg') (fun e => hne (by rw [hv, ← e]; rfl))]
    exact hg'
theorem rev_get {l : List Fact} {k : Nat} (hk : k < l.length) : l.reverse[k]? = l[l.length - 1 - k]? := by
  rw [List.getElem?_reverse hk]
set_option maxRecDepth 100000 in
theorem ReverseF_spec {B : Nat} {w : World} {v : Value} {l : List Fact} (ho : NewF B w v l) (hl : l.length ≤ 2 ^ 20) :
    CallsV C.P 207 #[v] w fun v' w' => v' = .tuple #[] ∧ NewF B w' v l.reverse ∧ Below B w w' := by
  obtain ⟨A, cap, rfl, hR, hlc⟩ := ho.slice
  refine callsV_of C_ok (args := [_]) (plans := plans207) Tryz.func207 rfl Tryz.ntmps207 (by kernel_rfl) (Nat.le_of_ble_eq_true rfl) ?_
  refine ⟨(l.length : Int) - 1, fit ⟨by omega, by omega⟩, ?_⟩
  refine loopE C_ok (fun (s : Nat × List Fact) => [(0, .slice A l.length cap), (2, .int .i64 s.1), (3, .int .i64 ((l.length : Int) - 1 - s.1))])
    (fun s w' => 2 * s.1 ≤ l.length ∧ s.2.length = l.length ∧ w'.ownsRow B 55 9 (.slice A l.length cap) l.length (fcells s.2) ∧ (∀ k, k < s.1 → s.2[k]? = l.reverse[k]?) ∧ (∀ k, l.length - s.1 ≤ k → s.2[k]? = l.reverse[k]?) ∧ (∀ k, s.1 ≤ k → k < l.length - s.1 → s.2[k]? = l[k]?) ∧ Below B w w')
    (fun s => l.length - s.1) (0, l) ⟨rfl, rfl, congrArg (fun z : Int => some (Value.int .i64 z)) (by omega : (l.length : Int) - 1 = (l.length : Int) - 1 - ((0 : Nat) : Int)), trivial⟩ ⟨Nat.zero_le _, rfl, ho, fun k h => absurd h (Nat.not_lt_zero _), fun k h => by rw [List.getElem?_eq_none (by simpa using h), List.getElem?_eq_none (by simpa using h)], fun _ _ _ => rfl, Below.refl _ _⟩ ?_
  rintro ⟨i, R⟩ w1 ⟨hi2', hRl', ho1', hlo', hhi', hmid', b1⟩
  have hi2 : 2 * i ≤ l.length := hi2'
  have hRl : R.length = l.length := hRl'
  have ho1 : w1.ownsRow B 55 9 (.slice A l.length cap) l.length (fcells R) := ho1'
  have hlo : ∀ k, k < i → R[k]? = l.reverse[k]? := hlo'
  have hhi : ∀ k, l.length - i ≤ k → R[k]? = l.reverse[k]? := hhi'
  have hmid : ∀ k, i ≤ k → k < l.length - i → R[k]? = l[k]? := hmid'
  clear hRl' hhi' hi2' hlo' hmid' ho1'
  refine brE_dec (fun hlt => ?_) (fun hge => ?_)
  · have hlt : (i : Int) < (l.length : Int) - 1 - i := hlt
    obtain ⟨j, hj⟩ : ∃ j : Nat, j = l.length - 1 - i := ⟨_, rfl⟩
    have hij : i < j := by omega
    have hjl : j < l.length := by omega
    have hA : ∃ g, A = some ⟨g, 0, none⟩ := by
      obtain ⟨_, ⟨hv, h0⟩ | ⟨g, cap', cur, hv, _⟩⟩ := ho
      · omega
      · simp at hv; exact ⟨g, hv.1⟩
    obtain ⟨g, rfl⟩ := hA
    have hreads : Reads w1 (some ⟨g, 0, none⟩) (fcells R) := by
      obtain ⟨A', c', e, h, _⟩ := reads_of_owns ho1
      cases e; exact h
    have hRi : R[i]'(by omega) = l[i]'(by omega) := by
      have := hmid i (Nat.le_refl _) (by omega)
      rw [List.getElem?_eq_getElem (by omega), List.getElem?_eq_getElem (by omega)] at this
      exact Option.some.inj this
    have hRj : R[j]'(by omega) = l[j]'hjl := by
      have := hmid j (by omega) (by omega)
      rw [List.getElem?_eq_getElem (by omega), List.getElem?_eq_getElem (by omega)] at this
      exact Option.some.inj this
    obtain ⟨b2, o2, hA2, hc2⟩ := Reads.fact hreads (i := j) (by omega)
    obtain ⟨b3, o3, hA3, hc3⟩ := Reads.fact hreads (i := i) (by omega)
    cases hA2
    cases hA3
    rw [hRj] at hc2
    rw [hRi] at hc3
    obtain ⟨cur, hg, hgB, hcl, hccap, hncap, hdl, hct, hput⟩ := ownsRow_open ho1
    refine ⟨j, g, 0, by omega, hjl, rfl, ?_⟩
    refine ⟨l[j].cells, rfl, hc2, ?_⟩
    refine ⟨i, g, 0, rfl, (by omega : i < l.length), rfl, ?_⟩
    refine ⟨l[i].cells, rfl, hc3, ?_⟩
    refine ⟨i, g, 0, rfl, (by omega : i < l.length), rfl, ?_⟩
    refine ⟨rfl, _, _, hg, by show 0 + i * 9 + 9 ≤ cur.length; omega, rfl, ?_⟩
    intro w4 h4
    have h4 : Put w1 g (.cells (splice cur (0 + i * 9) l[j].cells).toArray 55 (0, 0)) w4 := h4
    have ho4 := hput (0 + i * 9) l[j].cells w4 (by show 0 + i * 9 + 9 ≤ _; omega) h4
    have e0 : 0 + i * 9 = i * 9 := by omega
    have hset : splice (fcells R) (i * 9) l[j].cells = fcells (R.set i l[j]) := flat_set Fact.len (by omega) _
    rw [e0, hset] at ho4
    obtain ⟨cur4, hg4, hgB4, hcl4, hccap4, hncap4, hdl4, hct4, hput4⟩ := ownsRow_open ho4
    refine ⟨j, g, 0, by omega, hjl, rfl, ?_⟩
    refine ⟨rfl, _, _, hg4, by show 0 + j * 9 + 9 ≤ cur4.length; omega, rfl, ?_⟩
    intro w5 h5
    have h5 : Put w4 g (.cells (splice cur4 (0 + j * 9) l[i].cells).toArray 55 (0, 0)) w5 := h5
    have ho5 := hput4 (0 + j * 9) l[i].cells w5 (by show 0 + j * 9 + 9 ≤ _; omega) h5
    have e1 : 0 + j * 9 = j * 9 := by omega
    have hset2 : splice (fcells (R.set i l[j])) (j * 9) l[i].cells = fcells ((R.set i l[j]).set j l[i]) := flat_set Fact.len (by rw [List.length_set]; omega) _
    rw [e1, hset2] at ho5
    refine ⟨((i + 1 : Nat) : Int), fit ⟨by omega, by omega⟩, ?_⟩
    refine ⟨(l.length : Int) - 1 - ((i + 1 : Nat) : Int), by rw [fit ⟨by omega, by omega⟩]; omega, ?_⟩
    have get : ∀ k, ((R.set i l[j]).set j l[i])[k]? = if k = j then some l[i] else if k = i then some l[j] else R[k]? := by
      intro k
      rw [List.getElem?_set, List.length_set]
      by_cases h1 : j = k
      · subst h1; rw [if_pos rfl, if_pos rfl, if_pos (by omega)]
      · rw [if_neg h1, if_neg (fun e => h1 e.symm), List.getElem?_set]
        by_cases h2 : i = k
        · subst h2; rw [if_pos rfl, if_pos rfl, if_pos (by omega)]
        · rw [if_neg h2, if_neg (fun e => h2 e.symm)]
    refine ⟨(i + 1, (R.set i l[j]).set j l[i]), ⟨rfl, rfl, rfl, trivial⟩, ⟨by show 2 * (i + 1) ≤ l.length; omega, by show ((R.set i l[j]).set j l[i]).length = l.length; rw [List.length_set, List.length_set, hRl], ho5, ?_, ?_, ?_, below_put (below_put b1 h4 hgB) h5 hgB⟩, by show l.length - (i + 1) < l.length - i; omega⟩
    · intro k hk
      have hk : k < i + 1 := hk
      show ((R.set i l[j]).set j l[i])[k]? = _
      rw [get, if_neg (by omega)]
      by_cases hki : k = i
      · subst hki
        rw [if_pos rfl, rev_get (by omega), ← hj, List.getElem?_eq_getElem hjl]
      · rw [if_neg hki]; exact hlo k (by omega)
    · intro k hk
      have hk : l.length - (i + 1) ≤ k := hk
      show ((R.set i l[j]).set j l[i])[k]? = _
      rw [get]
      by_cases hkj : k = j
      · subst hkj
        rw [if_pos rfl, rev_get (by omega), show l.length - 1 - k = i by omega, List.getElem?_eq_getElem (by omega)]
      · rw [if_neg hkj, if_neg (by omega)]; exact hhi k (by omega)
    · intro k hk1 hk2
      have hk1 : i + 1 ≤ k := hk1
      have hk2 : k < l.length - (i + 1) := hk2
      show ((R.set i l[j]).set j l[i])[k]? = _
      rw [get, if_neg (by omega), if_neg (by omega)]
      exact hmid k (by omega) (by omega)
  · have hge : ¬ (i : Int) < (l.length : Int) - 1 - i := hge
    have : R = l.reverse := by
      apply List.ext_getElem?
      intro k
      by_cases h1 : k < i
      · exact hlo k h1
      · by_cases h2 : l.length - i ≤ k
        · exact hhi k h2
        · rw [hmid k (by omega) (by omega), rev_get (by omega), show l.length - 1 - k = k by omega]
    subst this
    refine ⟨rfl, ?_, b1⟩
    show w1.ownsRow _ _ _ _ l.reverse.length _
    rw [List.length_reverse]
    exact ho1
/-- The map of what is voided. -/
def VoidIs (w : World) (g : Nat) (acc : List Fact) : Prop := ∃ f, MapIs C.P 3 w g f ∧ ∀ q : Int, (f (.int .i64 q)).getD (.bool false) = .bool (voidedBy acc q)
theorem VoidIs.ext {w w' : World} {g : Nat} {acc : List Fact} (h : VoidIs w g acc) (e : Ext w w') : VoidIs w' g acc := let ⟨f, h1, h2⟩ := h; ⟨f, h1.ext e, h2⟩
theorem VoidIs.lt {w : World} {g : Nat} {acc : List Fact} (h : VoidIs w g acc) : ∃ es clk, w.heap[g]? = some (.map es clk) := let ⟨_, ⟨es, clk, hb, _⟩, _⟩ := h; ⟨es, clk, hb⟩
theorem voidedBy_snoc (acc : List Fact) (x : Fact) (q : Int) : voidedBy (acc ++ [x]) q = (voidedBy acc q || decide (x.kind = 11 ∧ x.what = q)) := by
  unfold voidedBy; rw [List.any_append]; simp
theorem Counting1_spec {w : World} {x : Fact} {g6 gm T : Nat} {acc : List Fact} (hx : x.Nums) (hc : w.heap[g6]? = some (.cells #[.map (some gm)] T (0, 0))) (hv : VoidIs w gm acc) :
    CallsV C.P 206 (#[] ++ [x.val].toArray ++ #[.pointer (some ⟨g6, 0, none⟩)]) w fun v w' => v = .bool (!voidedBy acc x.id) ∧ w.grownBy w' (some gm) ∧ VoidIs w' gm (if voidedBy acc x.id = true then acc else acc ++ [x]) := by
  refine callsV_of C_ok (args := [_, _]) (plans := []) Tryz.func206 rfl Tryz.ntmps206 (by kernel_rfl) (Nat.le_of_ble_eq_true rfl) ?_
  intro g2 w1 h1
  have M1 := (Mem.start w).alloc h1
  have hc1 := h1.ext.heap hc
  have hv1 := hv.ext h1.ext
  obtain ⟨f, hf, hfv⟩ := hv1
  refine ⟨_, cell_of_block hc1 rfl, ?_⟩
  refine ⟨_, M1.cell 0 rfl rfl, ?_⟩
  refine ⟨.bool (voidedBy acc x.id), mapGet1 C_ok (te := ty4) (x := .int .i64 x.id) (intKey hx.id) hf intK rfl rfl rfl rfl rfl rfl (hfv _), ?_⟩
  refine brE_mk (fun hb => ?_) (fun hb => ?_)
  · rw [hb, if_pos rfl]
    exact ⟨rfl, ext_grownBy h1.ext _, ⟨f, hf, hfv⟩⟩
  rw [hb, if_neg (by decide)]
  refine ⟨_, M1.cell 0 rfl rfl, ?_⟩
  refine brE_dec (fun hk => ?_) (fun hk => ?_)
  · have hk : x.kind = 11 := hk
    refine ⟨_, cell_of_block hc1 rfl, ?_⟩
    refine ⟨_, M1.cell 0 rfl rfl, ?_⟩
    refine mapPut C_ok rfl rfl (x := .int .i64 x.what) rfl rfl rfl rfl intK (intKey hx.what) hf ?_
    intro o' w2 h2 hf2
    refine ⟨rfl, grownBy_trans (ext_grownBy h1.ext _) h2.grownBy, ⟨_, hf2, fun q => ?_⟩⟩
    rw [voidedBy_snoc]
    unfold updV
    by_cases e : q = x.what
    · subst e; rw [if_pos rfl]; simp [hk]
    · rw [if_neg (fun h => e (by injection h)), hfv]
      have : decide (x.kind = 11 ∧ x.what = q) = false := decide_eq_false fun h => e h.2.symm
      rw [this, Bool.or_false]
  · have hk : ¬ x.kind = 11 := hk
    refine ⟨rfl, ext_grownBy h1.ext _, ⟨f, hf, fun q => ?_⟩⟩
    rw [voidedBy_snoc, hfv]
    have : decide (x.kind = 11 ∧ x.what = q) = false := decide_eq_false fun h => hk h.1
    rw [this, Bool.or_false]
set_option maxRecDepth 100000 in
theorem Counting_spec {w : World} {A : Option Addr} {l : List Fact} {c : Nat} (h : HF w A l c) (hl : l.length ≤ 2 ^ 20) (k : Int) :
    CallsV C.P 137 #[.slice A l.length c, .int .i64 k] w fun v w' => NewF w.heap.size w' v (countL k l) ∧ Ext w w' := by
  refine callsV_of C_ok (args := [_, _]) (plans := []) Tryz.func137 rfl Tryz.ntmps137 (by kernel_rfl) (Nat.le_of_ble_eq_true rfl) ?_
  refine (Known_spec h hl k).mono ?_
  rintro v w1 ⟨hK, e1⟩
  have hkl := knownL_length k l
  have hsub := knownL_sub (k := k) (l := l)
  have hcount : countL k l = (backL [] (knownL k l).reverse).reverse := rfl
  rw [hcount]
  clear hcount
  generalize knownL k l = K at *
  obtain ⟨AK, cK, rfl, hrK, _⟩ := hK.slice
  intro gm w2 h2
  have M2 := (Mem.start w1).alloc h2
  intro g6 w3 h3
  have M3 := M2.alloc h3
  refine ⟨rfl, _, _, M3.get 0 rfl, Nat.le_of_ble_eq_true rfl, rfl, ?_⟩
  intro w4 h4
  have M4 : Mem w1 w4 [(g6, .cells #[.map (some gm)] 159 (0, 0)), (gm, .map #[] 0)] := M3.put 0 rfl h4
  have hgm := M4.new 1 rfl
  have hg6 := M4.new 0 rfl
  have hne : gm ≠ g6 := by
    have := M4.nodup
    simp at this
    exact fun e => this e.symm
  refine ⟨[], [.pointer (some ⟨g6, 0, none⟩)], rfl, rfl, ?_⟩
  refine ⟨(K.length : Int) - 1, fit ⟨by omega, by omega⟩, ?_⟩
  refine loopE C_ok (fun (s : Nat × Value × List Fact) => [(5, .slice AK K.length cK), (7, .func (.func 206) #[] #[.pointer (some ⟨g6, 0, none⟩)]), (8, s.2.1), (9, .int .i64 ((s.1 : Int) - 1))])
    (fun s w' => s.1 ≤ K.length ∧ Mem w1 w' [(g6, .cells #[.map (some gm)] 159 (0, 0))] ∧ VoidIs w' gm s.2.2 ∧ NewF w1.heap.size w' s.2.1 s.2.2 ∧ backL [] K.reverse = backL s.2.2 (K.take s.1).reverse ∧ s.2.2.length + s.1 ≤ K.length) (fun s => s.1) (K.length, .slice none 0 0, [])
    ⟨rfl, rfl, rfl, rfl, trivial⟩ ⟨Nat.le_refl _, M4.sub (List.Sublist.cons_cons _ (List.nil_sublist _)), ⟨_, MapIs.empty (M4.get 1 rfl), fun q => rfl⟩, newF_nil _ _, by rw [List.take_length], by simp⟩ ?_
  rintro ⟨n, v, acc⟩ w5 ⟨hn', M5, hv5', ho', hb', hal'⟩
  have hn : n ≤ K.length := hn'
  have ho : NewF w1.heap.size w5 v acc := ho'
  have hv5 : VoidIs w5 gm acc := hv5'
  have hb : backL [] K.reverse = backL acc (K.take n).reverse := hb'
  have hal : acc.length + n ≤ K.length := hal'
  clear hal' hb' hn' ho' hv5'
  refine brE_dec (fun hge => ?_) (fun hlt => ?_)
  · have hge : (n : Int) - 1 ≥ 0 := hge
    obtain ⟨m, rfl⟩ : ∃ m, n = m + 1 := ⟨n - 1, by omega⟩
    have hm : m < K.length := by omega
    rw [backL_step hm] at hb
    have next : IntKind.i64.wrap ((((m + 1 : Nat) : Int) - 1) - 1) = (m : Int) - 1 := by rw [fit ⟨by omega, by omega⟩]; omega
    obtain ⟨b2, o2, hA2, hc2⟩ := Reads.fact (hrK.ext M5.ext) hm
    refine ⟨m, b2, o2, by omega, hm, hA2, ?_⟩
    refine ⟨K[m].cells, rfl, hc2, ?_⟩
    obtain ⟨es, clk, hmap5⟩ := hv5.lt
    refine (Counting1_spec (h.nums _ (hsub _ (List.getElem_mem hm))) (M5.get 0 rfl) hv5).mono ?_
    rintro v6 w6 ⟨rfl, hg56, hv6⟩
    have M6 : Mem w1 w6 [(g6, .cells #[.map (some gm)] 159 (0, 0))] := M5.grown hg56 (fun q hq => by cases hq; exact hgm) (fun p hp => by simp at hp; subst hp; exact fun e => hne (by injection e with e; exact e.symm))
    have ho6 : NewF w1.heap.size w6 v acc := ownsRow_grown ho hg56 (fun e => own_ne ho hmap5 (fun c fr e => by cases e) e.symm)
    refine brE_mk (fun hbf => ?_) (fun hbt => ?_)
    · have hbf : voidedBy acc K[m].id = false := by simpa using hbf
      rw [hbf, if_neg (by decide)] at hb hv6
      obtain ⟨b3, o3, hA3, hc3⟩ := Reads.fact (hrK.ext M6.ext) hm
      refine ⟨m, b3, o3, by omega, hm, hA3, ?_⟩
      refine ⟨K[m].cells, rfl, hc3, ?_⟩
      intro g w7 h7
      have M7 := M6.alloc h7
      have ho7 : w7.ownsRow w1.heap.size 55 9 v acc.length (fcells acc) := ownsRow_ext ho6 h7.ext
      have hv7 := hv6.ext h7.ext
      obtain ⟨es7, clk7, hmap7⟩ := hv7.lt
      refine ⟨rfl, rfl, rfl, w1.heap.size, _, _, K[m].cells, ho7, M7.ext.size, Nat.le_of_ble_eq_true rfl, rfl, rfl, .inr ⟨g, 0, rfl, Rd.of_block h7.here⟩, rfl, rfl, by omega, by simp only [maxLen]; omega, ?_⟩
      intro v8 w8 ho8 hg8 _
      have M8 : Mem w1 w8 [(g6, .cells #[.map (some gm)] 159 (0, 0))] := M7.tail.grown hg8 (fun q hq => (ho7.lt q hq).1) (fun p hp => by
        simp at hp; subst hp
        exact own_ne ho7 (M7.get 1 rfl) (fun c fr e => by cases e))
      have hv8 : VoidIs w8 gm (acc ++ [K[m]]) := by
        obtain ⟨f, hf, hfv⟩ := hv7
        exact ⟨f, hf.same (hg8.block gm (lt_of_heap hmap7) (own_ne ho7 hmap7 (fun c fr e => by cases e))), hfv⟩
      refine ⟨_, next, ?_⟩
      refine ⟨(m, v8, acc ++ [K[m]]), ⟨rfl, rfl, rfl, rfl, trivial⟩, ⟨by show m ≤ K.length; omega, M8, hv8, ?_, hb, by show (acc ++ [K[m]]).length + m ≤ K.length; simp; omega⟩, by show m < m + 1; omega⟩
      show w8.ownsRow _ _ _ v8 (acc ++ [K[m]]).length (fcells (acc ++ [K[m]]))
      rw [fcells_append, fcells_one, List.length_append]
      exact ho8
    · have hbt : voidedBy acc K[m].id = true := by simpa using hbt
      rw [hbt, if_pos rfl] at hb hv6
      refine ⟨_, next, ?_⟩
      exact ⟨(m, v, acc), ⟨rfl, rfl, rfl, rfl, trivial⟩, ⟨by show m ≤ K.length; omega, M6, hv6, ho6, hb, by show acc.length + m ≤ K.length; omega⟩, by show m < m + 1; omega⟩
  · have : n = 0 := by have : ¬ (n : Int) - 1 ≥ 0 := hlt; omega
    subst this
    have hb : backL [] K.reverse = acc := hb
    rw [hb]
    refine (ReverseF_spec ho (by omega)).mono ?_
    rintro v6 w6 ⟨rfl, ho6, b6⟩
    exact ⟨ho6.base e1.size, e1.trans (Below.trans M5.ext b6)⟩
end Go.Proofs.YtdpdjcopkehdjaaGreat
namespace Go.Proofs.YtdpdjcopkehdjaaGreat
open Go.Eng Go.RowKit
theorem At1_spec {w : World} {x : Fact} {g5 : Nat} {day : Int} (hc : w.heap[g5]? = some (.cells #[.int .i64 day] 3 (0, 0))) :
    CallsV C.P 138 (#[] ++ [x.val].toArray ++ #[.pointer (some ⟨g5, 0, none⟩)]) w fun v w' => v = .bool (decide (x.kind = 11) || !holdsB day x) ∧ Ext w w' := by
  refine callsV_of C_ok (args := [_, _]) (plans := []) Tryz.func138 rfl Tryz.ntmps138 (by kernel_rfl) (Nat.le_of_ble_eq_true rfl) ?_
  intro g2 w1 h1
  have M1 := (Mem.start w).alloc h1
  refine ⟨_, M1.cell 0 rfl rfl, ?_⟩
  refine brE_dec (fun hk => ?_) (fun hk => ?_)
  · have hk : x.kind = 11 := hk
    exact ⟨by rw [decide_eq_true hk]; rfl, M1.ext⟩
  · have hk : ¬ x.kind = 11 := hk
    refine ⟨x.cells, rfl, M1.rd 0 rfl, ?_⟩
    refine ⟨_, cell_of_block (h1.ext.heap hc) rfl, ?_⟩
    refine (Holds_spec x day w1).mono ?_
    rintro v w2 ⟨rfl, e2⟩
    exact ⟨by rw [decide_eq_false hk]; rfl, M1.ext.trans e2⟩
theorem At_spec {w : World} {A : Option Addr} {l : List Fact} {c : Nat} (h : HF w A l c) (hl : l.length ≤ 2 ^ 20) (k day : Int) :
    CallsV C.P 81 #[.slice A l.length c, .int .i64 k, .int .i64 day] w fun v w' => NewF w.heap.size w' v (atL k day l) ∧ Ext w w' := by
  refine callsV_of C_ok (args := [_, _, _]) (plans := []) Tryz.func81 rfl Tryz.ntmps81 (by kernel_rfl) (Nat.le_of_ble_eq_true rfl) ?_
  intro g5 w1 h1
  have M1 := (Mem.start w).alloc h1
  refine (Counting_spec (h.ext M1.ext) hl k).mono ?_
  rintro v w2 ⟨ho, e2⟩
  have hcl := countL_length k l
  refine ⟨[], [.pointer (some ⟨g5, 0, none⟩)], rfl, rfl, ?_⟩
  have hc2 : w2.heap[g5]? = some (.cells #[.int .i64 day] 3 (0, 0)) := e2.heap h1.here
  have hlt : g5 < w1.heap.size := lt_of_heap h1.here
  refine (DeleteFuncF_spec (p := fun x => decide (x.kind = 11) || !holdsB day x) ho e2.size (by omega) rfl (fun x w' b => At1_spec (by rw [b.block g5 hlt]; exact hc2))).mono ?_
  rintro v' w3 ⟨ho3, b3⟩
  refine ⟨?_, M1.ext.trans (Below.trans e2 b3)⟩
  have e : ((countL k l).filter fun x => !(decide (x.kind = 11) || !holdsB day x)) = atL k day l := by
    unfold atL
    congr 1
    funext x
    rw [Bool.not_or, Bool.not_not]
  rw [← e]
  exact ho3.base M1.ext.size
end Go.Proofs.YtdpdjcopkehdjaaGreat
namespace Go.Proofs.YtdpdjcopkehdjaaGreat
open Go.Eng Go.RowKit
/-- A number in a box. -/
abbrev BoxI (w : World) (p : Nat) (n : Int) : Prop := w.heap[p]? = some (.cells #[.int .i64 n] 3 (0, 0))
theorem BoxI.ext {w w' : World} {p : Nat} {n : Int} (h : BoxI w p n) (e : Ext w w') : BoxI w' p n := e.heap h
theorem named1_spec (x : Fact) {s lang : Int} {p0 p1 : Nat} (w : World) (hp0 : BoxI w p0 s) (hp1 : BoxI w p1 lang) :
    CallsV C.P 229 (#[] ++ [x.val].toArray ++ #[.pointer (some ⟨p0, 0, none⟩), .pointer (some ⟨p1, 0, none⟩)]) w fun v w' => v = .bool (isNm s lang x) ∧ Ext w w' := by
  refine callsV_of C_ok (args := [_, _, _]) (plans := []) Tryz.func229 rfl Tryz.ntmps229 (by kernel_rfl) (Nat.le_of_ble_eq_true rfl) ?_
  intro g w1 h1
  have M1 := (Mem.start w).alloc h1
  unfold isNm
  refine ⟨_, M1.cell 0 rfl rfl, ?_⟩
  refine brE_dec (fun a0 => ?_) (fun a0 => ?_)
  case' refine_2 =>
    have a0 : ¬ x.kind = 1 := a0
    exact ⟨congrArg Value.bool (decide_eq_false fun h => a0 h.1).symm, M1.ext⟩
  have a0 : x.kind = 1 := a0
  refine ⟨_, M1.cell 0 rfl rfl, ?_⟩
  refine ⟨_, cell_of_block (h1.ext.heap hp0) rfl, ?_⟩
  refine brE_dec (fun a1 => ?_) (fun a1 => ?_)
  case' refine_2 =>
    have a1 : ¬ x.who = s := a1
    exact ⟨congrArg Value.bool (decide_eq_false fun h => a1 h.2.1).symm, M1.ext⟩
  have a1 : x.who = s := a1
  refine ⟨_, M1.cell 0 rfl rfl, ?_⟩
  refine ⟨_, cell_of_block (h1.ext.heap hp1) rfl, ?_⟩
  refine ⟨congrArg Value.bool ?_, M1.ext⟩
  show decide (x.other = lang) = _
  rw [Bool.eq_iff_iff, decide_eq_true_eq, decide_eq_true_eq]
  exact ⟨fun h => ⟨a0, a1, h⟩, fun h => h.2.2⟩
theorem dead1_spec (x : Fact) {n : Int} {p0 : Nat} (w : World) (hp0 : BoxI w p0 n) :
    CallsV C.P 228 (#[] ++ [x.val].toArray ++ #[.pointer (some ⟨p0, 0, none⟩)]) w fun v w' => v = .bool (deathB n x) ∧ Ext w w' := by
  refine callsV_of C_ok (args := [_, _]) (plans := []) Tryz.func228 rfl Tryz.ntmps228 (by kernel_rfl) (Nat.le_of_ble_eq_true rfl) ?_
  intro g w1 h1
  have M1 := (Mem.start w).alloc h1
  unfold deathB
  refine ⟨_, M1.cell 0 rfl rfl, ?_⟩
  refine brE_dec (fun a0 => ?_) (fun a0 => ?_)
  case' refine_2 =>
    have a0 : ¬ x.kind = 10 := a0
    exact ⟨congrArg Value.bool (decide_eq_false fun h => a0 h.1).symm, M1.ext⟩
  have a0 : x.kind = 10 := a0
  refine ⟨_, M1.cell 0 rfl rfl, ?_⟩
  refine ⟨_, cell_of_block (h1.ext.heap hp0) rfl, ?_⟩
  refine ⟨congrArg Value.bool ?_, M1.ext⟩
  show decide (x.who = n) = _
  rw [Bool.eq_iff_iff, decide_eq_true_eq, decide_eq_true_eq]
  exact ⟨fun h => ⟨a0, h⟩, fun h => h.2⟩
theorem Mourns1_spec (x : Fact) {s : Int} {p0 : Nat} (w : World) (hp0 : BoxI w p0 s) :
    CallsV C.P 156 (#[] ++ [x.val].toArray ++ #[.pointer (some ⟨p0, 0, none⟩)]) w fun v w' => v = .bool (mournB s x) ∧ Ext w w' := by
  refine callsV_of C_ok (args := [_, _]) (plans := []) Tryz.func156 rfl Tryz.ntmps156 (by kernel_rfl) (Nat.le_of_ble_eq_true rfl) ?_
  intro g w1 h1
  have M1 := (Mem.start w).alloc h1
  unfold mournB
  refine ⟨_, M1.cell 0 rfl rfl, ?_⟩
  refine brE_dec (fun a0 => ?_) (fun a0 => ?_)
  case' refine_2 =>
    have a0 : ¬ x.kind = 7 := a0
    exact ⟨congrArg Value.bool (decide_eq_false fun h => a0 h.1).symm, M1.ext⟩
  have a0 : x.kind = 7 := a0
  refine ⟨_, M1.cell 0 rfl rfl, ?_⟩
  refine ⟨_, cell_of_block (h1.ext.heap hp0) rfl, ?_⟩
  refine ⟨congrArg Value.bool ?_, M1.ext⟩
  show decide (x.who = s) = _
  rw [Bool.eq_iff_iff, decide_eq_true_eq, decide_eq_true_eq]
  exact ⟨fun h => ⟨a0, h⟩, fun h => h.2⟩
theorem Principal1_spec (x : Fact) {n : Int} {p0 : Nat} (w : World) (hp0 : BoxI w p0 n) :
    CallsV C.P 154 (#[] ++ [x.val].toArray ++ #[.pointer (some ⟨p0, 0, none⟩)]) w fun v w' => v = .bool (deputyB n x) ∧ Ext w w' := by
  refine callsV_of C_ok (args := [_, _]) (plans := []) Tryz.func154 rfl Tryz.ntmps154 (by kernel_rfl) (Nat.le_of_ble_eq_true rfl) ?_
  intro g w1 h1
  have M1 := (Mem.start w).alloc h1
  unfold deputyB
  refine ⟨_, M1.cell 0 rfl rfl, ?_⟩
  refine brE_dec (fun a0 => ?_) (fun a0 => ?_)
  case' refine_2 =>
    have a0 : ¬ x.kind = 9 := a0
    exact ⟨congrArg Value.bool (decide_eq_false fun h => a0 h.1).symm, M1.ext⟩
  have a0 : x.kind = 9 := a0
  refine ⟨_, M1.cell 0 rfl rfl, ?_⟩
  refine ⟨_, cell_of_block (h1.ext.heap hp0) rfl, ?_⟩
  refine ⟨congrArg Value.bool ?_, M1.ext⟩
  show decide (x.who = n) = _
  rw [Bool.eq_iff_iff, decide_eq_true_eq, decide_eq_true_eq]
  exact ⟨fun h => ⟨a0, h⟩, fun h => h.2⟩
theorem Credentials1_spec (x : Fact) {n s : Int} {p0 p1 : Nat} (w : World) (hp0 : BoxI w p0 n) (hp1 : BoxI w p1 s) :
    CallsV C.P 162 (#[] ++ [x.val].toArray ++ #[.pointer (some ⟨p0, 0, none⟩), .pointer (some ⟨p1, 0, none⟩)]) w fun v w' => v = .bool (credB n s x) ∧ Ext w w' := by
  refine callsV_of C_ok (args := [_, _, _]) (plans := []) Tryz.func162 rfl Tryz.ntmps162 (by kernel_rfl) (Nat.le_of_ble_eq_true rfl) ?_
  intro g w1 h1
  have M1 := (Mem.start w).alloc h1
  unfold credB
  refine ⟨_, M1.cell 0 rfl rfl, ?_⟩
  refine brE_dec (fun a0 => ?_) (fun a0 => ?_)
  case' refine_2 =>
    have a0 : ¬ x.kind = 5 := a0
    exact ⟨congrArg Value.bool (decide_eq_false fun h => a0 h.1).symm, M1.ext⟩
  have a0 : x.kind = 5 := a0
  refine ⟨_, M1.cell 0 rfl rfl, ?_⟩
  refine ⟨_, cell_of_block (h1.ext.heap hp0) rfl, ?_⟩
  refine brE_dec (fun a1 => ?_) (fun a1 => ?_)
  case' refine_2 =>
    have a1 : ¬ x.who = n := a1
    exact ⟨congrArg Value.bool (decide_eq_false fun h => a1 h.2.1).symm, M1.ext⟩
  have a1 : x.who = n := a1
  refine ⟨_, M1.cell 0 rfl rfl, ?_⟩
  refine ⟨_, cell_of_block (h1.ext.heap hp1) rfl, ?_⟩
  refine ⟨congrArg Value.bool ?_, M1.ext⟩
  show decide (x.what = s) = _
  rw [Bool.eq_iff_iff, decide_eq_true_eq, decide_eq_true_eq]
  exact ⟨fun h => ⟨a0, a1, h⟩, fun h => h.2.2⟩
theorem recognised11_spec (x : Fact) {host s n : Int} {p0 p1 p2 : Nat} (w : World) (hp0 : BoxI w p0 host) (hp1 : BoxI w p1 s) (hp2 : BoxI w p2 n) :
    CallsV C.P 227 (#[] ++ [x.val].toArray ++ #[.pointer (some ⟨p0, 0, none⟩), .pointer (some ⟨p1, 0, none⟩), .pointer (some ⟨p2, 0, none⟩)]) w fun v w' => v = .bool (recogB host s n x) ∧ Ext w w' := by
  refine callsV_of C_ok (args := [_, _, _, _]) (plans := []) Tryz.func227 rfl Tryz.ntmps227 (by kernel_rfl) (Nat.le_of_ble_eq_true rfl) ?_
  intro g w1 h1
  have M1 := (Mem.start w).alloc h1
  unfold recogB
  refine ⟨_, M1.cell 0 rfl rfl, ?_⟩
  refine brE_dec (fun a0 => ?_) (fun a0 => ?_)
  case' refine_2 =>
    have a0 : ¬ x.kind = 4 := a0
    exact ⟨congrArg Value.bool (decide_eq_false fun h => a0 h.1).symm, M1.ext⟩
  have a0 : x.kind = 4 := a0
  refine ⟨_, M1.cell 0 rfl rfl, ?_⟩
  refine ⟨_, cell_of_block (h1.ext.heap hp0) rfl, ?_⟩
  refine brE_dec (fun a1 => ?_) (fun a1 => ?_)
  case' refine_2 =>
    have a1 : ¬ x.who = host := a1
    exact ⟨congrArg Value.bool (decide_eq_false fun h => a1 h.2.1).symm, M1.ext⟩
  have a1 : x.who = host := a1
  refine ⟨_, M1.cell 0 rfl rfl, ?_⟩
  refine ⟨_, cell_of_block (h1.ext.heap hp1) rfl, ?_⟩
  refine brE_dec (fun a2 => ?_) (fun a2 => ?_)
  case' refine_2 =>
    have a2 : ¬ x.what = s := a2
    exact ⟨congrArg Value.bool (decide_eq_false fun h => a2 h.2.2.1).symm, M1.ext⟩
  have a2 : x.what = s := a2
  refine ⟨_, M1.cell 0 rfl rfl, ?_⟩
  refine ⟨_, cell_of_block (h1.ext.heap hp2) rfl, ?_⟩
  refine ⟨congrArg Value.bool ?_, M1.ext⟩
  show decide (x.other = n) = _
  rw [Bool.eq_iff_iff, decide_eq_true_eq, decide_eq_true_eq]
  exact ⟨fun h => ⟨a0, a1, a2, h⟩, fun h => h.2.2.2⟩
theorem Spouse1_spec (x : Fact) {n : Int} {p0 : Nat} (w : World) (hp0 : BoxI w p0 n) :
    CallsV C.P 160 (#[] ++ [x.val].toArray ++ #[.pointer (some ⟨p0, 0, none⟩)]) w fun v w' => v = .bool (marriedB n x) ∧ Ext w w' := by
  refine callsV_of C_ok (args := [_, _]) (plans := []) Tryz.func160 rfl Tryz.ntmps160 (by kernel_rfl) (Nat.le_of_ble_eq_true rfl) ?_
  intro g w1 h1
  have M1 := (Mem.start w).alloc h1
  unfold marriedB
  refine ⟨_, M1.cell 0 rfl rfl, ?_⟩
  refine brE_dec (fun a0 => ?_) (fun a0 => ?_)
  case' refine_2 =>
    have a0 : ¬ x.kind = 6 := a0
    exact ⟨congrArg Value.bool (decide_eq_false fun h => a0 h.1).symm, M1.ext⟩
  have a0 : x.kind = 6 := a0
  refine ⟨_, M1.cell 0 rfl rfl, ?_⟩
  refine ⟨_, cell_of_block (h1.ext.heap hp0) rfl, ?_⟩
  refine brE_dec (fun a1 => ?_) (fun a1 => ?_)
  · have a1 : x.who = n := a1
    exact ⟨congrArg Value.bool (decide_eq_true ⟨a0, .inl a1⟩).symm, M1.ext⟩
  have a1 : ¬ x.who = n := a1
  refine ⟨_, M1.cell 0 rfl rfl, ?_⟩
  refine ⟨_, cell_of_block (h1.ext.heap hp0) rfl, ?_⟩
  refine ⟨congrArg Value.bool ?_, M1.ext⟩
  show decide (x.other = n) = _
  rw [Bool.eq_iff_iff, decide_eq_true_eq, decide_eq_true_eq]
  exact ⟨fun h => ⟨a0, .inr h⟩, fun h => h.2.resolve_left a1⟩
abbrev TestV (w : World) (gd : Nat) (cb : Array Value) (p : Fact → Bool) : Prop := ∀ (x : Fact) (w' : World), Ext w w' → CallsV C.P gd (#[] ++ [x.val].toArray ++ cb) w' fun v w'' => v = .bool (p x) ∧ Ext w' w''
set_option maxRecDepth 100000 in
theorem last_spec {w : World} {A : Option Addr} {l : List Fact} {c gd : Nat} {cb : Array Value} {p : Fact → Bool} (hr : Reads w A (fcells l)) (hl : l.length ≤ 2 ^ 20) (hgd : C.can gd = true) (hp : TestV w gd cb p) :
    CallsV C.P 153 #[.slice A l.length c, .func (.func gd) #[] cb] w fun v w' => v = .tuple #[((lastP p l).getD factZ).val, .bool (lastP p l).isSome] ∧ Ext w w' := by
  refine callsV_of C_ok (args := [_, _]) (plans := []) Tryz.func153 rfl Tryz.ntmps153 (by kernel_rfl) (Nat.le_of_ble_eq_true rfl) ?_
  intro g4 w1 h1
  have M1 : Mem w w1 [(g4, .cells factZ.cells.toArray 55 (0, 0))] := (Mem.start w).alloc h1
  refine ⟨(l.length : Int) - 1, fit ⟨by omega, by omega⟩, ?_⟩
  refine loopE C_ok (fun (n : Nat) => [(0, .slice A l.length c), (1, .func (.func gd) #[] cb), (4, .pointer (some ⟨g4, 0, none⟩)), (6, .int .i64 ((n : Int) - 1))])
    (fun n w' => n ≤ l.length ∧ Mem w w' [(g4, .cells factZ.cells.toArray 55 (0, 0))] ∧ lastP p l = lastP p (l.take n)) (fun n => n) l.length
    ⟨rfl, rfl, rfl, rfl, trivial⟩ ⟨Nat.le_refl _, M1, by rw [List.take_length]⟩ ?_
  rintro n w2 ⟨hn, M2, hlast⟩
  refine brE_dec (fun hge => ?_) (fun hlt => ?_)
  · have hge : (n : Int) - 1 ≥ 0 := hge
    obtain ⟨m, rfl⟩ : ∃ m, n = m + 1 := ⟨n - 1, by omega⟩
    have hm : m < l.length := by omega
    rw [lastP_take hm] at hlast
    obtain ⟨b, o, hA, hc⟩ := Reads.fact (hr.ext M2.ext) hm
    refine ⟨m, b, o, by omega, hm, hA, ?_⟩
    refine ⟨l[m].cells, rfl, hc, ?_⟩
    refine brE_true hgd ?_
    refine (hp l[m] w2 M2.ext).mono ?_
    rintro v w3 ⟨rfl, e3⟩
    have M3 := M2.grow e3
    refine brE_mk (fun hb => ?_) (fun hb => ?_)
    · rw [if_pos hb] at hlast
      obtain ⟨b2, o2, hA2, hc2⟩ := Reads.fact (hr.ext M3.ext) hm
      refine ⟨m, b2, o2, by omega, hm, hA2, ?_⟩
      refine ⟨l[m].cells, rfl, hc2, ?_⟩
      refine ⟨rfl, _, _, M3.get 0 rfl, Nat.le_of_ble_eq_true rfl, rfl, ?_⟩
      intro w4 h4
      have h4 : Put w3 g4 (.cells l[m].cells.toArray 55 (0, 0)) w4 := h4
      refine ⟨l[m].cells, rfl, Rd.of_block h4.here, ?_⟩
      refine ⟨?_, (M3.put 0 rfl h4).ext⟩
      rw [hlast]; rfl
    · rw [if_neg (by rw [hb]; decide)] at hlast
      refine ⟨((m : Nat) : Int) - 1, by rw [fit ⟨by omega, by omega⟩]; omega, ?_⟩
      exact ⟨m, ⟨rfl, rfl, rfl, rfl, trivial⟩, ⟨by omega, M3, hlast⟩, by omega⟩
  · have : n = 0 := by have : ¬ (n : Int) - 1 ≥ 0 := hlt; omega
    subst this
    have hlast : lastP p l = none := hlast
    refine ⟨rfl, _, _, M2.get 0 rfl, Nat.le_of_ble_eq_true rfl, rfl, ?_⟩
    intro w4 h4
    have h4 : Put w2 g4 (.cells factZ.cells.toArray 55 (0, 0)) w4 := h4
    refine ⟨factZ.cells, rfl, Rd.of_block h4.here, ?_⟩
    refine ⟨?_, (M2.put 0 rfl h4).ext⟩
    rw [hlast]; rfl
theorem IndexFuncV_spec {w : World} {A : Option Addr} {l : List Fact} {c gd : Nat} {cb : Array Value} {p : Fact → Bool} (hr : Reads w A (fcells l)) (hl : l.length ≤ 2 ^ 20) (hgd : C.can gd = true) (hp : TestV w gd cb p) :
    CallsV C.P 262 #[.slice A l.length c, .func (.func gd) #[] cb] w fun v w' => (∃ i : Int, v = .int .i64 i ∧ decide (i ≥ 0) = l.any p) ∧ Ext w w' := by
  refine callsV_of C_ok (args := [_, _]) (plans := []) Tryz.func262 rfl Tryz.ntmps262 (by kernel_rfl) (Nat.le_of_ble_eq_true rfl) ?_
  refine loopE C_ok (fun (i : Nat) => [(0, .slice A l.length c), (1, .func (.func gd) #[] cb), (7, .int .i64 l.length), (8, .int .i64 i)])
    (fun i w' => Ext w w' ∧ i ≤ l.length ∧ (l.take i).any p = false) (fun i => l.length - i) 0 ⟨rfl, rfl, rfl, rfl, trivial⟩
    ⟨Ext.refl _, Nat.zero_le _, rfl⟩ ?_
  rintro i w1 ⟨e1, hi, hall⟩
  refine brE_dec (fun hlt => ?_) (fun hge => ?_)
  · have hlt : i < l.length := by have : (i : Int) < (l.length : Nat) := hlt; omega
    obtain ⟨b, o, hA, hc⟩ := Reads.fact (hr.ext e1) hlt
    refine ⟨i, b, o, rfl, hlt, hA, ?_⟩
    refine ⟨l[i].cells, rfl, hc, ?_⟩
    refine brE_true hgd ?_
    refine (hp l[i] w1 e1).mono ?_
    rintro v w2 ⟨rfl, e2⟩
    refine brE_mk (fun h2 => ?_) (fun h2 => ?_)
    · refine ⟨⟨i, rfl, ?_⟩, e1.trans e2⟩
      rw [decide_eq_true (by omega), eq_comm, List.any_eq_true]
      exact ⟨_, List.getElem_mem hlt, h2⟩
    · refine ⟨((i + 1 : Nat) : Int), fit ⟨by omega, by omega⟩, ?_⟩
      refine ⟨i + 1, ⟨rfl, rfl, rfl, rfl, trivial⟩, ⟨e1.trans e2, hlt, ?_⟩, by omega⟩
      rw [List.take_succ_eq_append_getElem hlt, List.any_append, hall]
      simp [h2]
  · have : i = l.length := by have : ¬ (i : Int) < (l.length : Nat) := hge; omega
    subst this
    rw [List.take_length] at hall
    exact ⟨⟨-1, rfl, by rw [hall]; rfl⟩, e1⟩
theorem some_spec {w : World} {A : Option Addr} {l : List Fact} {c gd : Nat} {cb : Array Value} {p : Fact → Bool} (hr : Reads w A (fcells l)) (hl : l.length ≤ 2 ^ 20) (hgd : C.can gd = true) (hp : TestV w gd cb p) :
    CallsV C.P 155 #[.slice A l.length c, .func (.func gd) #[] cb] w fun v w' => v = .bool (l.any p) ∧ Ext w w' := by
  have inner : CallsV C.P 224 #[.slice A l.length c, .func (.func gd) #[] cb] w fun v w' => v = .bool (l.any p) ∧ Ext w w' := by
    refine callsV_of C_ok (args := [_, _]) (plans := []) Tryz.func224 rfl Tryz.ntmps224 (by kernel_rfl) (Nat.le_of_ble_eq_true rfl) ?_
    refine (IndexFuncV_spec hr hl hgd hp).mono ?_
    rintro v w1 ⟨⟨i, rfl, hi⟩, e1⟩
    exact ⟨congrArg Value.bool hi, e1⟩
  refine callsV_of C_ok (args := [_, _]) (plans := []) Tryz.func155 rfl Tryz.ntmps155 (by kernel_rfl) (Nat.le_of_ble_eq_true rfl) ?_
  refine inner.mono ?_
  rintro v w1 ⟨rfl, e1⟩
  exact ⟨rfl, e1⟩
theorem vdead_spec {w : World} {A : Option Addr} {l : List Fact} {c : Nat} (hr : Reads w A (fcells l)) (hl : l.length ≤ 2 ^ 20) (n : Int) :
    CallsV C.P 161 #[.slice A l.length c, .int .i64 n] w fun v w' => v = .bool (deadB l n) ∧ Ext w w' := by
  refine callsV_of C_ok (args := [_, _]) (plans := []) Tryz.func161 rfl Tryz.ntmps161 (by kernel_rfl) (Nat.le_of_ble_eq_true rfl) ?_
  intro g w1 h1
  refine ⟨[], [.pointer (some ⟨g, 0, none⟩)], rfl, rfl, ?_⟩
  refine (some_spec (p := deathB n) (hr.ext h1.ext) hl rfl fun x w' e => dead1_spec x w' (e.heap h1.here)).mono ?_
  rintro v w2 ⟨rfl, e2⟩
  exact ⟨rfl, h1.ext.trans e2⟩
theorem named_spec {w : World} {A : Option Addr} {l : List Fact} {c : Nat} (hr : Reads w A (fcells l)) (hl : l.length ≤ 2 ^ 20) (s lang : Int) :
    CallsV C.P 164 #[.slice A l.length c, .int .i64 s, .int .i64 lang] w fun v w' => v = .tuple #[((lastP (isNm s lang) l).getD factZ).val, .bool (lastP (isNm s lang) l).isSome] ∧ Ext w w' := by
  refine callsV_of C_ok (args := [_, _, _]) (plans := []) Tryz.func164 rfl Tryz.ntmps164 (by kernel_rfl) (Nat.le_of_ble_eq_true rfl) ?_
  intro g4 w1 h1
  have M1 := (Mem.start w).alloc h1
  intro g5 w2 h2
  have M2 := M1.alloc h2
  intro g6 w3 h3
  have M3 := M2.alloc h3
  refine ⟨[], [.pointer (some ⟨g4, 0, none⟩), .pointer (some ⟨g5, 0, none⟩)], rfl, rfl, ?_⟩
  refine (last_spec (p := isNm s lang) (hr.ext M3.ext) hl rfl fun x w' e => named1_spec x w' (e.heap (M3.get 2 rfl)) (e.heap (M3.get 1 rfl))).mono ?_
  rintro v w4 ⟨rfl, e4⟩
  have M4 := M3.grow e4
  generalize hx : (lastP (isNm s lang) l).getD factZ = y
  refine ⟨rfl, _, _, M4.get 0 rfl, Nat.le_of_ble_eq_true rfl, rfl, ?_⟩
  intro w5 h5
  have h5 : Put w4 g6 (.cells y.cells.toArray 55 (0, 0)) w5 := h5
  refine ⟨y.cells, rfl, Rd.of_block h5.here, ?_⟩
  exact ⟨rfl, (M4.put 0 rfl h5).ext⟩
theorem look_spec {w : World} {A : Option Addr} {l : List Fact} {c : Nat} (h : HF w A l c) (hl : l.length ≤ 2 ^ 20) (k day : Int) :
    CallsV C.P 41 #[.slice A l.length c, .int .i64 k, .int .i64 day] w fun v w' => NewF w.heap.size w' v (atL k day l) ∧ Ext w w' := by
  refine callsV_of C_ok (args := [_, _, _]) (plans := []) Tryz.func41 rfl Tryz.ntmps41 (by kernel_rfl) (Nat.le_of_ble_eq_true rfl) ?_
  refine (At_spec h hl k day).mono ?_
  rintro v w1 h1
  exact h1
end Go.Proofs.YtdpdjcopkehdjaaGreat
namespace Go.Proofs.YtdpdjcopkehdjaaGreat
open Go.Proofs
def sortI_ren : Go.Shelf.Ren := ⟨fun | 5 => 82 | 8 => 141 | 7 => 140 | 19 => 218 | 20 => 219 | 10 => 209 | 11 => 210 | 12 => 211 | 13 => 212 | 14 => 213 | 15 => 214 | 16 => 215 | 17 => 216 | 18 => 217 | 30 => 256 | 31 => 257 | 32 => 258 | 33 => 259 | 34 => 260 | 35 => 183 | 40 => 295 | n => n, fun | 23 => 35 | 25 => 3 | 3 => 3 | 32 => 163 | 22 => 35 | 0 => 0 | 44 => 249 | 46 => 251 | 4 => 4 | 36 => 243 | 35 => 242 | 41 => 113 | 5 => 5 | 9 => 9 | 53 => 274 | 57 => 265 | 63 => 289 | 64 => 210 | n => n, fun | n => n⟩
theorem sortI : Go.Proofs.SlLaysM.n5 Tryz.prog sortI_ren := {
  mixed := by kernel_rfl,
  f5 := ⟨Tryz.f82.name, by decide, Tryz.func82.trans (congrArg some (by kernel_rfl))⟩,
  f7 := ⟨Tryz.f140.name, by decide, Tryz.func140.trans (congrArg some (by kernel_rfl))⟩,
  f8 := Tryz.func141.trans (congrArg some (by kernel_rfl)),
  f10 := ⟨Tryz.f209.name, by decide, Tryz.func209.trans (congrArg some (by kernel_rfl))⟩,
  f11 := ⟨Tryz.f210.name, by decide, Tryz.func210.trans (congrArg some (by kernel_rfl))⟩,
  f12 := ⟨Tryz.f211.name, by decide, Tryz.func211.trans (congrArg some (by kernel_rfl))⟩,
  f13 := ⟨Tryz.f212.name, by decide, Tryz.func212.trans (congrArg some (by kernel_rfl))⟩,
  f14 := ⟨Tryz.f213.name, by decide, Tryz.func213.trans (congrArg some (by kernel_rfl))⟩,
  f15 := ⟨Tryz.f214.name, by decide, Tryz.func214.trans (congrArg some (by kernel_rfl))⟩,
  f16 := ⟨Tryz.f215.name, by decide, Tryz.func215.trans (congrArg some (by kernel_rfl))⟩,
  f17 := ⟨Tryz.f216.name, by decide, Tryz.func216.trans (congrArg some (by kernel_rfl))⟩,
  f18 := ⟨Tryz.f217.name, by decide, Tryz.func217.trans (congrArg some (by kernel_rfl))⟩,
  f19 := Tryz.func218.trans (congrArg some (by kernel_rfl)),
  f20 := Tryz.func219.trans (congrArg some (by kernel_rfl)),
  f30 := ⟨Tryz.f256.name, by decide, Tryz.func256.trans (congrArg some (by kernel_rfl))⟩,
  f31 := Tryz.func257.trans (congrArg some (by kernel_rfl)),
  f32 := Tryz.func258.trans (congrArg some (by kernel_rfl)),
  f33 := ⟨Tryz.f259.name, by decide, Tryz.func259.trans (congrArg some (by kernel_rfl))⟩,
  f34 := ⟨Tryz.f260.name, by decide, Tryz.func260.trans (congrArg some (by kernel_rfl))⟩,
  f35 := ⟨Tryz.f183.name, by decide, Tryz.func183.trans (congrArg some (by kernel_rfl))⟩,
  f40 := ⟨Tryz.f295.name, by decide, Tryz.func295.trans (congrArg some (by kernel_rfl))⟩,
  t0 := Tryz.underlying0,
  a0 := Tryz.isAgg0,
  z0 := Tryz.sizeOf0,
  v0 := Tryz.zeroValue0,
  t3 := Tryz.underlying3,
  a3 := Tryz.isAgg3,
  z3 := Tryz.sizeOf3,
  v3 := Tryz.zeroValue3,
  t4 := Tryz.underlying4,
  a4 := Tryz.isAgg4,
  z4 := Tryz.sizeOf4,
  v4 := Tryz.zeroValue4,
  t5 := Tryz.underlying5,
  a5 := Tryz.isAgg5,
  z5 := Tryz.sizeOf5,
  v5 := Tryz.zeroValue5,
  t9 := Tryz.underlying9,
  a9 := Tryz.isAgg9,
  z9 := Tryz.sizeOf9,
  v9 := Tryz.zeroValue9,
  t22 := Tryz.underlying35,
  a22 := Tryz.isAgg35,
  z22 := Tryz.sizeOf35,
  v22 := Tryz.zeroValue35,
  t23 := Tryz.underlying35,
  a23 := Tryz.isAgg35,
  z23 := Tryz.sizeOf35,
  v23 := Tryz.zeroValue35,
  t25 := Tryz.underlying3,
  a25 := Tryz.isAgg3,
  z25 := Tryz.sizeOf3,
  v25 := Tryz.zeroValue3,
  t32 := Tryz.underlying163,
  a32 := Tryz.isAgg163,
  z32 := Tryz.sizeOf163,
  v32 := Tryz.zeroValue163,
  t35 := Tryz.underlying242,
  a35 := Tryz.isAgg242,
  z35 := Tryz.sizeOf242,
  v35 := Tryz.zeroValue242,
  t36 := Tryz.underlying243,
  a36 := Tryz.isAgg243,
  z36 := Tryz.sizeOf243,
  v36 := Tryz.zeroValue243,
  t41 := Tryz.underlying113,
  a41 := Tryz.isAgg113,
  z41 := Tryz.sizeOf113,
  v41 := Tryz.zeroValue113,
  t44 := Tryz.underlying249,
  a44 := Tryz.isAgg249,
  z44 := Tryz.sizeOf249,
  v44 := Tryz.zeroValue249,
  t46 := Tryz.underlying251,
  a46 := Tryz.isAgg251,
  z46 := Tryz.sizeOf251,
  v46 := Tryz.zeroValue251,
  t53 := Tryz.underlying274,
  a53 := Tryz.isAgg274,
  z53 := Tryz.sizeOf274,
  v53 := Tryz.zeroValue274,
  t57 := Tryz.underlying265,
  a57 := Tryz.isAgg265,
  z57 := Tryz.sizeOf265,
  v57 := Tryz.zeroValue265,
  t63 := Tryz.underlying289,
  a63 := Tryz.isAgg289,
  z63 := Tryz.sizeOf289,
  v63 := Tryz.zeroValue289,
  t64 := Tryz.underlying210,
  a64 := Tryz.isAgg210,
  z64 := Tryz.sizeOf210,
  v64 := Tryz.zeroValue210 }
end Go.Proofs.YtdpdjcopkehdjaaGreat
namespace Go.Eng
open Go.RowKit Go.Sort Go.Proofs
section
variable {α : Type} [Inhabited α]
theorem flatK_eq {enc : α → List Value} {k : Nat} (hk : ∀ x, (enc x).length = k) (d : Array α) : (flatK enc k d).toList = d.toList.flatMap enc := by
  apply List.ext_getElem?
  intro t
  by_cases ht : t < d.size * k
  · have k0 : 0 < k := by rcases Nat.eq_zero_or_pos k with h | h
                          · subst h; simp at ht
                          · exact h
    have hq : t / k < d.size := Nat.div_lt_of_lt_mul (by rwa [Nat.mul_comm] at ht)
    have hr : t % k < k := Nat.mod_lt _ k0
    have e : t / k * k + t % k = t := by rw [Nat.mul_comm]; exact Nat.div_add_mod t k
    have h1 := flat_get hk d.toList (t / k) (t % k) (by simpa using hq) hr
    rw [e] at h1
    rw [h1]
    have h2 := get_flatK enc k d t ht
    have hs : t < (flatK enc k d).size := by rw [size_flatK]; exact ht
    rw [getElem!_pos (flatK enc k d) t hs, getElem!_pos d (t / k) hq] at h2
    have hl : t % k < (enc d[t / k]).length := by rw [hk]; exact hr
    rw [getElem!_pos (enc d[t / k]) (t % k) hl] at h2
    have e1 : (flatK enc k d).toList[t]? = some ((enc d[t / k])[t % k]) := by
      rw [List.getElem?_eq_getElem (by simpa using hs), Array.getElem_toList, h2]
    have e2 : d.toList[t / k]'(by simpa using hq) = d[t / k] := Array.getElem_toList _
    rw [e1, e2, List.getElem?_eq_getElem hl]
  · rw [List.getElem?_eq_none (by simp; omega), List.getElem?_eq_none (by rw [flat_length hk]; simp; omega)]
/-- A row of one's own, as the sort wants it; what the sort leaves is one, too. -/
theorem sort_row {enc : α → List Value} {k : Nat} (hk : ∀ x, (enc x).length = k) {w : World} {base e cap g : Nat} {l : List α}
    (h : w.ownsRow base e k (.slice (some ⟨g, 0, none⟩) l.length cap) l.length (l.flatMap enc)) :
    HoldsK enc k w g 0 l.toArray ∧ g < w.heap.size ∧ base ≤ g ∧ ∀ (d' : Array α) (m : Nat) (os : Array Obj), d'.size = l.length →
      (sortWorldK enc k w g 0 m d' os).ownsRow base e k (.slice (some ⟨g, 0, none⟩) l.length cap) l.length (d'.toList.flatMap enc) ∧ w.grownBy (sortWorldK enc k w g 0 m d' os) (some g) ∧ Only e w (sortWorldK enc k w g 0 m d' os) := by
  have hlt := (h.lt g rfl)
  obtain ⟨cur, hg, hgB, hcl, hcc, hnc, hxl, htake, _⟩ := ownsRow_open h
  have hm : cap ≤ maxLen := by
    obtain ⟨_, ⟨hv, _⟩ | ⟨g', cap', cur', hv, _, _, _, h4, _⟩⟩ := h
    · cases hv
    · cases hv; exact h4
  have hold : ∀ (d' : Array α) (m : Nat) (os : Array Obj), (sortWorldK enc k w g 0 m d' os).heap = (w.heap.modify g (onCells (putCells id 0 (flatK enc k d')))) ++ os := fun d' m os => rfl
  have hblk : ∀ (d' : Array α) (m : Nat) (os : Array Obj), (sortWorldK enc k w g 0 m d' os).heap[g]? = some (.cells (putCells id 0 (flatK enc k d') cur.toArray) e (0, 0)) := fun d' m os => by
    rw [hold, Array.getElem?_append_left (by simpa using hlt.2), Array.getElem?_modify, if_pos rfl, hg]
    rfl
  have hoth : ∀ (d' : Array α) (m : Nat) (os : Array Obj) (q : Nat), q < w.heap.size → q ≠ g → (sortWorldK enc k w g 0 m d' os).heap[q]? = w.heap[q]? := fun d' m os q hq hne => by
    rw [hold, Array.getElem?_append_left (by simpa using hq), Array.getElem?_modify, if_neg (fun e => hne e.symm)]
  refine ⟨fun j hj => ?_, hlt.2, hgB, fun d' m os hs => ⟨⟨?_, .inr ⟨g, cap, _, rfl, hgB, hblk d' m os, hnc, hm, ?_, ?_⟩⟩, ⟨rfl, rfl, rfl, ?_, fun q hq hne => hoth d' m os q hq (fun e => hne (by rw [e]))⟩, fun q c t fr hq hne => ?_⟩⟩
  · rw [size_flatK] at hj
    have hj' : j < l.length * k := by simpa using hj
    have hc : cur[j]? = some ((flatK enc k l.toArray)[j]!) := by
      have h1 : (l.flatMap enc)[j]? = some ((flatK enc k l.toArray)[j]!) := by
        rw [← show (flatK enc k l.toArray).toList = l.flatMap enc by rw [flatK_eq hk]]
        have hs : j < (flatK enc k l.toArray).size := by rw [size_flatK]; exact hj
        rw [getElem!_pos _ j hs]
        simp
      rw [← h1, ← htake, List.getElem?_take, if_pos (by omega)]
    rw [Nat.zero_add]
    refine ⟨?_, ?_⟩
    · rw [cell_of_block hg (v := (flatK enc k l.toArray)[j]!) (by simpa using hc)]
      rfl
    · simp [World.frozen?, hg]
  · rw [flat_length hk]; simp [hs]
  · simp [putCells, hcc]
  · rw [← flatK_eq hk d']
    apply List.ext_getElem?
    intro t
    rw [List.getElem?_take]
    by_cases ht : t < l.length * k
    · rw [if_pos ht]
      have hsz : t < (flatK enc k d').size := by rw [size_flatK, hs]; exact ht
      have htc : t < cur.length := by omega
      simp only [putCells, Array.getElem?_toList, Array.getElem?_mapIdx, List.getElem?_toArray, List.getElem?_eq_getElem htc, Option.map_some, Nat.zero_le, true_and, Nat.zero_add, Nat.sub_zero, id]
      rw [if_pos hsz, getElem!_pos _ t hsz]
      simp
    · rw [if_neg ht, List.getElem?_eq_none]
      rw [Array.length_toList, size_flatK, hs]; omega
  · rw [hold]; simp
  · by_cases e' : q = g
    · subst e'
      have := hq.symm.trans hg
      simp at this
      exact absurd this.2.1 hne
    · rw [hoth d' m os q (lt_of_heap hq) e']; exact hq
/-- What a comparison owes the sort: its own contract. -/
theorem cmpLays_of {P : Program} {g : Nat} {cb : Array Value} {enc : α → List Value} {k : Nat} {cf : α → α → Int} {blk off size : Nat} {w : World}
    (h : ∀ (x y : α) (W : World), CallsV P g (#[.agg (enc x).toArray, .agg (enc y).toArray] ++ cb) W fun v w' => v = .int .i64 (cf x y) ∧ Ext W w') : CmpLays P g cb enc k cf blk off size w := by
  intro m os dk hs x y
  generalize sortWorldK enc k w blk off m dk os = W
  refine (h x y W W (Same.refl W)).mono ?_
  rintro e w' ⟨⟨v, w'', rfl, ⟨rfl, he⟩, hsame⟩, hd⟩
  have he' : Ext W w' := he.same_right hsame
  refine ⟨rfl, w'.drawn - W.drawn, w'.heap.extract W.heap.size w'.heap.size, ?_⟩
  obtain ⟨hp, tp, dr, os', op⟩ := w'
  have h1 : tp = W.tape := he'.tape
  have h2 : os' = W.os := he'.os
  have h3 : op = W.output := he'.output
  have h4 : dr = W.drawn + (dr - W.drawn) := by have : W.drawn ≤ dr := hd rfl; omega
  have h5 : hp = W.heap ++ hp.extract W.heap.size hp.size := by
    apply Array.ext_getElem?
    intro q
    have hsz : W.heap.size ≤ hp.size := he'.size
    by_cases hq : q < W.heap.size
    · rw [Array.getElem?_append_left hq]
      exact he'.block q hq
    · rw [Array.getElem?_append_right (by omega), Array.getElem?_extract]
      by_cases h2 : q < hp.size
      · rw [if_pos (by omega)]
        congr 1; omega
      · rw [if_neg (by omega), Array.getElem?_eq_none (by omega)]
  subst h1 h2 h3
  unfold grow World.drewN
  simp only
  rw [← h4, ← h5]
/-- **A sort of a row of one's own**, out of the kit's contract. -/
theorem sortV {P : Program} {f g : Nat} {cb : Array Value} {enc : α → List Value} {k : Nat} (hk : ∀ x, (enc x).length = k) {lt : α → α → Bool}
    (hsort : ∀ (W : World) (blk cap : Nat) (d : Array α), d.size < 4611686018427387904 → HoldsK enc k W blk 0 d → blk < W.heap.size → Calls P f #[.slice (some ⟨blk, 0, none⟩) d.size cap, .func (.func g) #[] cb] W fun e w' =>
      e = .returned (.tuple #[]) ∧ ∃ d' n os, PermIn 0 d.size d d' ∧ SortedIn lt 0 d.size d' ∧ w' = sortWorldK enc k W blk 0 n d' os)
    (hnone : ∀ (A : Option Addr) (cap : Nat) (W : World), Calls P f #[.slice A 0 cap, .func (.func g) #[] cb] W fun e w' => e = .returned (.tuple #[]) ∧ w' = W)
    {w : World} {base e : Nat} {v : Value} {l : List α} (h : w.ownsRow base e k v l.length (l.flatMap enc)) (hlen : l.length < 4611686018427387904) :
    CallsV P f #[v, .func (.func g) #[] cb] w fun r w' => r = .tuple #[] ∧ ∃ l' : List α, l'.Perm l ∧ (l'.Pairwise fun a b => lt b a = false) ∧ w'.ownsRow base e k v l'.length (l'.flatMap enc) ∧ w.grownBy w' v.ownBlock ∧ Only e w w' := by
  refine callsV_of_calls fun w₁ hs => ?_
  have h1 := ownsRow_same hs h
  have turn : ∀ {w' : World} {row : Option Nat}, w₁.grownBy w' row → w.grownBy w' row := fun hg => ⟨hg.os.trans hs.os, hg.tape.trans hs.tape, hg.output.trans hs.output, by rw [← hs.heap]; exact hg.size, fun q hq hne => by rw [← hs.heap] at hq ⊢; exact hg.block q hq hne⟩
  have turnO : ∀ {w' : World}, Only e w₁ w' → Only e w w' := fun ho q c t fr hq hne => ho q c t fr (by rw [hs.heap]; exact hq) hne
  by_cases h0 : l = []
  · subst h0
    obtain ⟨A, c, rfl, _, _⟩ := reads_of_owns h1
    refine (hnone A c w₁).mono ?_
    rintro r w' ⟨rfl, rfl⟩
    exact ⟨_, rfl, ⟨rfl, [], List.Perm.refl _, List.Pairwise.nil, h1, turn (grownBy_refl _ _), turnO (only_ext _ (Ext.refl _))⟩, Nat.le_refl _⟩
  · have hpos : 0 < l.length := List.length_pos_iff.2 h0
    have hv : ∃ q cap, v = .slice (some ⟨q, 0, none⟩) l.length cap := by
      obtain ⟨_, ⟨hv, hn⟩ | ⟨q, cap, cur, hv, _⟩⟩ := h1
      · omega
      · exact ⟨q, cap, hv⟩
    obtain ⟨q, cap, rfl⟩ := hv
    obtain ⟨hH, hlt, hB, hrow⟩ := sort_row hk h1
    have hcall := hsort w₁ q cap l.toArray (by simpa using hlen) hH hlt
    simp only [List.size_toArray] at hcall
    refine hcall.mono ?_
    rintro r w' ⟨rfl, d', n, os, hp, hso, rfl⟩
    have hsz : d'.size = l.length := by simpa using hp.1
    obtain ⟨ho, hg, hon⟩ := hrow d' n os hsz
    have hperm : d'.toList.Perm l := by
      have := hp.2.2
      have e1 : d'.extract 0 l.length = d' := by rw [← hsz]; exact Array.extract_size
      have e2 : l.toArray.extract 0 l.length = l.toArray := by simp
      rw [e1, e2] at this
      simpa using this
    refine ⟨_, rfl, ⟨rfl, d'.toList, hperm, ?_, ?_, turn hg, turnO hon⟩, ?_⟩
    · refine List.pairwise_iff_getElem.2 fun i j hi hj hij => ?_
      have hi' : i < d'.size := by simpa using hi
      have hj' : j < d'.size := by simpa using hj
      have := hso i j (Nat.zero_le _) hij (by omega)
      rw [getElem!_pos d' i hi', getElem!_pos d' j hj'] at this
      simpa using this
    · have e : d'.toList.length = l.length := by rw [Array.length_toList, hsz]
      rw [e]; simpa using ho
    · show w₁.drawn ≤ w₁.drawn + n
      omega
end
end Go.Eng
