/- rank: the law RankChecks; the reference Reach, Standing, Before, CheckChain, far. -/
import Derived.Test.YtdfhfehlmonjjaaQ5
namespace Go.Proofs.Ytdfhfehlmonjjaa
open Go.Eng Go.RowKit
open Go.Maps (Keyed)

abbrev idB (n : Int) : Bool := decide (1 ≤ n ∧ n ≤ 1000000)

theorem isId_spec (n : Int) (w : World) : CallsV C.P 66 #[.int .i64 n] w fun v w' => v = .bool (idB n) ∧ w' = w := by
  refine callsV_of C_ok (args := [_]) (plans := []) Try.func66 rfl Try.ntmps66 (by kernel_rfl) (Nat.le_of_ble_eq_true rfl) ?_
  refine brE_dec (fun h => ?_) (fun h => ?_)
  · have h : n ≥ 1 := h
    refine ⟨?_, rfl⟩
    have : (1 : Int) ≤ n := h
    simp [this]
  · have h : ¬ n ≥ 1 := h
    refine ⟨?_, rfl⟩
    have : ¬ (1 : Int) ≤ n := h
    simp [this]

theorem id_spec (n : Int) (w : World) : CallsV C.P 67 #[.int .i64 n] w fun v w' => v = .bool (idB n) ∧ w' = w := by
  refine callsV_of C_ok (args := [_]) (plans := []) Try.func67 rfl Try.ntmps67 (by kernel_rfl) (Nat.le_of_ble_eq_true rfl) ?_
  refine brE_dec (fun h => ?_) (fun h => ?_)
  · have h : n ≥ 1 := h
    refine ⟨?_, rfl⟩
    have : (1 : Int) ≤ n := h
    simp [this]
  · have h : ¬ n ≥ 1 := h
    refine ⟨?_, rfl⟩
    have : ¬ (1 : Int) ≤ n := h
    simp [this]

structure Scn where
  host : Int
  lang : Int
  lot : Int
  known : Int
  day : Int

def Scn.cells (s : Scn) : List Value := [.int .i64 s.host, .int .i64 s.lang, .int .i64 s.lot, .int .i64 s.known, .int .i64 s.day]
def Scn.val (s : Scn) : Value := .agg s.cells.toArray
def Scn.ok (s : Scn) : Prop := (1 ≤ s.host ∧ s.host ≤ 1000000) ∧ (1 ≤ s.lang ∧ s.lang ≤ 3) ∧ (0 ≤ s.lot ∧ s.lot ≤ 199) ∧ (0 ≤ s.known ∧ s.known ≤ 100000) ∧ (0 ≤ s.day ∧ s.day ≤ 100000)
instance (s : Scn) : Decidable s.ok := by unfold Scn.ok; infer_instance
def schk (s : Scn) : Int := if s.ok then 0 else 1

theorem schk_bad {s : Scn} (h : ¬ s.ok) : (1 : Int) = schk s := by rw [schk, if_neg h]
theorem schk_ok {s : Scn} (h : s.ok) : (0 : Int) = schk s := by rw [schk, if_pos h]

theorem CheckScene_spec (s : Scn) (w : World) : CallsV C.P 24 #[s.val] w fun v w' => v = .int .i64 (schk s) ∧ Ext w w' := by
  refine callsV_of C_ok (args := [_]) (plans := []) Try.func24 rfl Try.ntmps24 (by kernel_rfl) (Nat.le_of_ble_eq_true rfl) ?_
  intro g1 w1 h1
  have M1 := (Mem.start w).alloc h1
  refine ⟨_, M1.cell 0 rfl rfl, ?_⟩
  refine (isId_spec s.host w1).mono ?_
  rintro v w2 ⟨rfl, rfl⟩
  refine brE_mk (fun b1 => ?_) (fun b1 => ?_)
  · refine ⟨?_, M1.ext⟩
    rw [← schk_bad]
    intro h; have h' := h.1; simp at b1; omega
  refine ⟨_, M1.cell 0 rfl rfl, ?_⟩
  refine (in_spec _ _ _ _).mono ?_
  rintro v w2 ⟨rfl, rfl⟩
  refine brE_mk (fun b2 => ?_) (fun b2 => ?_)
  · refine ⟨?_, M1.ext⟩
    rw [← schk_bad]
    intro h; have h' := h.2.1; simp at b2; omega
  refine ⟨_, M1.cell 0 rfl rfl, ?_⟩
  refine (in_spec _ _ _ _).mono ?_
  rintro v w2 ⟨rfl, rfl⟩
  refine brE_mk (fun b3 => ?_) (fun b3 => ?_)
  · refine ⟨?_, M1.ext⟩
    rw [← schk_bad]
    intro h; have h' := h.2.2.1; simp at b3; omega
  refine ⟨_, M1.cell 0 rfl rfl, ?_⟩
  refine (in_spec _ _ _ _).mono ?_
  rintro v w2 ⟨rfl, rfl⟩
  refine brE_mk (fun b4 => ?_) (fun b4 => ?_)
  · refine ⟨?_, M1.ext⟩
    rw [← schk_bad]
    intro h; have h' := h.2.2.2.1; simp at b4; omega
  refine ⟨_, M1.cell 0 rfl rfl, ?_⟩
  refine (in_spec _ _ _ _).mono ?_
  rintro v w2 ⟨rfl, rfl⟩
  refine brE_mk (fun b5 => ?_) (fun b5 => ?_)
  · refine ⟨?_, M1.ext⟩
    rw [← schk_bad]
    intro h; have h' := h.2.2.2.2; simp at b5; omega
  · refine ⟨?_, M1.ext⟩
    rw [← schk_ok]
    simp at b1 b2 b3 b4 b5
    exact ⟨b1, b2, b3, b4, b5⟩

theorem refScene_spec (s : Scn) (w : World) : CallsV C.P 25 #[s.val] w fun v w' => v = .int .i64 (schk s) ∧ Ext w w' := by
  refine callsV_of C_ok (args := [_]) (plans := []) Try.func25 rfl Try.ntmps25 (by kernel_rfl) (Nat.le_of_ble_eq_true rfl) ?_
  intro g1 w1 h1
  have M1 := (Mem.start w).alloc h1
  refine ⟨_, M1.cell 0 rfl rfl, ?_⟩
  refine (id_spec s.host w1).mono ?_
  rintro v w2 ⟨rfl, rfl⟩
  refine brE_mk (fun b1 => ?_) (fun b1 => ?_)
  · refine ⟨?_, M1.ext⟩
    rw [← schk_bad]
    intro h; have h' := h.1; simp at b1; omega
  have b1 : 1 ≤ s.host ∧ s.host ≤ 1000000 := by simpa using b1
  refine ⟨_, M1.cell 0 rfl rfl, ?_⟩
  refine brE_dec (fun c1 => ?_) (fun c1 => ?_)
  · have c1 : s.lang < 1 := c1
    exact ⟨by rw [← schk_bad]; intro h; have := h.2.1; omega, M1.ext⟩
  have c1 : ¬ s.lang < 1 := c1
  refine ⟨_, M1.cell 0 rfl rfl, ?_⟩
  refine brE_dec (fun c2 => ?_) (fun c2 => ?_)
  · have c2 : s.lang > 3 := c2
    exact ⟨by rw [← schk_bad]; intro h; have := h.2.1; omega, M1.ext⟩
  have c2 : ¬ s.lang > 3 := c2
  refine ⟨_, M1.cell 0 rfl rfl, ?_⟩
  refine brE_dec (fun c3 => ?_) (fun c3 => ?_)
  · have c3 : s.lot < 0 := c3
    exact ⟨by rw [← schk_bad]; intro h; have := h.2.2.1; omega, M1.ext⟩
  have c3 : ¬ s.lot < 0 := c3
  refine ⟨_, M1.cell 0 rfl rfl, ?_⟩
  refine brE_dec (fun c4 => ?_) (fun c4 => ?_)
  · have c4 : s.lot > 199 := c4
    exact ⟨by rw [← schk_bad]; intro h; have := h.2.2.1; omega, M1.ext⟩
  have c4 : ¬ s.lot > 199 := c4
  refine ⟨_, M1.cell 0 rfl rfl, ?_⟩
  refine brE_dec (fun c5 => ?_) (fun c5 => ?_)
  · have c5 : s.known < 0 := c5
    exact ⟨by rw [← schk_bad]; intro h; have := h.2.2.2.1; omega, M1.ext⟩
  have c5 : ¬ s.known < 0 := c5
  refine ⟨_, M1.cell 0 rfl rfl, ?_⟩
  refine brE_dec (fun c6 => ?_) (fun c6 => ?_)
  · have c6 : s.known > 100000 := c6
    exact ⟨by rw [← schk_bad]; intro h; have := h.2.2.2.1; omega, M1.ext⟩
  have c6 : ¬ s.known > 100000 := c6
  refine ⟨_, M1.cell 0 rfl rfl, ?_⟩
  refine brE_dec (fun c7 => ?_) (fun c7 => ?_)
  · have c7 : s.day < 0 := c7
    exact ⟨by rw [← schk_bad]; intro h; have := h.2.2.2.2; omega, M1.ext⟩
  have c7 : ¬ s.day < 0 := c7
  refine ⟨_, M1.cell 0 rfl rfl, ?_⟩
  refine brE_dec (fun c8 => ?_) (fun c8 => ?_)
  · have c8 : s.day > 100000 := c8
    exact ⟨by rw [← schk_bad]; intro h; have := h.2.2.2.2; omega, M1.ext⟩
  have c8 : ¬ s.day > 100000 := c8
  exact ⟨by rw [← schk_ok]; exact ⟨b1, ⟨by omega, by omega⟩, ⟨by omega, by omega⟩, ⟨by omega, by omega⟩, ⟨by omega, by omega⟩⟩, M1.ext⟩

/-! ### guests -/
def gloop : List Int → List (Int × Int) → Int
  | _, [] => 0
  | seen, g :: r => if (idB g.1 && idB g.2) = true then (if g.1 ∈ seen then 6 else gloop (seen ++ [g.1]) r) else 1
def gchk (gs : List (Int × Int)) : Int := if gs.length > 24 then 2 else gloop [] gs

theorem gloop_at {gs : List (Int × Int)} {i : Nat} (hi : i < gs.length) : gloop ((gs.take i).map Prod.fst) (gs.drop i) =
    if (idB gs[i].1 && idB gs[i].2) = true then (if gs[i].1 ∈ (gs.take i).map Prod.fst then 6 else gloop ((gs.take (i + 1)).map Prod.fst) (gs.drop (i + 1))) else 1 := by
  rw [List.drop_eq_getElem_cons hi, gloop, List.take_succ_eq_append_getElem hi, List.map_append]
  rfl

end Go.Proofs.Ytdfhfehlmonjjaa

namespace Go.Proofs.Ytdfhfehlmonjjaa
open Go.Eng Go.RowKit
open Go.Maps (Keyed)

theorem intK : Keyed C.P 3 := Go.Maps.int_keyed under3
theorem intKey {x : Int} (h : In64 x) : keyOf C.P 3 (.int .i64 x) = some (.int .i64 x) := Go.Maps.keyOf_int_mk under3 (wf64 h)

noncomputable def seenV (l : List Int) : Value → Option Value := l.foldl (fun f x => updV f (.int .i64 x) (.bool true)) fun _ => none
theorem seenV_snoc (l : List Int) (x : Int) : seenV (l ++ [x]) = updV (seenV l) (.int .i64 x) (.bool true) := by simp [seenV]
theorem seenV_get (l : List Int) (q : Int) : seenV l (.int .i64 q) = if q ∈ l then some (.bool true) else none := by
  suffices h : ∀ (l : List Int) (f : Value → Option Value), (l.foldl (fun f x => updV f (.int .i64 x) (.bool true)) f) (.int .i64 q) = if q ∈ l then some (.bool true) else f (.int .i64 q) from h l _
  intro l
  induction l with
  | nil => intro f; simp
  | cons p l ih =>
    intro f
    rw [List.foldl_cons, ih]
    by_cases h1 : q ∈ l
    · simp [h1]
    · by_cases h2 : q = p
      · subst h2; simp [h1, updV]
      · simp [h1, h2, updV]

theorem CheckGuests_spec {w : World} {B : Option Addr} {gs : List (Int × Int)} {d : Nat} (hr : Reads w B (prCells gs)) :
    CallsV C.P 26 #[.slice B gs.length d] w fun v w' => v = .int .i64 (gchk gs) ∧ Ext w w' := by
  refine callsV_of C_ok (args := [_]) (plans := []) Try.func26 rfl Try.ntmps26 (by kernel_rfl) (Nat.le_of_ble_eq_true rfl) ?_
  refine brE_dec (fun hl => ?_) (fun hl => ?_)
  · have hl : (gs.length : Int) > 24 := hl
    exact ⟨by rw [gchk, if_pos (by omega)], Ext.refl _⟩
  have hl : ¬ (gs.length : Int) > 24 := hl
  have hg : gchk gs = gloop [] gs := by rw [gchk, if_neg (by omega)]
  rw [hg]
  intro gm w1 h1
  refine loopE C_ok (fun (i : Nat) => [(3, .map (some gm)), (10, .slice B gs.length d), (11, .int .i64 gs.length), (12, .int .i64 i)])
    (fun i w' => i ≤ gs.length ∧ (∃ om, Mem w w' [(gm, om)]) ∧ MapIs C.P 3 w' gm (seenV ((gs.take i).map Prod.fst)) ∧ gloop [] gs = gloop ((gs.take i).map Prod.fst) (gs.drop i))
    (fun i => gs.length - i) 0 ⟨rfl, rfl, rfl, rfl, trivial⟩ ⟨Nat.zero_le _, ⟨_, (Mem.start w).alloc h1⟩, MapIs.empty h1.here, rfl⟩ ?_
  rintro i w2 ⟨hi, ⟨om, M2⟩, hmap, hloop⟩
  refine brE_dec (fun hlt => ?_) (fun hge => ?_)
  · have hlt : i < gs.length := by omega
    rw [gloop_at hlt] at hloop
    obtain ⟨b, o, hA, hrd⟩ := Reads.pair (hr.ext M2.ext) hlt
    refine ⟨i, b, o, rfl, hlt, hA, ?_⟩
    refine ⟨[.int .i64 gs[i].1, .int .i64 gs[i].2], rfl, hrd, ?_⟩
    intro g5 w3 h3
    have M3 := M2.alloc h3
    refine ⟨rfl, _, _, M3.get 0 rfl, Nat.le_of_ble_eq_true rfl, rfl, ?_⟩
    intro w4 h4
    have M4 : Mem w w4 [(g5, .cells #[.int .i64 gs[i].1, .int .i64 gs[i].2] 89 (0, 0)), (gm, om)] := M3.put 0 rfl h4
    have hmap4 : MapIs C.P 3 w4 gm (seenV ((gs.take i).map Prod.fst)) := (hmap.ext h3.ext).put h4 (by
      have := M2.lt (g := gm) (o := om) (by simp)
      rw [h3.new]; omega)
    refine ⟨_, M4.cell 0 rfl rfl, ?_⟩
    refine (isId_spec _ _).mono ?_
    rintro v w5 ⟨rfl, rfl⟩
    refine brE_mk (fun b1 => ?_) (fun b1 => ?_)
    · rw [Bool.not_eq_true'] at b1
      rw [b1, Bool.false_and, if_neg (by decide)] at hloop
      exact ⟨by rw [hloop], M4.ext⟩
    rw [Bool.not_eq_false'] at b1
    refine ⟨_, M4.cell 0 rfl rfl, ?_⟩
    refine (isId_spec _ _).mono ?_
    rintro v w5 ⟨rfl, rfl⟩
    refine brE_mk (fun b2 => ?_) (fun b2 => ?_)
    · rw [Bool.not_eq_true'] at b2
      rw [b2, Bool.and_false, if_neg (by decide)] at hloop
      exact ⟨by rw [hloop], M4.ext⟩
    rw [Bool.not_eq_false'] at b2
    rw [b1, b2, Bool.and_true, if_pos rfl] at hloop
    have hin := of_decide_eq_true b1
    have h64 : In64 gs[i].1 := ⟨by omega, by omega⟩
    have hget : (seenV ((gs.take i).map Prod.fst) (.int .i64 gs[i].1)).getD (.bool false) = .bool (decide (gs[i].1 ∈ (gs.take i).map Prod.fst)) := by
      rw [seenV_get]
      by_cases hm : gs[i].1 ∈ (gs.take i).map Prod.fst <;> simp only [hm, if_true, if_false, Option.getD_some, Option.getD_none, decide_true, decide_false]
    refine ⟨_, M4.cell 0 rfl rfl, ?_⟩
    refine ⟨.bool (decide (gs[i].1 ∈ (gs.take i).map Prod.fst)), mapGet1 C_ok (te := ty4) (x := .int .i64 gs[i].1) (intKey h64) hmap4 intK rfl rfl rfl rfl rfl rfl hget, ?_⟩
    refine brE_dec (fun hm => ?_) (fun hm => ?_)
    · rw [if_pos hm] at hloop
      exact ⟨by rw [hloop], M4.ext⟩
    rw [if_neg hm] at hloop
    refine ⟨_, M4.cell 0 rfl rfl, ?_⟩
    refine mapPut C_ok rfl rfl (x := .int .i64 gs[i].1) rfl rfl rfl rfl intK (intKey h64) hmap4 ?_
    intro o' w6 h6 hmap6
    have M6 := (M4.put 1 rfl h6).tail
    refine ⟨((i + 1 : Nat) : Int), fit ⟨by omega, by omega⟩, ?_⟩
    refine ⟨i + 1, ⟨rfl, rfl, rfl, rfl, trivial⟩, ⟨hlt, ⟨_, M6⟩, ?_, hloop⟩, by omega⟩
    rw [List.take_succ_eq_append_getElem hlt, List.map_append]
    show MapIs _ _ _ _ (seenV (_ ++ [gs[i].1]))
    rw [seenV_snoc]
    exact hmap6
  · have : i = gs.length := by omega
    subst this
    rw [List.drop_length] at hloop
    exact ⟨by rw [hloop]; rfl, M2.ext⟩

theorem refGuests_spec {w : World} {B : Option Addr} {gs : List (Int × Int)} {d : Nat} (hr : Reads w B (prCells gs)) :
    CallsV C.P 27 #[.slice B gs.length d] w fun v w' => v = .int .i64 (gchk gs) ∧ Ext w w' := by
  refine callsV_of C_ok (args := [_]) (plans := plans27) Try.func27 rfl Try.ntmps27 (by kernel_rfl) (Nat.le_of_ble_eq_true rfl) ?_
  refine brE_dec (fun hl => ?_) (fun hl => ?_)
  · have hl : (gs.length : Int) > 24 := hl
    exact ⟨by rw [gchk, if_pos (by omega)], Ext.refl _⟩
  have hl : ¬ (gs.length : Int) > 24 := hl
  have hg : gchk gs = gloop [] gs := by rw [gchk, if_neg (by omega)]
  rw [hg]
  refine loopE C_ok (fun (i : Nat) => [(0, .slice B gs.length d), (3, .int .i64 i)])
    (fun i w' => i ≤ gs.length ∧ w' = w ∧ gloop [] gs = gloop ((gs.take i).map Prod.fst) (gs.drop i))
    (fun i => gs.length - i) 0 ⟨rfl, rfl, trivial⟩ ⟨Nat.zero_le _, rfl, rfl⟩ ?_
  rintro i w2 ⟨hi, rfl, hloop⟩
  refine brE_dec (fun hlt => ?_) (fun hge => ?_)
  · have hlt : i < gs.length := by omega
    rw [gloop_at hlt] at hloop
    obtain ⟨b, o, hA, hrd⟩ := Reads.pair hr hlt
    have c0 : w2.cell? ⟨b, o + i * 2, none⟩ = some (.int .i64 gs[i].1) := by simpa using hrd 0 _ rfl
    have c1 : w2.cell? ⟨b, o + i * 2 + 1, none⟩ = some (.int .i64 gs[i].2) := by simpa using hrd 1 _ rfl
    refine ⟨i, b, o, rfl, hlt, hA, ?_⟩
    refine ⟨_, c0, ?_⟩
    refine (id_spec _ _).mono ?_
    rintro v w5 ⟨rfl, rfl⟩
    refine brE_mk (fun b1 => ?_) (fun b1 => ?_)
    · rw [Bool.not_eq_true'] at b1
      rw [b1, Bool.false_and, if_neg (by decide)] at hloop
      exact ⟨by rw [hloop], Ext.refl _⟩
    rw [Bool.not_eq_false'] at b1
    refine ⟨i, b, o, rfl, hlt, hA, ?_⟩
    refine ⟨_, c1, ?_⟩
    refine (id_spec _ _).mono ?_
    rintro v w5 ⟨rfl, rfl⟩
    refine brE_mk (fun b2 => ?_) (fun b2 => ?_)
    · rw [Bool.not_eq_true'] at b2
      rw [b2, Bool.and_false, if_neg (by decide)] at hloop
      exact ⟨by rw [hloop], Ext.refl _⟩
    rw [Bool.not_eq_false'] at b2
    rw [b1, b2, Bool.and_true, if_pos rfl] at hloop
    refine loopE C_ok (fun (k : Nat) => [(0, .slice B gs.length d), (3, .int .i64 i), (4, .int .i64 k)])
      (fun k w' => k ≤ i ∧ w' = w5 ∧ ∀ j (hj : j < gs.length), j < k → gs[j].1 ≠ gs[i].1) (fun k => i - k) 0 ⟨rfl, rfl, rfl, trivial⟩ ⟨Nat.zero_le _, rfl, fun _ _ h => absurd h (Nat.not_lt_zero _)⟩ ?_
    rintro k w6 ⟨hk, rfl, hno⟩
    refine brE_dec (fun hlt2 => ?_) (fun hge2 => ?_)
    · have hlt2 : k < i := by omega
      have hkl : k < gs.length := by omega
      obtain ⟨b', o', hA', hrd'⟩ := Reads.pair hr hkl
      refine ⟨k, b', o', rfl, hkl, hA', ?_⟩
      have c2 : w6.cell? ⟨b', o' + k * 2, none⟩ = some (.int .i64 gs[k].1) := by simpa using hrd' 0 _ rfl
      refine ⟨_, c2, ?_⟩
      refine ⟨i, b, o, rfl, hlt, hA, ?_⟩
      refine ⟨_, c0, ?_⟩
      refine brE_dec (fun he => ?_) (fun he => ?_)
      · have he : gs[k].1 = gs[i].1 := he
        have hm : gs[i].1 ∈ (gs.take i).map Prod.fst := List.mem_map.2 ⟨gs[k], List.mem_take_iff_getElem.2 ⟨k, by omega, rfl⟩, he⟩
        rw [if_pos hm] at hloop
        exact ⟨by rw [hloop], Ext.refl _⟩
      · have he : ¬ gs[k].1 = gs[i].1 := he
        refine ⟨((k + 1 : Nat) : Int), fit ⟨by omega, by omega⟩, ?_⟩
        refine ⟨k + 1, ⟨rfl, rfl, rfl, trivial⟩, ⟨hlt2, rfl, fun j hj hjk => ?_⟩, by omega⟩
        rcases Nat.lt_or_ge j k with h | h
        · exact hno j hj h
        · obtain rfl : j = k := by omega
          exact he
    · have : k = i := by omega
      subst this
      have hm : ¬ gs[k].1 ∈ (gs.take k).map Prod.fst := by
        intro hm
        obtain ⟨g, hg1, hg2⟩ := List.mem_map.1 hm
        obtain ⟨j, hj, rfl⟩ := List.mem_take_iff_getElem.1 hg1
        exact hno j (by omega) (by omega) hg2
      rw [if_neg hm] at hloop
      refine ⟨((k + 1 : Nat) : Int), fit ⟨by omega, by omega⟩, ?_⟩
      exact ⟨k + 1, ⟨rfl, rfl, trivial⟩, ⟨hlt, rfl, hloop⟩, by omega⟩
  · have : i = gs.length := by omega
    subst this
    rw [List.drop_length] at hloop
    exact ⟨by rw [hloop]; rfl, Ext.refl _⟩

end Go.Proofs.Ytdfhfehlmonjjaa

namespace Go.Proofs.Ytdfhfehlmonjjaa
open Go.Eng Go.RowKit

theorem goodA_no {N : Int} {x : Arrow} (h : ¬ (0 ≤ x.fr ∧ x.fr ≤ N - 1 ∧ 0 ≤ x.to ∧ x.to ≤ N - 1 ∧ x.fr ≠ x.to ∧ 0 ≤ x.rule ∧ x.rule ≤ 23 ∧ 1 ≤ x.wt ∧ x.wt ≤ 1000)) : goodA N x = false := by
  cases hg : goodA N x with
  | false => rfl
  | true => exact absurd (goodA_spec hg) h
theorem goodA_yes {N : Int} {x : Arrow} (h : 0 ≤ x.fr ∧ x.fr ≤ N - 1 ∧ 0 ≤ x.to ∧ x.to ≤ N - 1 ∧ x.fr ≠ x.to ∧ 0 ≤ x.rule ∧ x.rule ≤ 23 ∧ 1 ≤ x.wt ∧ x.wt ≤ 1000) : goodA N x = true := by
  obtain ⟨a, b, c, d, e, f, g, i, j⟩ := h
  simp [goodA, a, b, c, d, e, f, g, i, j]

theorem refCheck_spec {N : Int} {A : Option Addr} {xs : List Arrow} {c : Nat} {w : World} (h : HRel w N A xs c) : CallsV C.P 28 #[relVal N A xs.length c] w fun v w' => v = .int .i64 (chk N xs) ∧ Ext w w' := by
  have hcap := h.cap
  refine callsV_of C_ok (args := [_]) (plans := []) Try.func28 rfl Try.ntmps28 (by kernel_rfl) (Nat.le_of_ble_eq_true rfl) ?_
  intro g1 w1 h1
  have M1 := (Mem.start w).alloc h1
  refine ⟨_, M1.cell 0 rfl rfl, ?_⟩
  refine brE_dec (fun hN => ?_) (fun hN => ?_)
  · exact ⟨by rw [chk_big hN], M1.ext⟩
  refine ⟨_, M1.cell 0 rfl rfl, ?_⟩
  refine brE_dec (fun hN0 => ?_) (fun hN0 => ?_)
  · exact ⟨by rw [chk_neg hN hN0], M1.ext⟩
  have hN' : ¬ N > 24 := hN
  have hN0' : ¬ N < 0 := hN0
  refine loopE C_ok (fun i : Nat => [(1, .pointer (some ⟨g1, 0, none⟩)), (3, .int .i64 i)])
    (fun i w' => Mem w w' [(g1, .cells #[.int .i64 N, .slice A xs.length c] 24 (0, 0))] ∧ i ≤ xs.length ∧ ∀ j < i, okAt N xs j = true) (fun i => xs.length - i) 0 ⟨rfl, rfl, trivial⟩ ⟨M1, Nat.zero_le _, by simp⟩ ?_
  rintro i w2 ⟨M2, hi, hall⟩
  refine ⟨_, M2.cell 0 rfl rfl, ?_⟩
  refine brE_dec (fun hlt => ?_) (fun hge => ?_)
  · have hlt : i < xs.length := by omega
    obtain ⟨b, o, hA, hr⟩ := Reads.arrow h.reads hlt
    refine ⟨_, M2.cell 0 rfl rfl, ?_⟩
    refine ⟨i, b, o, rfl, hlt, hA, ?_⟩
    refine ⟨xs[i].cells, rfl, M2.oldRd hr, ?_⟩
    intro g3 w3 h3
    have M3 := M2.alloc h3
    refine ⟨rfl, _, _, M3.get 0 rfl, Nat.le_of_ble_eq_true rfl, rfl, ?_⟩
    intro w4 h4
    have M4 : Mem w w4 [(g3, .cells xs[i].cells.toArray 43 (0, 0)), (g1, .cells #[.int .i64 N, .slice A xs.length c] 24 (0, 0))] := M3.put 0 rfl h4
    have bad : ∀ {w' : World}, Ext w w' → goodA N xs[i] = false → (Value.int IntKind.i64 1 = .int .i64 (chk N xs)) ∧ Ext w w' := fun he hb =>
      ⟨by rw [chk_bad hN hN0 hlt (by unfold okAt; simp [hlt, hb])], he⟩
    refine ⟨_, M4.cell 0 rfl rfl, ?_⟩
    refine brE_dec (fun c1 => ?_) (fun c1 => ?_)
    · have c1 : xs[i].fr < 0 := c1
      exact bad M4.ext (goodA_no fun hh => by omega)
    have c1 : ¬ xs[i].fr < 0 := c1
    refine ⟨_, M4.cell 0 rfl rfl, ?_⟩
    refine ⟨_, M4.cell 1 rfl rfl, ?_⟩
    refine brE_dec (fun c2 => ?_) (fun c2 => ?_)
    · have c2 : xs[i].fr ≥ N := c2
      exact bad M4.ext (goodA_no fun hh => by omega)
    have c2 : ¬ xs[i].fr ≥ N := c2
    refine ⟨_, M4.cell 0 rfl rfl, ?_⟩
    refine brE_dec (fun c3 => ?_) (fun c3 => ?_)
    · have c3 : xs[i].to < 0 := c3
      exact bad M4.ext (goodA_no fun hh => by omega)
    have c3 : ¬ xs[i].to < 0 := c3
    refine ⟨_, M4.cell 0 rfl rfl, ?_⟩
    refine ⟨_, M4.cell 1 rfl rfl, ?_⟩
    refine brE_dec (fun c4 => ?_) (fun c4 => ?_)
    · have c4 : xs[i].to ≥ N := c4
      exact bad M4.ext (goodA_no fun hh => by omega)
    have c4 : ¬ xs[i].to ≥ N := c4
    refine ⟨_, M4.cell 0 rfl rfl, ?_⟩
    refine ⟨_, M4.cell 0 rfl rfl, ?_⟩
    refine brE_dec (fun c5 => ?_) (fun c5 => ?_)
    · have c5 : xs[i].fr = xs[i].to := c5
      exact bad M4.ext (goodA_no fun hh => by omega)
    have c5 : ¬ xs[i].fr = xs[i].to := c5
    refine ⟨_, M4.cell 0 rfl rfl, ?_⟩
    refine brE_dec (fun c6 => ?_) (fun c6 => ?_)
    · have c6 : xs[i].rule < 0 := c6
      exact bad M4.ext (goodA_no fun hh => by omega)
    have c6 : ¬ xs[i].rule < 0 := c6
    refine ⟨_, M4.cell 0 rfl rfl, ?_⟩
    refine brE_dec (fun c7 => ?_) (fun c7 => ?_)
    · have c7 : xs[i].rule > 23 := c7
      exact bad M4.ext (goodA_no fun hh => by omega)
    have c7 : ¬ xs[i].rule > 23 := c7
    refine ⟨_, M4.cell 0 rfl rfl, ?_⟩
    refine brE_dec (fun c8 => ?_) (fun c8 => ?_)
    · have c8 : xs[i].wt < 1 := c8
      exact bad M4.ext (goodA_no fun hh => by omega)
    have c8 : ¬ xs[i].wt < 1 := c8
    refine ⟨_, M4.cell 0 rfl rfl, ?_⟩
    refine brE_dec (fun c9 => ?_) (fun c9 => ?_)
    · have c9 : xs[i].wt > 1000 := c9
      exact bad M4.ext (goodA_no fun hh => by omega)
    have c9 : ¬ xs[i].wt > 1000 := c9
    have hgood : goodA N xs[i] = true := goodA_yes (by omega)
    refine brE_dec (fun hi0 => ?_) (fun hi0 => ?_)
    · obtain ⟨j, rfl⟩ : ∃ j, i = j + 1 := ⟨i - 1, by omega⟩
      have hj : j < xs.length := by omega
      obtain ⟨b', o', hA', hr'⟩ := Reads.arrow h.reads hj
      have worse : ∀ {w' : World}, Ext w w' → ltA xs[j] xs[j + 1] = false → (Value.int IntKind.i64 1 = .int .i64 (chk N xs)) ∧ Ext w w' := fun he hb =>
        ⟨by rw [chk_bad hN hN0 hlt (by unfold okAt; simp [hlt, hj, hb])], he⟩
      refine ⟨_, M4.cell 1 rfl rfl, ?_⟩
      refine ⟨(j : Int), by rw [fit ⟨by omega, by omega⟩]; omega, ?_⟩
      refine ⟨j, b', o', rfl, hj, hA', ?_⟩
      refine ⟨xs[j].cells, rfl, M4.oldRd hr', ?_⟩
      intro g5 w5 h5
      have M5 := M4.alloc h5
      refine ⟨rfl, _, _, M5.get 0 rfl, Nat.le_of_ble_eq_true rfl, rfl, ?_⟩
      intro w6 h6
      have M6 : Mem w w6 [(g5, .cells xs[j].cells.toArray 43 (0, 0)), (g3, .cells xs[j + 1].cells.toArray 43 (0, 0)), (g1, .cells #[.int .i64 N, .slice A xs.length c] 24 (0, 0))] := M5.put 0 rfl h6
      have go1 : ltA xs[j] xs[j + 1] = true → Mem w w6 [(g1, .cells #[.int .i64 N, .slice A xs.length c] 24 (0, 0))] ∧ j + 1 + 1 ≤ xs.length ∧ ∀ k < j + 1 + 1, okAt N xs k = true := fun hl2 => ⟨M6.tail.tail, hlt, fun k hk => by
        rcases Nat.lt_or_ge k (j + 1) with h | h
        · exact hall k h
        · obtain rfl : k = j + 1 := by omega
          unfold okAt; simp [hlt, hj, hgood, hl2]⟩
      have next : IntKind.i64.wrap (((j + 1 : Nat) : Int) + 1) = ((j + 1 + 1 : Nat) : Int) := fit ⟨by omega, by omega⟩
      refine ⟨_, M6.cell 0 rfl rfl, ?_⟩
      refine ⟨_, M6.cell 1 rfl rfl, ?_⟩
      refine brE_dec (fun d1 => ?_) (fun d1 => ?_)
      · have d1 : xs[j].fr > xs[j + 1].fr := d1
        exact worse M6.ext (by unfold ltA; rw [decide_eq_false]; omega)
      have d1 : ¬ xs[j].fr > xs[j + 1].fr := d1
      refine ⟨_, M6.cell 0 rfl rfl, ?_⟩
      refine ⟨_, M6.cell 1 rfl rfl, ?_⟩
      refine brE_dec (fun d2 => ?_) (fun d2 => ?_)
      · have d2 : xs[j].fr = xs[j + 1].fr := d2
        refine ⟨_, M6.cell 0 rfl rfl, ?_⟩
        refine ⟨_, M6.cell 1 rfl rfl, ?_⟩
        refine brE_dec (fun d3 => ?_) (fun d3 => ?_)
        · have d3 : xs[j].to ≥ xs[j + 1].to := d3
          exact worse M6.ext (by unfold ltA; rw [decide_eq_false]; omega)
        · have d3 : ¬ xs[j].to ≥ xs[j + 1].to := d3
          refine ⟨_, next, ?_⟩
          exact ⟨j + 1 + 1, ⟨rfl, rfl, trivial⟩, go1 (by unfold ltA; rw [decide_eq_true]; omega), by omega⟩
      · have d2 : ¬ xs[j].fr = xs[j + 1].fr := d2
        refine ⟨_, next, ?_⟩
        exact ⟨j + 1 + 1, ⟨rfl, rfl, trivial⟩, go1 (by unfold ltA; rw [decide_eq_true]; omega), by omega⟩
    · obtain rfl : i = 0 := by omega
      refine ⟨((0 + 1 : Nat) : Int), fit ⟨by omega, by omega⟩, ?_⟩
      refine ⟨0 + 1, ⟨rfl, rfl, trivial⟩, ⟨M4.tail, hlt, fun k hk => ?_⟩, by omega⟩
      obtain rfl : k = 0 := by omega
      unfold okAt; simp [hlt, hgood]
  · have : i = xs.length := by omega
    subst this
    exact ⟨by rw [chk_ok hN hN0 hall], M2.ext⟩

theorem RankChecks_spec {s : Scn} {B : Option Addr} {gs : List (Int × Int)} {d : Nat} {N : Int} {A : Option Addr} {xs : List Arrow} {c : Nat} {w : World} (hg : Reads w B (prCells gs)) (h : HRel w N A xs c) :
    CallsV C.P 8 #[s.val, .slice B gs.length d, relVal N A xs.length c] w fun v w' => v = .bool true ∧ Ext w w' := by
  refine callsV_of C_ok (args := [_, _, _]) (plans := plans8) Try.func8 rfl Try.ntmps8 (by kernel_rfl) (Nat.le_of_ble_eq_true rfl) ?_
  intro g3 w1 h1
  intro g5 w2 h2
  have M2 := ((Mem.start w).alloc h1).alloc h2
  refine ⟨[.int .i64 N, .slice A xs.length c], rfl, M2.rd 0 rfl, ?_⟩
  refine (huge_spec w2).mono ?_
  rintro v w3 ⟨rfl, e3⟩
  have M3 := M2.grow e3
  have stop : ∀ {w' : World}, Ext w w' → CallsV C.P 16 #[] w' fun v w'' => v = .bool true ∧ Ext w w'' := fun e => (stands_spec _).mono fun v w'' hh => ⟨hh.1, e.trans hh.2⟩
  refine brE_mk (fun _ => ?_) (fun _ => ?_)
  · exact stop M3.ext
  refine brE_mk (fun _ => ?_) (fun _ => ?_)
  · exact stop M3.ext
  refine (stands_spec w3).mono ?_
  rintro v w4 ⟨rfl, e4⟩
  have M4 := M3.grow e4
  refine ⟨s.cells, rfl, M4.rd 1 rfl, ?_⟩
  refine ⟨s.cells, rfl, M4.rd 1 rfl, ?_⟩
  refine (CheckScene_spec s w4).mono ?_
  rintro v w5 ⟨rfl, e5⟩
  refine ⟨e5, ?_⟩
  have M5 := M4.grow e5
  refine (refScene_spec s w5).mono ?_
  rintro v w6 ⟨rfl, e6⟩
  have M6 := M5.grow e6
  refine brE_true (by simp) ?_
  refine (CheckGuests_spec (hg.ext M6.ext)).mono ?_
  rintro v w7 ⟨rfl, e7⟩
  refine ⟨e7, ?_⟩
  have M7 := M6.grow e7
  refine (refGuests_spec (hg.ext M7.ext)).mono ?_
  rintro v w8 ⟨rfl, e8⟩
  have M8 := M7.grow e8
  refine brE_true (by simp) ?_
  refine ⟨[.int .i64 N, .slice A xs.length c], rfl, M8.rd 0 rfl, ?_⟩
  refine ⟨[.int .i64 N, .slice A xs.length c], rfl, M8.rd 0 rfl, ?_⟩
  refine (Check_spec (h.ext M8.ext)).mono ?_
  rintro v w9 ⟨rfl, e9⟩
  refine ⟨e9, ?_⟩
  have M9 := M8.grow e9
  refine (refCheck_spec (h.ext M9.ext)).mono ?_
  rintro v w10 ⟨rfl, e10⟩
  exact ⟨by simp, (M9.grow e10).ext⟩

end Go.Proofs.Ytdfhfehlmonjjaa

namespace Go.Proofs.Ytdfhfehlmonjjaa
open Go.Eng Go.RowKit

theorem mat_congr {M K : Nat → Nat → Bool} (h : ∀ a < 24, ∀ b < 24, M a b = K a b) : mat M = mat K :=
  bools_congr fun k hk => h (k / 24) (by omega) (k % 24) (Nat.mod_lt _ (by omega))
theorem mat_zero : List.replicate 576 (Value.bool false) = mat fun _ _ => false := bools_false 576
theorem mat_size (M : Nat → Nat → Bool) : (Value.agg (mat M).toArray).cells.size = 576 := by simp [Value.cells, bools_length]
theorem mat_copy (M K : Nat → Nat → Bool) : splice (mat K) 0 (mat M) = mat M := by
  unfold splice
  rw [bools_length]
  simp [bools_length]

/-- A cell of a matrix in memory. -/
theorem mat_cell {w : World} {g t : Nat} {fr : Nat × Nat} {M : Nat → Nat → Bool} (h : w.heap[g]? = some (.cells (mat M).toArray t fr)) {a b : Nat} (ha : a < 24) (hb : b < 24) : w.cell? ⟨g, 0 + a * 24 + b * 1, none⟩ = some (.bool (M a b)) := by
  have := (Rd.of_block h) _ _ (mat_get ha hb M)
  simpa using this

theorem refIn_spec (N : Int) (A : Option Addr) (k c : Nat) (n : Int) (w : World) : CallsV C.P 69 #[relVal N A k c, .int .i64 n] w fun v w' => v = .bool (inR N n) ∧ Ext w w' := by
  refine callsV_of C_ok (args := [_, _]) (plans := []) Try.func69 rfl Try.ntmps69 (by kernel_rfl) (Nat.le_of_ble_eq_true rfl) ?_
  intro g1 w1 h1
  have M1 := (Mem.start w).alloc h1
  refine brE_dec (fun h => ?_) (fun h => ?_)
  · have h : n ≥ 0 := h
    refine ⟨_, M1.cell 0 rfl rfl, ?_⟩
    refine ⟨?_, M1.ext⟩
    congr 1
    apply decide_eq_decide.2
    omega
  · have h : ¬ n ≥ 0 := h
    refine ⟨?_, M1.ext⟩
    congr 1
    rw [eq_comm, decide_eq_false_iff_not]
    omega

set_option maxRecDepth 100000 in
theorem steps_spec {N : Int} {A : Option Addr} {xs : List Arrow} {c : Nat} {w : World} (h : HRel w N A xs c) (hok : Valid N xs) :
    CallsV C.P 70 #[relVal N A xs.length c] w fun v w' => v = .agg (mat (toM xs)).toArray ∧ Ext w w' := by
  have hcap := h.cap
  have hN := hok.hi
  refine callsV_of C_ok (args := [_]) (plans := plans70) Try.func70 rfl Try.ntmps70 (by kernel_rfl) (Nat.le_of_ble_eq_true rfl) ?_
  intro g1 w1 h1
  intro g2 w2 h2
  intro g3 w3 h3
  have M3 : Mem w w3 [(g3, .cells (mat (toM (xs.take 0))).toArray 93 (0, 0)), (g2, .cells (mat fun _ _ => false).toArray 93 (0, 0)), (g1, .cells #[.int .i64 N, .slice A xs.length c] 24 (0, 0))] := by
    have e : mat (toM (xs.take 0)) = mat fun _ _ => false := rfl
    rw [e, ← mat_zero]
    exact (((Mem.start w).alloc h1).alloc h2).alloc h3
  refine loopE C_ok (fun (i : Nat) => [(1, .pointer (some ⟨g1, 0, none⟩)), (2, .pointer (some ⟨g2, 0, none⟩)), (3, .pointer (some ⟨g3, 0, none⟩)), (4, .int .i64 i)])
    (fun i w' => i ≤ xs.length ∧ Mem w w' [(g3, .cells (mat (toM (xs.take i))).toArray 93 (0, 0)), (g2, .cells (mat fun _ _ => false).toArray 93 (0, 0)), (g1, .cells #[.int .i64 N, .slice A xs.length c] 24 (0, 0))]) (fun i => xs.length - i) 0
    ⟨rfl, rfl, rfl, rfl, trivial⟩ ⟨Nat.zero_le _, M3⟩ ?_
  rintro i w4 ⟨hi, M4⟩
  refine ⟨_, M4.cell 2 rfl rfl, ?_⟩
  refine brE_dec (fun hlt => ?_) (fun hge => ?_)
  · have hlt : i < xs.length := by omega
    obtain ⟨b, o, hA, hr⟩ := Reads.arrow h.reads hlt
    have hr := M4.oldRd hr
    have hg := goodA_spec (hok.good hlt)
    obtain ⟨p, hp⟩ := Int.eq_ofNat_of_zero_le hg.1
    obtain ⟨q, hq⟩ := Int.eq_ofNat_of_zero_le hg.2.2.1
    have hp24 : p < 24 := by omega
    have hq24 : q < 24 := by omega
    have cf : w4.cell? ⟨b, o + i * 4, none⟩ = some (.int .i64 (p : Int)) := by rw [← hp]; simpa using hr 0 _ rfl
    have ct : w4.cell? ⟨b, o + i * 4 + 1, none⟩ = some (.int .i64 (q : Int)) := by rw [← hq]; simpa using hr 1 _ rfl
    refine ⟨_, M4.cell 2 rfl rfl, ?_⟩
    refine ⟨i, b, o, rfl, hlt, hA, ?_⟩
    refine ⟨_, cf, ?_⟩
    refine ⟨_, M4.cell 2 rfl rfl, ?_⟩
    refine ⟨i, b, o, rfl, hlt, hA, ?_⟩
    refine ⟨_, ct, ?_⟩
    refine ⟨p, rfl, hp24, ?_⟩
    refine ⟨q, rfl, hq24, ?_⟩
    refine ⟨rfl, _, _, M4.get 0 rfl, by rw [bools_length]; show 0 + p * 24 + q * 1 + 1 ≤ 576; omega, rfl, ?_⟩
    intro w5 h5
    have e5 : splice (mat (toM (xs.take i))) (0 + p * 24 + q * 1) [.bool true] = mat (toM (xs.take (i + 1))) := by
      rw [← toM_take hlt hp hq, ← mat_set hp24 hq24]
      congr 1
      omega
    have h5 : Put w4 g3 (.cells (mat (toM (xs.take (i + 1)))).toArray 93 (0, 0)) w5 := by rw [← e5]; exact h5
    refine ⟨((i + 1 : Nat) : Int), fit ⟨by omega, by omega⟩, ?_⟩
    exact ⟨i + 1, ⟨rfl, rfl, rfl, rfl, trivial⟩, ⟨hlt, M4.put 0 rfl h5⟩, by omega⟩
  · have : i = xs.length := by omega
    subst this
    rw [List.take_length] at M4
    refine ⟨mat (toM xs), bools_length _ _, M4.rd 0 rfl, ?_⟩
    refine ⟨mat_size _, _, _, M4.get 1 rfl, by rw [bools_length]; show 0 + 576 ≤ 576; omega, bools_one 576 _, ?_⟩
    intro w5 h5
    have h5 : Put w4 g2 (.cells (mat (toM xs)).toArray 93 (0, 0)) w5 := by rw [← mat_copy (toM xs) fun _ _ => false]; exact h5
    have M5 := M4.put 1 rfl h5
    refine ⟨mat (toM xs), bools_length _ _, M5.rd 1 rfl, ?_⟩
    exact ⟨rfl, M5.ext⟩

/-! ### Reach -/
/-- Round 'k' of the reference's search, when the first entries have been looked at. -/
def midM (T : Nat → Nat → Bool) (k a b : Nat) : Nat → Nat → Bool := fun i j => if i < a ∨ i = a ∧ j < b then war T (k + 1) i j else war T k i j

theorem midM_start (T : Nat → Nat → Bool) (k : Nat) : midM T k 0 0 = war T k := by funext i j; simp [midM]
theorem midM_col (T : Nat → Nat → Bool) (k a b i : Nat) : midM T k a b i k = war T k i k := by
  unfold midM
  split
  · rw [war]; cases war T k i k <;> simp
  · rfl
theorem midM_row (T : Nat → Nat → Bool) (k a b j : Nat) : midM T k a b k j = war T k k j := by
  unfold midM
  split
  · rw [war]; cases h : war T k k j <;> simp
  · rfl
theorem midM_set {T : Nat → Nat → Bool} {k a b : Nat} (h : (war T k a k && war T k k b) = true) : upd2 (midM T k a b) a b true = midM T k a (b + 1) := by
  funext i j
  unfold upd2 midM
  by_cases e : i = a ∧ j = b
  · obtain ⟨rfl, rfl⟩ := e
    rw [if_pos ⟨rfl, rfl⟩, if_pos (.inr ⟨rfl, by omega⟩), war, h, Bool.or_true]
  · rw [if_neg e]
    by_cases h2 : i < a ∨ i = a ∧ j < b
    · rw [if_pos h2, if_pos (by omega)]
    · rw [if_neg h2, if_neg (by omega)]
theorem midM_not {T : Nat → Nat → Bool} {k a b : Nat} (h : (war T k a k && war T k k b) = false) : midM T k a b = midM T k a (b + 1) := by
  funext i j
  unfold midM
  by_cases e : i = a ∧ j = b
  · obtain ⟨rfl, rfl⟩ := e
    rw [if_neg (by omega), if_pos (by omega), war, h, Bool.or_false]
  · by_cases h2 : i < a ∨ i = a ∧ j < b
    · rw [if_pos h2, if_pos (by omega)]
    · rw [if_neg h2, if_neg (by omega)]

theorem war_inside {n : Nat} {T : Nat → Nat → Bool} (hT : Inside n T) {k i j : Nat} (h : war T k i j = true) : i < n ∧ j < n := path_inside hT (war_path h)

theorem midM_line {n : Nat} {T : Nat → Nat → Bool} (hT : Inside n T) (k a : Nat) : midM T k a n = midM T k (a + 1) 0 := by
  funext i j
  unfold midM
  by_cases h1 : i < a ∨ i = a ∧ j < n
  · rw [if_pos h1, if_pos (by omega)]
  · rw [if_neg h1]
    by_cases h2 : i < a + 1 ∨ i = a + 1 ∧ j < 0
    · rw [if_pos h2]
      have hj : ¬ j < n := by omega
      cases h3 : war T k i j with
      | true => exact absurd (war_inside hT h3).2 hj
      | false =>
        cases h4 : war T (k + 1) i j with
        | true => exact absurd (war_inside hT h4).2 hj
        | false => rfl
    · rw [if_neg h2]
theorem midM_end {n : Nat} {T : Nat → Nat → Bool} (hT : Inside n T) (k : Nat) : midM T k n 0 = war T (k + 1) := by
  funext i j
  unfold midM
  by_cases h1 : i < n ∨ i = n ∧ j < 0
  · rw [if_pos h1]
  · rw [if_neg h1]
    have hi : ¬ i < n := by omega
    cases h3 : war T k i j with
    | true => exact absurd (war_inside hT h3).1 hi
    | false =>
      cases h4 : war T (k + 1) i j with
      | true => exact absurd (war_inside hT h4).1 hi
      | false => rfl

set_option maxRecDepth 100000 in
theorem Reach_spec {N : Int} {A : Option Addr} {xs : List Arrow} {c : Nat} {w : World} (h : HRel w N A xs c) (hok : Valid N xs) :
    CallsV C.P 73 #[relVal N A xs.length c] w fun v w' => v = .agg (mat (reach (toM xs))).toArray ∧ Ext w w' := by
  have hlo := hok.lo
  have hhi := hok.hi
  obtain ⟨n, rfl⟩ := Int.eq_ofNat_of_zero_le hlo
  have hn : n ≤ 24 := by omega
  have hT : Inside n (toM xs) := hok.inside
  rw [reach_war hT]
  refine callsV_of C_ok (args := [_]) (plans := []) Try.func73 rfl Try.ntmps73 (by kernel_rfl) (Nat.le_of_ble_eq_true rfl) ?_
  intro g1 w1 h1
  intro g2 w2 h2
  have M2 : Mem w w2 [(g2, .cells (mat fun _ _ => false).toArray 93 (0, 0)), (g1, .cells #[.int .i64 n, .slice A xs.length c] 24 (0, 0))] := by
    rw [← mat_zero]; exact ((Mem.start w).alloc h1).alloc h2
  refine ⟨[.int .i64 n, .slice A xs.length c], rfl, M2.rd 1 rfl, ?_⟩
  refine (steps_spec (h.ext M2.ext) hok).mono ?_
  rintro v w3 ⟨rfl, e3⟩
  have M3 := M2.grow e3
  intro g3 w4 h4
  have M4 := M3.alloc h4
  refine ⟨mat_size _, _, _, M4.get 0 rfl, Nat.le_of_ble_eq_true rfl, bools_one 576 _, ?_⟩
  intro w5 h5
  have h5 : Put w4 g3 (.cells (mat (toM xs)).toArray 93 (0, 0)) w5 := by
    have := mat_copy (toM xs) fun _ _ => false
    rw [← mat_zero] at this
    rw [← this]; exact h5
  have M5 := M4.put 0 rfl h5
  generalize toM xs = T at *
  refine loopE C_ok (fun (k : Nat) => [(1, .pointer (some ⟨g1, 0, none⟩)), (2, .pointer (some ⟨g2, 0, none⟩)), (3, .pointer (some ⟨g3, 0, none⟩)), (4, .int .i64 k)])
    (fun k w' => k ≤ n ∧ Mem w w' [(g3, .cells (mat (war T k)).toArray 93 (0, 0)), (g2, .cells (mat fun _ _ => false).toArray 93 (0, 0)), (g1, .cells #[.int .i64 n, .slice A xs.length c] 24 (0, 0))]) (fun k => n - k) 0
    ⟨rfl, rfl, rfl, rfl, trivial⟩ ⟨Nat.zero_le _, M5⟩ ?_
  rintro k w6 ⟨hk, M6⟩
  refine ⟨_, M6.cell 2 rfl rfl, ?_⟩
  refine brE_dec (fun hlt => ?_) (fun hge => ?_)
  · have hlt : k < n := by omega
    have hk24 : k < 24 := by omega
    refine loopE C_ok (fun (a : Nat) => [(1, .pointer (some ⟨g1, 0, none⟩)), (2, .pointer (some ⟨g2, 0, none⟩)), (3, .pointer (some ⟨g3, 0, none⟩)), (4, .int .i64 k), (5, .int .i64 a)])
      (fun a w' => a ≤ n ∧ Mem w w' [(g3, .cells (mat (midM T k a 0)).toArray 93 (0, 0)), (g2, .cells (mat fun _ _ => false).toArray 93 (0, 0)), (g1, .cells #[.int .i64 n, .slice A xs.length c] 24 (0, 0))]) (fun a => n - a) 0
      ⟨rfl, rfl, rfl, rfl, rfl, trivial⟩ ⟨Nat.zero_le _, by rw [midM_start]; exact M6⟩ ?_
    rintro a w7 ⟨ha, M7⟩
    refine ⟨_, M7.cell 2 rfl rfl, ?_⟩
    refine brE_dec (fun hlt2 => ?_) (fun hge2 => ?_)
    · have hlt2 : a < n := by omega
      have ha24 : a < 24 := by omega
      refine loopE C_ok (fun (b : Nat) => [(1, .pointer (some ⟨g1, 0, none⟩)), (2, .pointer (some ⟨g2, 0, none⟩)), (3, .pointer (some ⟨g3, 0, none⟩)), (4, .int .i64 k), (5, .int .i64 a), (6, .int .i64 b)])
        (fun b w' => b ≤ n ∧ Mem w w' [(g3, .cells (mat (midM T k a b)).toArray 93 (0, 0)), (g2, .cells (mat fun _ _ => false).toArray 93 (0, 0)), (g1, .cells #[.int .i64 n, .slice A xs.length c] 24 (0, 0))]) (fun b => n - b) 0
        ⟨rfl, rfl, rfl, rfl, rfl, rfl, trivial⟩ ⟨Nat.zero_le _, M7⟩ ?_
      rintro b w8 ⟨hb, M8⟩
      refine ⟨_, M8.cell 2 rfl rfl, ?_⟩
      refine brE_dec (fun hlt3 => ?_) (fun hge3 => ?_)
      · have hlt3 : b < n := by omega
        have hb24 : b < 24 := by omega
        have next : IntKind.i64.wrap ((b : Int) + 1) = ((b + 1 : Nat) : Int) := fit ⟨by omega, by omega⟩
        have c1 := mat_cell (M8.get 0 rfl) ha24 hk24
        rw [midM_col] at c1
        have c2 := mat_cell (M8.get 0 rfl) hk24 hb24
        rw [midM_row] at c2
        refine ⟨a, rfl, ha24, ?_⟩
        refine ⟨k, rfl, hk24, ?_⟩
        refine ⟨_, c1, ?_⟩
        have no : (war T k a k && war T k k b) = false → ∀ {w' : World}, w' = w8 → b + 1 ≤ n ∧ Mem w w' [(g3, .cells (mat (midM T k a (b + 1))).toArray 93 (0, 0)), (g2, .cells (mat fun _ _ => false).toArray 93 (0, 0)), (g1, .cells #[.int .i64 n, .slice A xs.length c] 24 (0, 0))] := by
          intro h0 w' e
          rw [← midM_not h0, e]
          exact ⟨hlt3, M8⟩
        refine brE_mk (fun r1 => ?_) (fun r1 => ?_)
        · refine ⟨k, rfl, hk24, ?_⟩
          refine ⟨b, rfl, hb24, ?_⟩
          refine ⟨_, c2, ?_⟩
          refine brE_mk (fun r2 => ?_) (fun r2 => ?_)
          · refine ⟨a, rfl, ha24, ?_⟩
            refine ⟨b, rfl, hb24, ?_⟩
            refine ⟨rfl, _, _, M8.get 0 rfl, by rw [bools_length]; show 0 + a * 24 + b * 1 + 1 ≤ 576; omega, rfl, ?_⟩
            intro w9 h9
            have e9 : splice (mat (midM T k a b)) (0 + a * 24 + b * 1) [.bool true] = mat (midM T k a (b + 1)) := by
              rw [← midM_set (by rw [r1, r2]; rfl), ← mat_set ha24 hb24]
              congr 1
              omega
            have h9 : Put w8 g3 (.cells (mat (midM T k a (b + 1))).toArray 93 (0, 0)) w9 := by rw [← e9]; exact h9
            refine ⟨_, next, ?_⟩
            exact ⟨b + 1, ⟨rfl, rfl, rfl, rfl, rfl, rfl, trivial⟩, ⟨hlt3, M8.put 0 rfl h9⟩, by omega⟩
          · refine ⟨_, next, ?_⟩
            exact ⟨b + 1, ⟨rfl, rfl, rfl, rfl, rfl, rfl, trivial⟩, no (by rw [r2, Bool.and_false]) rfl, by omega⟩
        · refine ⟨_, next, ?_⟩
          exact ⟨b + 1, ⟨rfl, rfl, rfl, rfl, rfl, rfl, trivial⟩, no (by rw [r1, Bool.false_and]) rfl, by omega⟩
      · have : b = n := by omega
        subst this
        rw [midM_line hT] at M8
        refine ⟨((a + 1 : Nat) : Int), fit ⟨by omega, by omega⟩, ?_⟩
        exact ⟨a + 1, ⟨rfl, rfl, rfl, rfl, rfl, trivial⟩, ⟨hlt2, M8⟩, by omega⟩
    · have : a = n := by omega
      subst this
      rw [midM_end hT] at M7
      refine ⟨((k + 1 : Nat) : Int), fit ⟨by omega, by omega⟩, ?_⟩
      exact ⟨k + 1, ⟨rfl, rfl, rfl, rfl, trivial⟩, ⟨hlt, M7⟩, by omega⟩
  · have : k = n := by omega
    subst this
    refine ⟨mat (war T k), bools_length _ _, M6.rd 0 rfl, ?_⟩
    refine ⟨mat_size _, _, _, M6.get 1 rfl, by rw [bools_length]; show 0 + 576 ≤ 576; omega, bools_one 576 _, ?_⟩
    intro w7 h7
    have h7 : Put w6 g2 (.cells (mat (war T k)).toArray 93 (0, 0)) w7 := by rw [← mat_copy (war T k) fun _ _ => false]; exact h7
    have M7 := M6.put 1 rfl h7
    refine ⟨mat (war T k), bools_length _ _, M7.rd 1 rfl, ?_⟩
    exact ⟨rfl, M7.ext⟩

end Go.Proofs.Ytdfhfehlmonjjaa

namespace Go.Proofs.Ytdfhfehlmonjjaa
open Go.Eng Go.RowKit

set_option maxRecDepth 100000 in
theorem refStand_spec (R : Nat → Nat → Bool) {a b : Nat} (ha : a < 24) (hb : b < 24) (w : World) : CallsV C.P 72 #[.agg (mat R).toArray, .int .i64 a, .int .i64 b] w fun v w' => v = .int .u8 (standR R a b) ∧ Ext w w' := by
  refine callsV_of C_ok (args := [_, _, _]) (plans := []) Try.func72 rfl Try.ntmps72 (by kernel_rfl) (Nat.le_of_ble_eq_true rfl) ?_
  intro g1 w1 h1
  have M1 : Mem w w1 [(g1, .cells (mat R).toArray 93 (0, 0))] := (Mem.start w).alloc h1
  have cab := mat_cell (M1.get 0 rfl) ha hb
  have cba := mat_cell (M1.get 0 rfl) hb ha
  refine brE_dec (fun h => ?_) (fun h => ?_)
  · have h : a = b := by have : (a : Int) = b := h; omega
    exact ⟨by simp [standR, h], M1.ext⟩
  have h : ¬ a = b := by have : ¬ (a : Int) = b := h; omega
  refine ⟨a, rfl, ha, ?_⟩
  refine ⟨b, rfl, hb, ?_⟩
  refine ⟨_, cab, ?_⟩
  refine brE_mk (fun r1 => ?_) (fun r1 => ?_)
  · refine ⟨b, rfl, hb, ?_⟩
    refine ⟨a, rfl, ha, ?_⟩
    refine ⟨_, cba, ?_⟩
    refine brE_mk (fun r2 => ?_) (fun r2 => ?_)
    · exact ⟨by simp [standR, h, r1, r2], M1.ext⟩
    · refine ⟨a, rfl, ha, ?_⟩
      refine ⟨b, rfl, hb, ?_⟩
      refine ⟨_, cab, ?_⟩
      refine brE_true r1 ?_
      exact ⟨by simp [standR, h, r1, r2], M1.ext⟩
  · refine ⟨a, rfl, ha, ?_⟩
    refine ⟨b, rfl, hb, ?_⟩
    refine ⟨_, cab, ?_⟩
    refine brE_false r1 ?_
    refine ⟨b, rfl, hb, ?_⟩
    refine ⟨a, rfl, ha, ?_⟩
    refine ⟨_, cba, ?_⟩
    refine brE_mk (fun r2 => ?_) (fun r2 => ?_)
    · exact ⟨by simp [standR, h, r1, r2], M1.ext⟩
    · exact ⟨by simp [standR, h, r1, r2], M1.ext⟩

theorem refStanding_spec {N : Int} {A : Option Addr} {xs : List Arrow} {c : Nat} {w : World} (h : HRel w N A xs c) (a b : Int) :
    CallsV C.P 33 #[relVal N A xs.length c, .int .i64 a, .int .i64 b] w fun v w' => v = .int .u8 (standS N xs a b) ∧ Ext w w' := by
  refine callsV_of C_ok (args := [_, _, _]) (plans := []) Try.func33 rfl Try.ntmps33 (by kernel_rfl) (Nat.le_of_ble_eq_true rfl) ?_
  intro g1 w1 h1
  have M1 := (Mem.start w).alloc h1
  refine ⟨[.int .i64 N, .slice A xs.length c], rfl, M1.rd 0 rfl, ?_⟩
  refine (refCheck_spec (h.ext M1.ext)).mono ?_
  rintro v w2 ⟨rfl, e2⟩
  have M2 := M1.grow e2
  refine brE_mk (fun hb0 => ?_) (fun hb0 => ?_)
  · have hv : chk N xs ≠ 0 := by simpa using hb0
    exact ⟨by rw [standS, if_neg hv], M2.ext⟩
  have hv : chk N xs = 0 := by simpa using hb0
  have hok := valid_of_chk hv
  refine ⟨[.int .i64 N, .slice A xs.length c], rfl, M2.rd 0 rfl, ?_⟩
  refine (refIn_spec N A xs.length c a w2).mono ?_
  rintro v w3 ⟨rfl, e3⟩
  have M3 := M2.grow e3
  refine brE_mk (fun h1 => ?_) (fun h1 => ?_)
  · rw [Bool.not_eq_true'] at h1
    exact ⟨by rw [standS, if_pos hv, h1]; rfl, M3.ext⟩
  rw [Bool.not_eq_false'] at h1
  refine ⟨[.int .i64 N, .slice A xs.length c], rfl, M3.rd 0 rfl, ?_⟩
  refine (refIn_spec N A xs.length c b w3).mono ?_
  rintro v w4 ⟨rfl, e4⟩
  have M4 := M3.grow e4
  refine brE_mk (fun h2 => ?_) (fun h2 => ?_)
  · rw [Bool.not_eq_true'] at h2
    exact ⟨by rw [standS, if_pos hv, h2, Bool.and_false]; rfl, M4.ext⟩
  rw [Bool.not_eq_false'] at h2
  obtain ⟨p, rfl, hp⟩ := inR_nat h1
  obtain ⟨q, rfl, hq⟩ := inR_nat h2
  have := hok.hi
  refine ⟨[.int .i64 N, .slice A xs.length c], rfl, M4.rd 0 rfl, ?_⟩
  refine (Reach_spec (h.ext M4.ext) hok).mono ?_
  rintro v w5 ⟨rfl, e5⟩
  refine (refStand_spec _ (a := p) (b := q) (by omega) (by omega) w5).mono ?_
  rintro v w6 ⟨rfl, e6⟩
  refine ⟨?_, ((M4.grow e5).grow e6).ext⟩
  rw [standS, if_pos hv, h1, h2]
  rfl

end Go.Proofs.Ytdfhfehlmonjjaa

namespace Go.Proofs.Ytdfhfehlmonjjaa
open Go.Eng Go.RowKit

noncomputable def beforeL (N : Int) (xs : List Arrow) (a : Int) : List Int := if chk N xs = 0 ∧ inR N a = true then membersTo (fun b => reach (toM xs) b a.toNat) N.toNat else []

theorem beforeL_no {N : Int} {xs : List Arrow} {a : Int} (h : ¬ (chk N xs = 0 ∧ inR N a = true)) : beforeL N xs a = [] := by rw [beforeL, if_neg h]

theorem Before_spec {N : Int} {A : Option Addr} {xs : List Arrow} {c : Nat} {w : World} (h : HRel w N A xs c) (a : Int) :
    CallsV C.P 35 #[relVal N A xs.length c, .int .i64 a] w fun v w' => NewInts w w' v (beforeL N xs a) ∧ Ext w w' := by
  refine callsV_of C_ok (args := [_, _]) (plans := []) Try.func35 rfl Try.ntmps35 (by kernel_rfl) (Nat.le_of_ble_eq_true rfl) ?_
  intro g1 w1 h1
  have M1 := (Mem.start w).alloc h1
  refine ⟨[.int .i64 N, .slice A xs.length c], rfl, M1.rd 0 rfl, ?_⟩
  by_cases hv : chk N xs = 0
  · have hok := valid_of_chk hv
    have hN := hok.hi
    refine (open_yes (h.ext M1.ext) hok).mono ?_
    rintro v w2 ⟨g, rfl, hg, hw, he⟩
    have M2 := M1.grow he
    intro g3 w3 h3
    have M3 := M2.alloc h3
    refine (has_spec (xs := [a]) (hw.ext h3.ext) ⟨hok.lo, hok.hi⟩ (.inr ⟨g3, 0, rfl, M3.rd 0 rfl⟩) (by simp)).mono ?_
    rintro v w4 ⟨rfl, he4⟩
    have M4 := M3.grow he4
    have e1 : [a].all (inR N) = inR N a := by simp
    rw [e1]
    refine brE_mk (fun hb => ?_) (fun hb => ?_)
    · rw [Bool.not_eq_true'] at hb
      rw [beforeL_no (fun hh => by rw [hb] at hh; cases hh.2)]
      exact ⟨World.ownsRow_nil _ _ _ _, M4.ext⟩
    · rw [Bool.not_eq_false'] at hb
      rw [beforeL, if_pos ⟨hv, hb⟩]
      obtain ⟨p, rfl, hp⟩ := inR_nat hb
      obtain ⟨n, rfl⟩ := Int.eq_ofNat_of_zero_le hok.lo
      have hp24 : p < 24 := by omega
      have hw4 := (hw.ext h3.ext).ext he4
      refine ⟨_, hw4.n, ?_⟩
      refine loopE C_ok (fun (s : Nat × Value) => [(1, .int .i64 p), (5, .pointer (some ⟨g, 0, none⟩)), (7, s.2), (26, .int .i64 n), (27, .int .i64 s.1)])
        (fun s w' => s.1 ≤ n ∧ Ext w w' ∧ Web w' g n (toM xs) (reach (toM xs)) ∧ NewInts w w' s.2 (membersTo (fun b => reach (toM xs) b p) s.1)) (fun s => n - s.1) (0, .slice none 0 0) ⟨rfl, rfl, rfl, rfl, rfl, trivial⟩
        ⟨Nat.zero_le _, M4.ext, hw4, World.ownsRow_nil _ _ _ _⟩ ?_
      rintro ⟨b, v⟩ w5 ⟨hb, E5, hw5, ho⟩
      have hb : b ≤ n := hb
      have ho : NewInts w w5 v (membersTo (fun b => reach (toM xs) b p) b) := ho
      refine brE_dec (fun hlt => ?_) (fun hge => ?_)
      · have hlt : b < n := by have : (b : Int) < n := hlt; omega
        have hs := membersTo_succ (fun b => reach (toM xs) b p) b
        have hml := membersTo_length (fun b => reach (toM xs) b p) b
        have next : IntKind.i64.wrap ((b : Int) + 1) = ((b + 1 : Nat) : Int) := fit ⟨by omega, by omega⟩
        refine ⟨b, rfl, by omega, ?_⟩
        refine ⟨p, rfl, hp24, ?_⟩
        refine ⟨_, hw5.reach (by omega) hp24, ?_⟩
        refine brE_mk (fun hr => ?_) (fun hr => ?_)
        · rw [if_pos hr] at hs
          intro g6 w6 h6
          have ho6 : w6.ownsRow w.heap.size 3 1 v (membersTo (fun b => reach (toM xs) b p) b).length (ints (membersTo (fun b => reach (toM xs) b p) b)) := ownsRow_ext ho h6.ext
          refine ⟨rfl, rfl, rfl, w.heap.size, _, _, [.int .i64 b], ho6, (E5.trans h6.ext).size, Nat.lt_add_one 0, rfl, rfl, .inr ⟨g6, 0, rfl, Rd.of_block h6.here⟩, rfl, rfl, by omega, by simp only [maxLen]; omega, ?_⟩
          intro v7 w7 ho7 hg7 _
          refine ⟨_, next, ?_⟩
          refine ⟨(b + 1, v7), ⟨rfl, rfl, rfl, rfl, rfl, trivial⟩, ⟨hlt, app_ext (E5.trans h6.ext) ho6 hg7, only_app ho6 hg7 _ _ _ _ (hw5.ext h6.ext) (by decide), ?_⟩, by show n - (b + 1) < n - b; omega⟩
          show w7.ownsRow _ _ _ _ _ _
          rw [hs, List.length_append, ints_append]
          exact ho7
        · rw [if_neg (by rw [hr]; decide)] at hs
          refine ⟨_, next, ?_⟩
          refine ⟨(b + 1, v), ⟨rfl, rfl, rfl, rfl, rfl, trivial⟩, ⟨hlt, E5, hw5, ?_⟩, by show n - (b + 1) < n - b; omega⟩
          show w5.ownsRow _ _ _ _ _ _
          rw [hs]
          exact ho
      · have : b = n := by have : ¬ (b : Int) < n := hge; omega
        subst this
        exact ⟨ho, E5⟩
  · refine (open_no (h.ext M1.ext) hv).mono ?_
    rintro v w2 ⟨rfl, he⟩
    rw [beforeL_no (fun hh => hv hh.1)]
    exact ⟨World.ownsRow_nil _ _ _ _, (M1.grow he).ext⟩


set_option maxRecDepth 100000 in
theorem refBefore_spec {N : Int} {A : Option Addr} {xs : List Arrow} {c : Nat} {w : World} (h : HRel w N A xs c) (a : Int) :
    CallsV C.P 36 #[relVal N A xs.length c, .int .i64 a] w fun v w' => NewInts w w' v (beforeL N xs a) ∧ Ext w w' := by
  refine callsV_of C_ok (args := [_, _]) (plans := []) Try.func36 rfl Try.ntmps36 (by kernel_rfl) (Nat.le_of_ble_eq_true rfl) ?_
  intro g1 w1 h1
  have M1 := (Mem.start w).alloc h1
  refine ⟨[.int .i64 N, .slice A xs.length c], rfl, M1.rd 0 rfl, ?_⟩
  refine (refCheck_spec (h.ext M1.ext)).mono ?_
  rintro v w2 ⟨rfl, e2⟩
  have M2 := M1.grow e2
  refine brE_mk (fun hb0 => ?_) (fun hb0 => ?_)
  · have hv : chk N xs ≠ 0 := by simpa using hb0
    rw [beforeL_no (fun hh => hv hh.1)]
    exact ⟨World.ownsRow_nil _ _ _ _, M2.ext⟩
  have hv : chk N xs = 0 := by simpa using hb0
  have hok := valid_of_chk hv
  have hN := hok.hi
  refine ⟨[.int .i64 N, .slice A xs.length c], rfl, M2.rd 0 rfl, ?_⟩
  refine (refIn_spec N A xs.length c a w2).mono ?_
  rintro v w3 ⟨rfl, e3⟩
  have M3 := M2.grow e3
  refine brE_mk (fun hb => ?_) (fun hb => ?_)
  · rw [Bool.not_eq_true'] at hb
    rw [beforeL_no (fun hh => by rw [hb] at hh; cases hh.2)]
    exact ⟨World.ownsRow_nil _ _ _ _, M3.ext⟩
  rw [Bool.not_eq_false'] at hb
  rw [beforeL, if_pos ⟨hv, hb⟩]
  obtain ⟨p, rfl, hp⟩ := inR_nat hb
  obtain ⟨n, rfl⟩ := Int.eq_ofNat_of_zero_le hok.lo
  have hp24 : p < 24 := by omega
  refine ⟨[.int .i64 n, .slice A xs.length c], rfl, M3.rd 0 rfl, ?_⟩
  refine (Reach_spec (h.ext M3.ext) hok).mono ?_
  rintro v w4 ⟨rfl, e4⟩
  have M4 := M3.grow e4
  intro g5 w5 h5
  have M5 := M4.alloc h5
  refine ⟨mat_size _, _, _, M5.get 0 rfl, Nat.le_of_ble_eq_true rfl, bools_one 576 _, ?_⟩
  intro w6 h6
  have h6 : Put w5 g5 (.cells (mat (reach (toM xs))).toArray 93 (0, 0)) w6 := by
    have := mat_copy (reach (toM xs)) fun _ _ => false
    rw [← mat_zero] at this
    rw [← this]; exact h6
  have M6 := M5.put 0 rfl h6
  generalize reach (toM xs) = R at *
  have hn : n ≤ 24 := by omega
  refine loopE C_ok (fun (s : Nat × Value) => [(1, .int .i64 p), (2, .pointer (some ⟨g1, 0, none⟩)), (5, .pointer (some ⟨g5, 0, none⟩)), (6, s.2), (7, .int .i64 s.1)])
    (fun s w' => s.1 ≤ n ∧ Ext w w' ∧ w'.heap[g5]? = some (.cells (mat R).toArray 93 (0, 0)) ∧ w'.heap[g1]? = some (.cells #[.int .i64 n, .slice A xs.length c] 24 (0, 0)) ∧ NewInts w w' s.2 (membersTo (fun b => R b p) s.1)) (fun s => n - s.1) (0, .slice none 0 0) ⟨rfl, rfl, rfl, rfl, rfl, trivial⟩
    ⟨Nat.zero_le _, M6.ext, M6.get 0 rfl, M6.get 1 rfl, World.ownsRow_nil _ _ _ _⟩ ?_
  rintro ⟨b, v⟩ w5 ⟨hb, E5, hm5, hr5, ho⟩
  have hb : b ≤ n := hb
  have ho : NewInts w w5 v (membersTo (fun b => R b p) b) := ho
  refine ⟨_, cell_of_block hr5 rfl, ?_⟩
  refine brE_dec (fun hlt => ?_) (fun hge => ?_)
  · have hlt : b < n := by have : (b : Int) < n := hlt; omega
    have hb24 : b < 24 := by omega
    have hs := membersTo_succ (fun b => R b p) b
    have hml := membersTo_length (fun b => R b p) b
    have next : IntKind.i64.wrap ((b : Int) + 1) = ((b + 1 : Nat) : Int) := fit ⟨by omega, by omega⟩
    refine ⟨b, rfl, hb24, ?_⟩
    refine ⟨p, rfl, hp24, ?_⟩
    refine ⟨_, mat_cell hm5 hb24 hp24, ?_⟩
    refine brE_mk (fun hr => ?_) (fun hr => ?_)
    · rw [if_pos hr] at hs
      intro g6 w6 h6
      have ho6 : w6.ownsRow w.heap.size 3 1 v (membersTo (fun b => R b p) b).length (ints (membersTo (fun b => R b p) b)) := ownsRow_ext ho h6.ext
      refine ⟨rfl, rfl, rfl, w.heap.size, _, _, [.int .i64 b], ho6, (E5.trans h6.ext).size, Nat.lt_add_one 0, rfl, rfl, .inr ⟨g6, 0, rfl, Rd.of_block h6.here⟩, rfl, rfl, by omega, by simp only [maxLen]; omega, ?_⟩
      intro v7 w7 ho7 hg7 _
      have o7 := only_app ho6 hg7
      refine ⟨_, next, ?_⟩
      refine ⟨(b + 1, v7), ⟨rfl, rfl, rfl, rfl, rfl, trivial⟩, ⟨hlt, app_ext (E5.trans h6.ext) ho6 hg7, o7 _ _ _ _ (h6.ext.heap hm5) (by decide), o7 _ _ _ _ (h6.ext.heap hr5) (by decide), ?_⟩, by show n - (b + 1) < n - b; omega⟩
      show w7.ownsRow _ _ _ _ _ _
      rw [hs, List.length_append, ints_append]
      exact ho7
    · rw [if_neg (by rw [hr]; decide)] at hs
      refine ⟨_, next, ?_⟩
      refine ⟨(b + 1, v), ⟨rfl, rfl, rfl, rfl, rfl, trivial⟩, ⟨hlt, E5, hm5, hr5, ?_⟩, by show n - (b + 1) < n - b; omega⟩
      show w5.ownsRow _ _ _ _ _ _
      rw [hs]
      exact ho
  · have : b = n := by have : ¬ (b : Int) < n := hge; omega
    subst this
    exact ⟨ho, E5⟩

set_option maxRecDepth 100000 in
theorem refCheckChain_spec {N : Int} {A B : Option Addr} {xs : List Arrow} {c d : Nat} {w : World} (h : HRel w N A xs c) (a b : Int) {l : List Int} (hr : Reads w B (ints l)) (hl : l.length ≤ 9223372036854775807) :
    CallsV C.P 34 #[relVal N A xs.length c, .int .i64 a, .int .i64 b, .slice B l.length d] w fun v w' => v = .bool (checkS N xs a b l) ∧ Ext w w' := by
  refine callsV_of C_ok (args := [_, _, _, _]) (plans := plans34) Try.func34 rfl Try.ntmps34 (by kernel_rfl) (Nat.le_of_ble_eq_true rfl) ?_
  intro g1 w1 h1
  have M1 := (Mem.start w).alloc h1
  refine ⟨[.int .i64 N, .slice A xs.length c], rfl, M1.rd 0 rfl, ?_⟩
  refine (refCheck_spec (h.ext M1.ext)).mono ?_
  rintro v w2 ⟨rfl, e2⟩
  have M2 := M1.grow e2
  refine brE_mk (fun hb0 => ?_) (fun hb0 => ?_)
  · have hv : chk N xs ≠ 0 := by simpa using hb0
    exact ⟨by simp [checkS, hv], M2.ext⟩
  have hv : chk N xs = 0 := by simpa using hb0
  have hok := valid_of_chk hv
  have hN := hok.hi
  have hr2 := hr.ext M2.ext
  refine brE_dec (fun h2 => ?_) (fun h2 => ?_)
  · have h2 : l.length < 2 := by omega
    exact ⟨by simp only [checkS, chainOk, h2, decide_true, Bool.not_true, Bool.and_false, Bool.false_and], M2.ext⟩
  have h2 : 2 ≤ l.length := by omega
  obtain ⟨bb, oo, hB, hc0⟩ := Reads.int hr2 (i := 0) (by omega)
  refine ⟨0, bb, oo, rfl, by omega, hB, ?_⟩
  refine ⟨_, by simpa using hc0, ?_⟩
  have hhead := head_at (l := l) (by omega)
  refine brE_mk (fun hb3 => ?_) (fun hb3 => ?_)
  · have : l[0] ≠ a := by simpa using hb3
    exact ⟨by simp [checkS, chainOk, hhead, this], M2.ext⟩
  have hb3 : l[0] = a := by simpa using hb3
  obtain ⟨bb, oo, hB, hc1⟩ := Reads.int hr2 (i := l.length - 1) (by omega)
  refine ⟨((l.length - 1 : Nat) : Int), by rw [fit ⟨by omega, by omega⟩]; omega, ?_⟩
  refine ⟨l.length - 1, bb, oo, rfl, by omega, hB, ?_⟩
  refine ⟨_, by simpa using hc1, ?_⟩
  have hlast : l.getLast? = some l[l.length - 1] := by rw [List.getLast?_eq_getElem?]; simp
  refine brE_mk (fun hb4 => ?_) (fun hb4 => ?_)
  · have : l[l.length - 1] ≠ b := by simpa using hb4
    exact ⟨by simp [checkS, chainOk, hlast, this], M2.ext⟩
  have hb4 : l[l.length - 1] = b := by simpa using hb4
  have h2' : ¬ l.length < 2 := by omega
  have hno : ∀ i (hi : i < l.length), inR N l[i] = false → checkS N xs a b l = false := fun i hi hf => by
    have : l.all (inR N) = false := List.all_eq_false.2 ⟨l[i], List.getElem_mem hi, by rw [hf]; decide⟩
    simp only [checkS, chainOk, this, Bool.and_false, Bool.false_and]
  have hfin : (∀ i (hi : i < l.length), inR N l[i] = true) → checkS N xs a b l = linksB (toM xs) l := fun hall => by
    have h3 : l.all (inR N) = true := List.all_eq_true.2 fun x hx => by
      obtain ⟨i, hi, rfl⟩ := List.getElem_of_mem hx
      exact hall i hi
    have ha := hall 0 (by omega)
    have hb := hall (l.length - 1) (by omega)
    rw [hb3] at ha
    rw [hb4] at hb
    rw [checkS, chainOk, ha, hb, h3, hhead, hlast, hb3, hb4, hv]
    simp [h2']
  have hlk : linksB (toM xs) l = false → checkS N xs a b l = false := fun hf => by simp only [checkS, chainOk, hf, Bool.and_false]
  refine ⟨[.int .i64 N, .slice A xs.length c], rfl, M2.rd 0 rfl, ?_⟩
  refine (steps_spec (h.ext M2.ext) hok).mono ?_
  rintro v w3 ⟨rfl, e3⟩
  have M3 := M2.grow e3
  intro g4 w4 h4
  have M4 := M3.alloc h4
  refine ⟨mat_size _, _, _, M4.get 0 rfl, Nat.le_of_ble_eq_true rfl, bools_one 576 _, ?_⟩
  intro w5 h5
  have h5 : Put w4 g4 (.cells (mat (toM xs)).toArray 93 (0, 0)) w5 := by
    have := mat_copy (toM xs) fun _ _ => false
    rw [← mat_zero] at this
    rw [← this]; exact h5
  have M5 := M4.put 0 rfl h5
  refine loopE C_ok (fun (i : Nat) => [(3, .slice B l.length d), (4, .pointer (some ⟨g1, 0, none⟩)), (9, .pointer (some ⟨g4, 0, none⟩)), (10, .int .i64 i)])
    (fun i w' => Ext w5 w' ∧ i ≤ l.length ∧ (∀ j (hj : j < l.length), j < i → inR N l[j] = true) ∧ ∀ j (hj : j + 1 < l.length), j + 1 < i → toM xs (l[j]).toNat (l[j + 1]).toNat = true) (fun i => l.length - i) 0 ⟨rfl, rfl, rfl, rfl, trivial⟩
    ⟨Ext.refl _, Nat.zero_le _, fun j _ hj => absurd hj (Nat.not_lt_zero _), fun j _ hj => absurd hj (Nat.not_lt_zero _)⟩ ?_
  rintro i w6 ⟨E6, hi, hin, hall⟩
  have M6 := M5.grow E6
  refine brE_dec (fun hlt => ?_) (fun hge => ?_)
  · have hlt : i < l.length := by have : (i : Int) < (l.length : Nat) := hlt; omega
    have hr6 := hr.ext M6.ext
    obtain ⟨b2, o2, hB2, hc2⟩ := Reads.int hr6 (i := i) hlt
    refine ⟨[.int .i64 N, .slice A xs.length c], rfl, M6.rd 1 rfl, ?_⟩
    refine ⟨i, b2, o2, rfl, hlt, hB2, ?_⟩
    refine ⟨_, by simpa using hc2, ?_⟩
    refine (refIn_spec N A xs.length c l[i] w6).mono ?_
    rintro v w7 ⟨rfl, e7⟩
    have M7 := M6.grow e7
    refine brE_mk (fun hb => ?_) (fun hb => ?_)
    · rw [Bool.not_eq_true'] at hb
      exact ⟨by rw [hno i hlt hb], M7.ext⟩
    rw [Bool.not_eq_false'] at hb
    have next : IntKind.i64.wrap ((i : Int) + 1) = ((i + 1 : Nat) : Int) := fit ⟨by omega, by omega⟩
    have hin' : ∀ j (hj : j < l.length), j < i + 1 → inR N l[j] = true := fun j hj hji => by
      rcases Nat.lt_or_ge j i with h | h
      · exact hin j hj h
      · obtain rfl : j = i := by omega
        exact hb
    refine brE_dec (fun hi0 => ?_) (fun hi0 => ?_)
    · obtain ⟨k, rfl⟩ : ∃ k, i = k + 1 := ⟨i - 1, by have : (i : Int) > 0 := hi0; omega⟩
      have hr7 := hr.ext M7.ext
      obtain ⟨b1, o1, hB1, hc1⟩ := Reads.int hr7 (i := k) (by omega)
      obtain ⟨b2, o2, hB2, hc2⟩ := Reads.int hr7 (i := k + 1) hlt
      obtain ⟨p, ep, hp⟩ := inR_nat (hin k (by omega) (by omega))
      obtain ⟨q, eq, hq⟩ := inR_nat hb
      rw [ep] at hc1
      rw [eq] at hc2
      refine ⟨(k : Int), by rw [fit ⟨by omega, by omega⟩]; omega, ?_⟩
      refine ⟨k, b1, o1, rfl, (by omega : k < l.length), hB1, ?_⟩
      refine ⟨_, by simpa using hc1, ?_⟩
      refine ⟨k + 1, b2, o2, rfl, hlt, hB2, ?_⟩
      refine ⟨_, by simpa using hc2, ?_⟩
      refine ⟨p, rfl, by omega, ?_⟩
      refine ⟨q, rfl, by omega, ?_⟩
      refine ⟨_, mat_cell (M7.get 0 rfl) (by omega) (by omega), ?_⟩
      refine brE_mk (fun hb5 => ?_) (fun hb5 => ?_)
      · refine ⟨?_, M7.ext⟩
        rw [hlk]
        cases hx : linksB (toM xs) l with
        | false => rfl
        | true =>
          have := linksB_at.1 hx k hlt
          rw [ep, eq] at this
          simp at this
          rw [this] at hb5; cases hb5
      · have hb5 : toM xs p q = true := by simpa using hb5
        refine ⟨_, next, ?_⟩
        refine ⟨k + 1 + 1, ⟨rfl, rfl, rfl, rfl, trivial⟩, ⟨E6.trans e7, hlt, hin', fun j hj hj1 => ?_⟩, by omega⟩
        rcases Nat.lt_or_ge (j + 1) (k + 1) with h | h
        · exact hall j hj h
        · obtain rfl : j = k := by omega
          rw [ep, eq]; simpa using hb5
    · obtain rfl : i = 0 := by have : ¬ (i : Int) > 0 := hi0; omega
      refine ⟨_, next, ?_⟩
      exact ⟨0 + 1, ⟨rfl, rfl, rfl, rfl, trivial⟩, ⟨E6.trans e7, hlt, hin', fun j hj hj1 => by omega⟩, by omega⟩
  · have : i = l.length := by have : ¬ (i : Int) < (l.length : Nat) := hge; omega
    subst this
    refine ⟨?_, M6.ext⟩
    rw [hfin fun i hi => hin i hi hi, linksB_at.2 fun j hj => hall j hj hj]

end Go.Proofs.Ytdfhfehlmonjjaa

namespace Go.Proofs.Ytdfhfehlmonjjaa
open Go.Eng Go.RowKit

theorem dist_count {n : Nat} {T : Nat → Nat → Bool} (hT : Inside n T) {b m x : Nat} (h : dist T b x = m + 1) : ∀ k, k ≤ m + 1 → k ≤ ((List.range n).filter fun y => decide (1 ≤ dist T b y ∧ dist T b y ≤ k)).length
  | 0, _ => Nat.zero_le _
  | k + 1, hk => by
    have ih := dist_count hT h k (by omega)
    obtain ⟨y, hy⟩ := dist_down m x h (k + 1) (by omega) hk
    have hyn : y < n := dist_lt hT (b := b) (by omega)
    have := filter_lt (p := fun y => decide (1 ≤ dist T b y ∧ dist T b y ≤ k)) (q := fun y => decide (1 ≤ dist T b y ∧ dist T b y ≤ k + 1)) (List.range n) (fun z hz => by
      have := of_decide_eq_true hz
      exact decide_eq_true (by omega)) (List.mem_range.2 hyn) (decide_eq_false (by omega)) (decide_eq_true (by omega))
    omega

theorem dist_le {n : Nat} {T : Nat → Nat → Bool} (hT : Inside n T) (b x : Nat) : dist T b x ≤ n := by
  by_cases h : dist T b x = 0
  · omega
  · obtain ⟨m, hm⟩ : ∃ m, dist T b x = m + 1 := ⟨dist T b x - 1, by omega⟩
    have h1 := dist_count hT hm (m + 1) (Nat.le_refl _)
    have h2 := List.length_filter_le (fun y => decide (1 ≤ dist T b y ∧ dist T b y ≤ m + 1)) (List.range n)
    rw [List.length_range] at h2
    omega

/-- The first guests, who stand a single arrow away. -/
def oneTo (T : Nat → Nat → Bool) (b a : Nat) : Nat → Nat := fun x => if x < a ∧ T x b = true then 1 else 0

theorem oneTo_zero (T : Nat → Nat → Bool) (b : Nat) : oneTo T b 0 = fun _ => 0 := by funext x; simp [oneTo]
theorem oneTo_yes {T : Nat → Nat → Bool} {b a : Nat} (h : T a b = true) : (fun x => if x = a then 1 else oneTo T b a x) = oneTo T b (a + 1) := by
  funext x
  unfold oneTo
  by_cases e : x = a
  · subst e; rw [if_pos rfl, if_pos ⟨by omega, h⟩]
  · rw [if_neg e]
    by_cases hx : x < a ∧ T x b = true
    · rw [if_pos hx, if_pos ⟨by omega, hx.2⟩]
    · rw [if_neg hx, if_neg (fun hh => hx ⟨by omega, hh.2⟩)]
theorem oneTo_no {T : Nat → Nat → Bool} {b a : Nat} (h : T a b = false) : oneTo T b a = oneTo T b (a + 1) := by
  funext x
  unfold oneTo
  by_cases e : x = a
  · subst e; rw [if_neg (by omega), if_neg (by rw [h]; simp)]
  · by_cases hx : x < a ∧ T x b = true
    · rw [if_pos hx, if_pos ⟨by omega, hx.2⟩]
    · rw [if_neg hx, if_neg (fun hh => hx ⟨by omega, hh.2⟩)]
theorem oneTo_end {n : Nat} {T : Nat → Nat → Bool} (hT : Inside n T) (b : Nat) : oneTo T b n = stepsAt T b 2 := by
  funext x
  unfold oneTo stepsAt
  by_cases h : T x b = true
  · rw [if_pos ⟨(hT _ _ h).1, h⟩, dist_one.2 h, if_pos (by omega)]
  · rw [if_neg (fun hh => h hh.2)]
    have : dist T b x ≠ 1 := fun hh => h (dist_one.1 hh)
    split <;> omega

noncomputable def anyTo (T : Nat → Nat → Bool) (b k a c : Nat) : Bool := (List.range c).any fun y => T a y && decide (dist T b y = k - 1)
open Classical in
noncomputable def midN (T : Nat → Nat → Bool) (b k a c : Nat) : Nat → Nat := fun x => if x < a ∧ dist T b x = k ∨ x = a ∧ stepsAt T b k x = 0 ∧ anyTo T b k a c = true then k else stepsAt T b k x

theorem anyTo_succ (T : Nat → Nat → Bool) (b k a c : Nat) : anyTo T b k a (c + 1) = (anyTo T b k a c || (T a c && decide (dist T b c = k - 1))) := by
  unfold anyTo
  rw [List.range_succ, List.any_append]; simp

theorem midN_start (T : Nat → Nat → Bool) (b k : Nat) : midN T b k 0 0 = stepsAt T b k := by
  funext x
  unfold midN
  rw [if_neg]
  rintro (h | ⟨_, _, h⟩)
  · omega
  · simp [anyTo] at h

theorem stepsAt_back {T : Nat → Nat → Bool} {b k x : Nat} (hk : 2 ≤ k) : stepsAt T b k x = k - 1 ↔ dist T b x = k - 1 := by
  unfold stepsAt
  split <;> omega

theorem midN_hit {T : Nat → Nat → Bool} {b k a c : Nat} (hk : 2 ≤ k) (h0 : stepsAt T b k a = 0) (ht : T a c = true) (hd : stepsAt T b k c = k - 1) : (fun x => if x = a then k else midN T b k a c x) = midN T b k a (c + 1) := by
  have hany : anyTo T b k a (c + 1) = true := by rw [anyTo_succ, ht, decide_eq_true ((stepsAt_back hk).1 hd)]; simp
  funext x
  unfold midN
  by_cases e : x = a
  · subst e; rw [if_pos rfl, if_pos (.inr ⟨rfl, h0, hany⟩)]
  · rw [if_neg e]
    by_cases hx : x < a ∧ dist T b x = k
    · rw [if_pos (.inl hx), if_pos (.inl hx)]
    · rw [if_neg (fun h => h.elim hx fun h => e h.1), if_neg (fun h => h.elim hx fun h => e h.1)]

theorem midN_miss {T : Nat → Nat → Bool} {b k a c : Nat} (hk : 2 ≤ k) (h : stepsAt T b k a ≠ 0 ∨ T a c = false ∨ stepsAt T b k c ≠ k - 1) : midN T b k a c = midN T b k a (c + 1) := by
  funext x
  unfold midN
  have key : (x = a ∧ stepsAt T b k x = 0 ∧ anyTo T b k a c = true) ↔ (x = a ∧ stepsAt T b k x = 0 ∧ anyTo T b k a (c + 1) = true) := by
    constructor
    · rintro ⟨e, h0, h1⟩
      exact ⟨e, h0, by rw [anyTo_succ, h1]; rfl⟩
    · rintro ⟨e, h0, h1⟩
      refine ⟨e, h0, ?_⟩
      subst e
      rcases h with h | h | h
      · exact absurd h0 h
      · rw [anyTo_succ, h, Bool.false_and, Bool.or_false] at h1; exact h1
      · rw [anyTo_succ, decide_eq_false (fun hh => h ((stepsAt_back hk).2 hh)), Bool.and_false, Bool.or_false] at h1; exact h1
  by_cases hx : x < a ∧ dist T b x = k
  · rw [if_pos (.inl hx), if_pos (.inl hx)]
  · by_cases hy : x = a ∧ stepsAt T b k x = 0 ∧ anyTo T b k a c = true
    · rw [if_pos (.inr hy), if_pos (.inr (key.1 hy))]
    · rw [if_neg (fun h => h.elim hx hy), if_neg (fun h => h.elim hx fun h => hy (key.2 h))]

theorem midN_row {n : Nat} {T : Nat → Nat → Bool} (hT : Inside n T) {b k a : Nat} (hk : 2 ≤ k) : midN T b k a n = midN T b k (a + 1) 0 := by
  funext x
  have hz : ∀ y, ¬ (y = a + 1 ∧ stepsAt T b k y = 0 ∧ anyTo T b k (a + 1) 0 = true) := fun y h => by simp [anyTo] at h
  have key : (x = a ∧ stepsAt T b k x = 0 ∧ anyTo T b k a n = true) ↔ (x = a ∧ dist T b x = k) := by
    constructor
    · rintro ⟨rfl, h0, h1⟩
      refine ⟨rfl, (dist_next hk).2 ⟨?_, ?_⟩⟩
      · unfold stepsAt at h0
        split at h0 <;> omega
      · obtain ⟨y, _, hy⟩ := List.any_eq_true.1 h1
        rw [Bool.and_eq_true, decide_eq_true_eq] at hy
        exact ⟨y, hy⟩
    · rintro ⟨rfl, h⟩
      obtain ⟨_, y, hy, hd⟩ := (dist_next hk).1 h
      refine ⟨rfl, by unfold stepsAt; rw [if_neg (by omega)], List.any_eq_true.2 ⟨y, List.mem_range.2 (hT _ _ hy).2, by rw [hy, decide_eq_true hd]; rfl⟩⟩
  unfold midN
  by_cases hx : x < a ∧ dist T b x = k
  · rw [if_pos (.inl hx), if_pos (.inl ⟨by omega, hx.2⟩)]
  · by_cases hy : x = a ∧ dist T b x = k
    · rw [if_pos (.inr (key.2 hy)), if_pos (.inl ⟨by omega, hy.2⟩)]
    · rw [if_neg (fun h => h.elim hx fun h => hy (key.1 h)), if_neg]
      rintro (h | h)
      · rcases Nat.lt_or_ge x a with h1 | h1
        · exact hx ⟨h1, h.2⟩
        · exact hy ⟨by omega, h.2⟩
      · exact hz x h

theorem midN_end {n : Nat} {T : Nat → Nat → Bool} (hT : Inside n T) {b k : Nat} (hk : 2 ≤ k) : midN T b k n 0 = stepsAt T b (k + 1) := by
  funext x
  unfold midN
  by_cases hd : dist T b x = k
  · have hx : x < n := dist_lt hT (b := b) (by omega)
    rw [if_pos (.inl ⟨hx, hd⟩)]
    unfold stepsAt
    rw [if_pos (by omega), hd]
  · rw [if_neg]
    · unfold stepsAt
      split <;> split <;> omega
    · rintro (h | h)
      · exact hd h.2
      · simp [anyTo] at h

theorem stepsAt_all {n : Nat} {T : Nat → Nat → Bool} (hT : Inside n T) (b : Nat) : stepsAt T b (n + 1) = dist T b := by
  funext x
  have := dist_le hT b x
  unfold stepsAt
  rw [if_pos (by omega)]

theorem nats_one (f : Nat → Nat) : (nats f).all (·.oneCell') = true := by
  rw [List.all_eq_true]
  intro v hv
  obtain ⟨k, _, rfl⟩ := List.mem_map.1 hv
  rfl
theorem nats_size (f : Nat → Nat) : (Value.agg (nats f).toArray).cells.size = 24 := by simp [Value.cells, nats_length]
theorem nats_copy (f g : Nat → Nat) : splice (nats g) 0 (nats f) = nats f := by
  unfold splice
  have h1 := nats_length f
  have h2 := nats_length g
  rw [h1, List.drop_eq_nil_of_le (by omega)]
  simp
theorem nats_cell {w : World} {g t : Nat} {fr : Nat × Nat} {f : Nat → Nat} (h : w.heap[g]? = some (.cells (nats f).toArray t fr)) {a : Nat} (ha : a < 24) : w.cell? ⟨g, 0 + a * 1, none⟩ = some (.int .i64 (f a : Nat)) := by
  have := (Rd.of_block h) a _ (nats_get ha f)
  simpa using this

set_option maxRecDepth 100000 in
theorem far_spec {N : Int} {A : Option Addr} {xs : List Arrow} {c : Nat} {w : World} (h : HRel w N A xs c) (hok : Valid N xs) {b : Nat} (hb : (b : Int) < N) :
    CallsV C.P 71 #[relVal N A xs.length c, .int .i64 b] w fun v w' => v = .agg (nats (dist (toM xs) b)).toArray ∧ Ext w w' := by
  have hlo := hok.lo
  have hhi := hok.hi
  obtain ⟨n, rfl⟩ := Int.eq_ofNat_of_zero_le hlo
  have hn : n ≤ 24 := by omega
  have hb24 : b < 24 := by omega
  have hT : Inside n (toM xs) := hok.inside
  refine callsV_of C_ok (args := [_, _]) (plans := []) Try.func71 rfl Try.ntmps71 (by kernel_rfl) (Nat.le_of_ble_eq_true rfl) ?_
  intro g2 w1 h1
  intro g4 w2 h2
  have M2 := ((Mem.start w).alloc h1).alloc h2
  refine ⟨[.int .i64 n, .slice A xs.length c], rfl, M2.rd 1 rfl, ?_⟩
  refine (steps_spec (h.ext M2.ext) hok).mono ?_
  rintro v w3 ⟨rfl, e3⟩
  have M3 := M2.grow e3
  intro g5 w4 h4
  have M4 := M3.alloc h4
  refine ⟨mat_size _, _, _, M4.get 0 rfl, Nat.le_of_ble_eq_true rfl, bools_one 576 _, ?_⟩
  intro w5 h5
  have h5 : Put w4 g5 (.cells (mat (toM xs)).toArray 93 (0, 0)) w5 := by
    have := mat_copy (toM xs) fun _ _ => false
    rw [← mat_zero] at this
    rw [← this]; exact h5
  have M5 := M4.put 0 rfl h5
  intro g6 w6 h6
  have M6 := M5.alloc h6
  generalize toM xs = T at *
  have M6 : Mem w w6 [(g6, .cells (nats (oneTo T b 0)).toArray 80 (0, 0)), (g5, .cells (mat T).toArray 93 (0, 0)), (g4, .cells (nats fun _ => 0).toArray 80 (0, 0)), (g2, .cells #[.int .i64 n, .slice A xs.length c] 24 (0, 0))] := by
    rw [oneTo_zero, ← nats_zero]; exact M6
  refine loopE C_ok (fun (a : Nat) => [(1, .int .i64 b), (2, .pointer (some ⟨g2, 0, none⟩)), (4, .pointer (some ⟨g4, 0, none⟩)), (5, .pointer (some ⟨g5, 0, none⟩)), (6, .pointer (some ⟨g6, 0, none⟩)), (7, .int .i64 a)])
    (fun a w' => a ≤ n ∧ Mem w w' [(g6, .cells (nats (oneTo T b a)).toArray 80 (0, 0)), (g5, .cells (mat T).toArray 93 (0, 0)), (g4, .cells (nats fun _ => 0).toArray 80 (0, 0)), (g2, .cells #[.int .i64 n, .slice A xs.length c] 24 (0, 0))]) (fun a => n - a) 0
    ⟨rfl, rfl, rfl, rfl, rfl, rfl, trivial⟩ ⟨Nat.zero_le _, M6⟩ ?_
  rintro a w7 ⟨ha, M7⟩
  refine ⟨_, M7.cell 3 rfl rfl, ?_⟩
  refine brE_dec (fun hlt => ?_) (fun hge => ?_)
  · have hlt : a < n := by have : (a : Int) < n := hlt; omega
    have ha24 : a < 24 := by omega
    have next : IntKind.i64.wrap ((a : Int) + 1) = ((a + 1 : Nat) : Int) := fit ⟨by omega, by omega⟩
    refine ⟨a, rfl, ha24, ?_⟩
    refine ⟨b, rfl, hb24, ?_⟩
    refine ⟨_, mat_cell (M7.get 1 rfl) ha24 hb24, ?_⟩
    refine brE_mk (fun hr => ?_) (fun hr => ?_)
    · refine ⟨a, rfl, ha24, ?_⟩
      refine ⟨rfl, _, _, M7.get 0 rfl, by rw [nats_length]; show 0 + a * 1 + 1 ≤ 24; omega, rfl, ?_⟩
      intro w8 h8
      have e8 : splice (nats (oneTo T b a)) (0 + a * 1) [.int .i64 1] = nats (oneTo T b (a + 1)) := by
        rw [← oneTo_yes hr]
        have := nats_set ha24 (oneTo T b a) 1
        rw [Nat.mul_one, Nat.zero_add]
        exact this
      have h8 : Put w7 g6 (.cells (nats (oneTo T b (a + 1))).toArray 80 (0, 0)) w8 := by rw [← e8]; exact h8
      refine ⟨_, next, ?_⟩
      exact ⟨a + 1, ⟨rfl, rfl, rfl, rfl, rfl, rfl, trivial⟩, ⟨hlt, M7.put 0 rfl h8⟩, by omega⟩
    · refine ⟨_, next, ?_⟩
      exact ⟨a + 1, ⟨rfl, rfl, rfl, rfl, rfl, rfl, trivial⟩, ⟨hlt, by rw [← oneTo_no hr]; exact M7⟩, by omega⟩
  · have : a = n := by have : ¬ (a : Int) < n := hge; omega
    subst this
    rw [oneTo_end hT] at M7
    refine loopE C_ok (fun (k : Nat) => [(1, .int .i64 b), (2, .pointer (some ⟨g2, 0, none⟩)), (4, .pointer (some ⟨g4, 0, none⟩)), (5, .pointer (some ⟨g5, 0, none⟩)), (6, .pointer (some ⟨g6, 0, none⟩)), (8, .int .i64 k)])
      (fun k w' => 2 ≤ k ∧ k ≤ a + 1 ∧ Mem w w' [(g6, .cells (nats (stepsAt T b k)).toArray 80 (0, 0)), (g5, .cells (mat T).toArray 93 (0, 0)), (g4, .cells (nats fun _ => 0).toArray 80 (0, 0)), (g2, .cells #[.int .i64 a, .slice A xs.length c] 24 (0, 0))]) (fun k => a + 1 - k) 2
      ⟨rfl, rfl, rfl, rfl, rfl, rfl, trivial⟩ ⟨Nat.le_refl _, by omega, M7⟩ ?_
    rintro k w8 ⟨hk2, hk, M8⟩
    refine ⟨_, M8.cell 3 rfl rfl, ?_⟩
    refine brE_dec (fun hlt => ?_) (fun hge2 => ?_)
    · have hlt : k ≤ a := by have : (k : Int) ≤ a := hlt; omega
      refine ⟨nats (stepsAt T b k), nats_length _, M8.rd 0 rfl, ?_⟩
      intro g9 w9 h9
      have M9 := M8.alloc h9
      refine ⟨nats_size _, _, _, M9.get 0 rfl, Nat.le_of_ble_eq_true rfl, nats_one _, ?_⟩
      intro w10 h10
      have h10 : Put w9 g9 (.cells (nats (midN T b k 0 0)).toArray 80 (0, 0)) w10 := by
        have := nats_copy (stepsAt T b k) fun _ => 0
        rw [← nats_zero] at this
        rw [midN_start, ← this]; exact h10
      have M10 := M9.put 0 rfl h10
      refine loopE C_ok (fun (i : Nat) => [(1, .int .i64 b), (2, .pointer (some ⟨g2, 0, none⟩)), (4, .pointer (some ⟨g4, 0, none⟩)), (5, .pointer (some ⟨g5, 0, none⟩)), (6, .pointer (some ⟨g6, 0, none⟩)), (8, .int .i64 k), (9, .pointer (some ⟨g9, 0, none⟩)), (10, .int .i64 i)])
        (fun i w' => i ≤ a ∧ Mem w w' [(g9, .cells (nats (midN T b k i 0)).toArray 80 (0, 0)), (g6, .cells (nats (stepsAt T b k)).toArray 80 (0, 0)), (g5, .cells (mat T).toArray 93 (0, 0)), (g4, .cells (nats fun _ => 0).toArray 80 (0, 0)), (g2, .cells #[.int .i64 a, .slice A xs.length c] 24 (0, 0))]) (fun i => a - i) 0
        ⟨rfl, rfl, rfl, rfl, rfl, rfl, rfl, rfl, trivial⟩ ⟨Nat.zero_le _, M10⟩ ?_
      rintro i w11 ⟨hi, M11⟩
      refine ⟨_, M11.cell 4 rfl rfl, ?_⟩
      refine brE_dec (fun hlti => ?_) (fun hgei => ?_)
      · have hlti : i < a := by have : (i : Int) < a := hlti; omega
        have hi24 : i < 24 := by omega
        refine loopE C_ok (fun (j : Nat) => [(1, .int .i64 b), (2, .pointer (some ⟨g2, 0, none⟩)), (4, .pointer (some ⟨g4, 0, none⟩)), (5, .pointer (some ⟨g5, 0, none⟩)), (6, .pointer (some ⟨g6, 0, none⟩)), (8, .int .i64 k), (9, .pointer (some ⟨g9, 0, none⟩)), (10, .int .i64 i), (11, .int .i64 j)])
          (fun j w' => j ≤ a ∧ Mem w w' [(g9, .cells (nats (midN T b k i j)).toArray 80 (0, 0)), (g6, .cells (nats (stepsAt T b k)).toArray 80 (0, 0)), (g5, .cells (mat T).toArray 93 (0, 0)), (g4, .cells (nats fun _ => 0).toArray 80 (0, 0)), (g2, .cells #[.int .i64 a, .slice A xs.length c] 24 (0, 0))]) (fun j => a - j) 0
          ⟨rfl, rfl, rfl, rfl, rfl, rfl, rfl, rfl, rfl, trivial⟩ ⟨Nat.zero_le _, M11⟩ ?_
        rintro j w12 ⟨hj, M12⟩
        refine ⟨_, M12.cell 4 rfl rfl, ?_⟩
        refine brE_dec (fun hltj => ?_) (fun hgej => ?_)
        · have hltj : j < a := by have : (j : Int) < a := hltj; omega
          have hj24 : j < 24 := by omega
          have next : IntKind.i64.wrap ((j : Int) + 1) = ((j + 1 : Nat) : Int) := fit ⟨by omega, by omega⟩
          have miss : (stepsAt T b k i ≠ 0 ∨ T i j = false ∨ stepsAt T b k j ≠ k - 1) → j + 1 ≤ a ∧ Mem w w12 [(g9, .cells (nats (midN T b k i (j + 1))).toArray 80 (0, 0)), (g6, .cells (nats (stepsAt T b k)).toArray 80 (0, 0)), (g5, .cells (mat T).toArray 93 (0, 0)), (g4, .cells (nats fun _ => 0).toArray 80 (0, 0)), (g2, .cells #[.int .i64 a, .slice A xs.length c] 24 (0, 0))] := fun hm =>
            ⟨hltj, by rw [← midN_miss hk2 hm]; exact M12⟩
          refine ⟨i, rfl, hi24, ?_⟩
          refine ⟨_, nats_cell (M12.get 1 rfl) hi24, ?_⟩
          refine brE_dec (fun h0 => ?_) (fun h0 => ?_)
          · have h0 : stepsAt T b k i = 0 := by have : ((stepsAt T b k i : Nat) : Int) = 0 := h0; omega
            refine ⟨i, rfl, hi24, ?_⟩
            refine ⟨j, rfl, hj24, ?_⟩
            refine ⟨_, mat_cell (M12.get 2 rfl) hi24 hj24, ?_⟩
            refine brE_mk (fun hr => ?_) (fun hr => ?_)
            · refine ⟨j, rfl, hj24, ?_⟩
              refine ⟨_, nats_cell (M12.get 1 rfl) hj24, ?_⟩
              refine ⟨((k - 1 : Nat) : Int), by rw [fit ⟨by omega, by omega⟩]; omega, ?_⟩
              refine brE_dec (fun hd => ?_) (fun hd => ?_)
              · have hd : stepsAt T b k j = k - 1 := by have : ((stepsAt T b k j : Nat) : Int) = ((k - 1 : Nat) : Int) := hd; omega
                refine ⟨i, rfl, hi24, ?_⟩
                refine ⟨rfl, _, _, M12.get 0 rfl, by rw [nats_length]; show 0 + i * 1 + 1 ≤ 24; omega, rfl, ?_⟩
                intro w13 h13
                have e13 : splice (nats (midN T b k i j)) (0 + i * 1) [.int .i64 (k : Nat)] = nats (midN T b k i (j + 1)) := by
                  rw [← midN_hit hk2 h0 hr hd]
                  have := nats_set hi24 (midN T b k i j) k
                  rw [Nat.mul_one, Nat.zero_add]
                  exact this
                have h13 : Put w12 g9 (.cells (nats (midN T b k i (j + 1))).toArray 80 (0, 0)) w13 := by rw [← e13]; exact h13
                refine ⟨_, next, ?_⟩
                exact ⟨j + 1, ⟨rfl, rfl, rfl, rfl, rfl, rfl, rfl, rfl, rfl, trivial⟩, ⟨hltj, M12.put 0 rfl h13⟩, by omega⟩
              · have hd : stepsAt T b k j ≠ k - 1 := by have : ¬ ((stepsAt T b k j : Nat) : Int) = ((k - 1 : Nat) : Int) := hd; omega
                refine ⟨_, next, ?_⟩
                exact ⟨j + 1, ⟨rfl, rfl, rfl, rfl, rfl, rfl, rfl, rfl, rfl, trivial⟩, miss (.inr (.inr hd)), by omega⟩
            · refine ⟨_, next, ?_⟩
              exact ⟨j + 1, ⟨rfl, rfl, rfl, rfl, rfl, rfl, rfl, rfl, rfl, trivial⟩, miss (.inr (.inl hr)), by omega⟩
          · have h0 : stepsAt T b k i ≠ 0 := by have : ¬ ((stepsAt T b k i : Nat) : Int) = 0 := h0; omega
            refine ⟨_, next, ?_⟩
            exact ⟨j + 1, ⟨rfl, rfl, rfl, rfl, rfl, rfl, rfl, rfl, rfl, trivial⟩, miss (.inl h0), by omega⟩
        · have : j = a := by have : ¬ (j : Int) < a := hgej; omega
          subst this
          rw [midN_row hT hk2] at M12
          refine ⟨((i + 1 : Nat) : Int), fit ⟨by omega, by omega⟩, ?_⟩
          exact ⟨i + 1, ⟨rfl, rfl, rfl, rfl, rfl, rfl, rfl, rfl, trivial⟩, ⟨hlti, M12⟩, by omega⟩
      · have : i = a := by have : ¬ (i : Int) < a := hgei; omega
        subst this
        rw [midN_end hT hk2] at M11
        refine ⟨nats (stepsAt T b (k + 1)), nats_length _, M11.rd 0 rfl, ?_⟩
        refine ⟨nats_size _, _, _, M11.get 1 rfl, by rw [nats_length]; exact Nat.le_refl _, nats_one _, ?_⟩
        intro w12 h12
        have h12 : Put w11 g6 (.cells (nats (stepsAt T b (k + 1))).toArray 80 (0, 0)) w12 := by rw [← nats_copy (stepsAt T b (k + 1)) (stepsAt T b k)]; exact h12
        have M12 := (M11.put 1 rfl h12).tail
        refine ⟨((k + 1 : Nat) : Int), fit ⟨by omega, by omega⟩, ?_⟩
        exact ⟨k + 1, ⟨rfl, rfl, rfl, rfl, rfl, rfl, trivial⟩, ⟨by omega, by omega, M12⟩, by omega⟩
    · have : k = a + 1 := by have : ¬ (k : Int) ≤ a := hge2; omega
      subst this
      rw [stepsAt_all hT] at M8
      refine ⟨nats (dist T b), nats_length _, M8.rd 0 rfl, ?_⟩
      refine ⟨nats_size _, _, _, M8.get 2 rfl, by rw [nats_length]; exact Nat.le_refl _, nats_one _, ?_⟩
      intro w9 h9
      have h9 : Put w8 g4 (.cells (nats (dist T b)).toArray 80 (0, 0)) w9 := by rw [← nats_copy (dist T b) fun _ => 0]; exact h9
      have M9 := M8.put 2 rfl h9
      refine ⟨nats (dist T b), nats_length _, M9.rd 2 rfl, ?_⟩
      exact ⟨rfl, M9.ext⟩

end Go.Proofs.Ytdfhfehlmonjjaa
