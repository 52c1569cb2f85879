/- Guests checked, by the program and by the reference. -/
import Derived.Test.YtdfhfehlmonjjaaR25
namespace Go.Proofs.Ytdfhfehlmonjjaa
open Go.Eng Go.RowKit
open Go.Maps (Keyed)

theorem intK : Keyed C.P 3 := Go.Maps.int_keyed under3
theorem intKey {x : Int} (h : In64 x) : keyOf C.P 3 (.int .i64 x) = some (.int .i64 x) := Go.Maps.keyOf_int_mk under3 (wf64 h)

noncomputable def seenV (l : List Int) : Value → Option Value := l.foldl (fun f x => updV f (.int .i64 x) (.bool true)) fun _ => none
theorem seenV_snoc (l : List Int) (x : Int) : seenV (l ++ [x]) = updV (seenV l) (.int .i64 x) (.bool true) := by simp [seenV]
theorem seenV_get (l : List Int) (q : Int) : seenV l (.int .i64 q) = if q ∈ l then some (.bool true) else none := by
  suffices h : ∀ (l : List Int) (f : Value → Option Value), (l.foldl (fun f x => updV f (.int .i64 x) (.bool true)) f) (.int .i64 q) = if q ∈ l then some (.bool true) else f (.int .i64 q) from h l _
  intro l
  induction l with
  | nil => intro f; simp
  | cons p l ih =>
    intro f
    rw [List.foldl_cons, ih]
    by_cases h1 : q ∈ l
    · simp [h1]
    · by_cases h2 : q = p
      · subst h2; simp [h1, updV]
      · simp [h1, h2, updV]

theorem CheckGuests_spec {w : World} {B : Option Addr} {gs : List (Int × Int)} {d : Nat} (hr : Reads w B (prCells gs)) :
    CallsV C.P 26 #[.slice B gs.length d] w fun v w' => v = .int .i64 (gchk gs) ∧ Ext w w' := by
  refine callsV_of C_ok (args := [_]) (plans := []) Try.func26 rfl Try.ntmps26 (by kernel_rfl) (Nat.le_of_ble_eq_true rfl) ?_
  refine brE_dec (fun hl => ?_) (fun hl => ?_)
  · have hl : (gs.length : Int) > 24 := hl
    exact ⟨by rw [gchk, if_pos (by omega)], Ext.refl _⟩
  have hl : ¬ (gs.length : Int) > 24 := hl
  have hg : gchk gs = gloop [] gs := by rw [gchk, if_neg (by omega)]
  rw [hg]
  intro gm w1 h1
  refine loopE C_ok (fun (i : Nat) => [(3, .map (some gm)), (10, .slice B gs.length d), (11, .int .i64 gs.length), (12, .int .i64 i)])
    (fun i w' => i ≤ gs.length ∧ (∃ om, Mem w w' [(gm, om)]) ∧ MapIs C.P 3 w' gm (seenV ((gs.take i).map Prod.fst)) ∧ gloop [] gs = gloop ((gs.take i).map Prod.fst) (gs.drop i))
    (fun i => gs.length - i) 0 ⟨rfl, rfl, rfl, rfl, trivial⟩ ⟨Nat.zero_le _, ⟨_, (Mem.start w).alloc h1⟩, MapIs.empty h1.here, rfl⟩ ?_
  rintro i w2 ⟨hi, ⟨om, M2⟩, hmap, hloop⟩
  refine brE_dec (fun hlt => ?_) (fun hge => ?_)
  · have hlt : i < gs.length := by omega
    rw [gloop_at hlt] at hloop
    obtain ⟨b, o, hA, hrd⟩ := Reads.pair (hr.ext M2.ext) hlt
    refine ⟨i, b, o, rfl, hlt, hA, ?_⟩
    refine ⟨[.int .i64 gs[i].1, .int .i64 gs[i].2], rfl, hrd, ?_⟩
    intro g5 w3 h3
    have M3 := M2.alloc h3
    refine ⟨rfl, _, _, M3.get 0 rfl, Nat.le_of_ble_eq_true rfl, rfl, ?_⟩
    intro w4 h4
    have M4 : Mem w w4 [(g5, .cells #[.int .i64 gs[i].1, .int .i64 gs[i].2] 89 (0, 0)), (gm, om)] := M3.put 0 rfl h4
    have hmap4 : MapIs C.P 3 w4 gm (seenV ((gs.take i).map Prod.fst)) := (hmap.ext h3.ext).put h4 (by
      have := M2.lt (g := gm) (o := om) (by simp)
      rw [h3.new]; omega)
    refine ⟨_, M4.cell 0 rfl rfl, ?_⟩
    refine (isId_spec _ _).mono ?_
    rintro v w5 ⟨rfl, rfl⟩
    refine brE_mk (fun b1 => ?_) (fun b1 => ?_)
    · rw [Bool.not_eq_true'] at b1
      rw [b1, Bool.false_and, if_neg (by decide)] at hloop
      exact ⟨by rw [hloop], M4.ext⟩
    rw [Bool.not_eq_false'] at b1
    refine ⟨_, M4.cell 0 rfl rfl, ?_⟩
    refine (isId_spec _ _).mono ?_
    rintro v w5 ⟨rfl, rfl⟩
    refine brE_mk (fun b2 => ?_) (fun b2 => ?_)
    · rw [Bool.not_eq_true'] at b2
      rw [b2, Bool.and_false, if_neg (by decide)] at hloop
      exact ⟨by rw [hloop], M4.ext⟩
    rw [Bool.not_eq_false'] at b2
    rw [b1, b2, Bool.and_true, if_pos rfl] at hloop
    have hin := of_decide_eq_true b1
    have h64 : In64 gs[i].1 := ⟨by omega, by omega⟩
    have hget : (seenV ((gs.take i).map Prod.fst) (.int .i64 gs[i].1)).getD (.bool false) = .bool (decide (gs[i].1 ∈ (gs.take i).map Prod.fst)) := by
      rw [seenV_get]
      by_cases hm : gs[i].1 ∈ (gs.take i).map Prod.fst <;> simp only [hm, if_true, if_false, Option.getD_some, Option.getD_none, decide_true, decide_false]
    refine ⟨_, M4.cell 0 rfl rfl, ?_⟩
    refine ⟨.bool (decide (gs[i].1 ∈ (gs.take i).map Prod.fst)), mapGet1 C_ok (te := ty4) (x := .int .i64 gs[i].1) (intKey h64) hmap4 intK rfl rfl rfl rfl rfl rfl hget, ?_⟩
    refine brE_dec (fun hm => ?_) (fun hm => ?_)
    · rw [if_pos hm] at hloop
      exact ⟨by rw [hloop], M4.ext⟩
    rw [if_neg hm] at hloop
    refine ⟨_, M4.cell 0 rfl rfl, ?_⟩
    refine mapPut C_ok rfl rfl (x := .int .i64 gs[i].1) rfl rfl rfl rfl intK (intKey h64) hmap4 ?_
    intro o' w6 h6 hmap6
    have M6 := (M4.put 1 rfl h6).tail
    refine ⟨((i + 1 : Nat) : Int), fit ⟨by omega, by omega⟩, ?_⟩
    refine ⟨i + 1, ⟨rfl, rfl, rfl, rfl, trivial⟩, ⟨hlt, ⟨_, M6⟩, ?_, hloop⟩, by omega⟩
    rw [List.take_succ_eq_append_getElem hlt, List.map_append]
    show MapIs _ _ _ _ (seenV (_ ++ [gs[i].1]))
    rw [seenV_snoc]
    exact hmap6
  · have : i = gs.length := by omega
    subst this
    rw [List.drop_length] at hloop
    exact ⟨by rw [hloop]; rfl, M2.ext⟩

theorem refGuests_spec {w : World} {B : Option Addr} {gs : List (Int × Int)} {d : Nat} (hr : Reads w B (prCells gs)) :
    CallsV C.P 27 #[.slice B gs.length d] w fun v w' => v = .int .i64 (gchk gs) ∧ Ext w w' := by
  refine callsV_of C_ok (args := [_]) (plans := plans27) Try.func27 rfl Try.ntmps27 (by kernel_rfl) (Nat.le_of_ble_eq_true rfl) ?_
  refine brE_dec (fun hl => ?_) (fun hl => ?_)
  · have hl : (gs.length : Int) > 24 := hl
    exact ⟨by rw [gchk, if_pos (by omega)], Ext.refl _⟩
  have hl : ¬ (gs.length : Int) > 24 := hl
  have hg : gchk gs = gloop [] gs := by rw [gchk, if_neg (by omega)]
  rw [hg]
  refine loopE C_ok (fun (i : Nat) => [(0, .slice B gs.length d), (3, .int .i64 i)])
    (fun i w' => i ≤ gs.length ∧ w' = w ∧ gloop [] gs = gloop ((gs.take i).map Prod.fst) (gs.drop i))
    (fun i => gs.length - i) 0 ⟨rfl, rfl, trivial⟩ ⟨Nat.zero_le _, rfl, rfl⟩ ?_
  rintro i w2 ⟨hi, rfl, hloop⟩
  refine brE_dec (fun hlt => ?_) (fun hge => ?_)
  · have hlt : i < gs.length := by omega
    rw [gloop_at hlt] at hloop
    obtain ⟨b, o, hA, hrd⟩ := Reads.pair hr hlt
    have c0 : w2.cell? ⟨b, o + i * 2, none⟩ = some (.int .i64 gs[i].1) := by simpa using hrd 0 _ rfl
    have c1 : w2.cell? ⟨b, o + i * 2 + 1, none⟩ = some (.int .i64 gs[i].2) := by simpa using hrd 1 _ rfl
    refine ⟨i, b, o, rfl, hlt, hA, ?_⟩
    refine ⟨_, c0, ?_⟩
    refine (id_spec _ _).mono ?_
    rintro v w5 ⟨rfl, rfl⟩
    refine brE_mk (fun b1 => ?_) (fun b1 => ?_)
    · rw [Bool.not_eq_true'] at b1
      rw [b1, Bool.false_and, if_neg (by decide)] at hloop
      exact ⟨by rw [hloop], Ext.refl _⟩
    rw [Bool.not_eq_false'] at b1
    refine ⟨i, b, o, rfl, hlt, hA, ?_⟩
    refine ⟨_, c1, ?_⟩
    refine (id_spec _ _).mono ?_
    rintro v w5 ⟨rfl, rfl⟩
    refine brE_mk (fun b2 => ?_) (fun b2 => ?_)
    · rw [Bool.not_eq_true'] at b2
      rw [b2, Bool.and_false, if_neg (by decide)] at hloop
      exact ⟨by rw [hloop], Ext.refl _⟩
    rw [Bool.not_eq_false'] at b2
    rw [b1, b2, Bool.and_true, if_pos rfl] at hloop
    refine loopE C_ok (fun (k : Nat) => [(0, .slice B gs.length d), (3, .int .i64 i), (4, .int .i64 k)])
      (fun k w' => k ≤ i ∧ w' = w5 ∧ ∀ j (hj : j < gs.length), j < k → gs[j].1 ≠ gs[i].1) (fun k => i - k) 0 ⟨rfl, rfl, rfl, trivial⟩ ⟨Nat.zero_le _, rfl, fun _ _ h => absurd h (Nat.not_lt_zero _)⟩ ?_
    rintro k w6 ⟨hk, rfl, hno⟩
    refine brE_dec (fun hlt2 => ?_) (fun hge2 => ?_)
    · have hlt2 : k < i := by omega
      have hkl : k < gs.length := by omega
      obtain ⟨b', o', hA', hrd'⟩ := Reads.pair hr hkl
      refine ⟨k, b', o', rfl, hkl, hA', ?_⟩
      have c2 : w6.cell? ⟨b', o' + k * 2, none⟩ = some (.int .i64 gs[k].1) := by simpa using hrd' 0 _ rfl
      refine ⟨_, c2, ?_⟩
      refine ⟨i, b, o, rfl, hlt, hA, ?_⟩
      refine ⟨_, c0, ?_⟩
      refine brE_dec (fun he => ?_) (fun he => ?_)
      · have he : gs[k].1 = gs[i].1 := he
        have hm : gs[i].1 ∈ (gs.take i).map Prod.fst := List.mem_map.2 ⟨gs[k], List.mem_take_iff_getElem.2 ⟨k, by omega, rfl⟩, he⟩
        rw [if_pos hm] at hloop
        exact ⟨by rw [hloop], Ext.refl _⟩
      · have he : ¬ gs[k].1 = gs[i].1 := he
        refine ⟨((k + 1 : Nat) : Int), fit ⟨by omega, by omega⟩, ?_⟩
        refine ⟨k + 1, ⟨rfl, rfl, rfl, trivial⟩, ⟨hlt2, rfl, fun j hj hjk => ?_⟩, by omega⟩
        rcases Nat.lt_or_ge j k with h | h
        · exact hno j hj h
        · obtain rfl : j = k := by omega
          exact he
    · have : k = i := by omega
      subst this
      have hm : ¬ gs[k].1 ∈ (gs.take k).map Prod.fst := by
        intro hm
        obtain ⟨g, hg1, hg2⟩ := List.mem_map.1 hm
        obtain ⟨j, hj, rfl⟩ := List.mem_take_iff_getElem.1 hg1
        exact hno j (by omega) (by omega) hg2
      rw [if_neg hm] at hloop
      refine ⟨((k + 1 : Nat) : Int), fit ⟨by omega, by omega⟩, ?_⟩
      exact ⟨k + 1, ⟨rfl, rfl, trivial⟩, ⟨hlt, rfl, hloop⟩, by omega⟩
  · have : i = gs.length := by omega
    subst this
    rw [List.drop_length] at hloop
    exact ⟨by rw [hloop]; rfl, Ext.refl _⟩

end Go.Proofs.Ytdfhfehlmonjjaa
