/- Facts, the reference: how lines are read: the program (printed by tools/fguess.py). -/
import Derived.Test.YthpdkdmbfdmamaaGreatDoorGDc
import Derived.Test.YthpdkdmbfdmamaaGreatDoorGBe
import Derived.Test.YthpdkdmbfdmamaaGreatDoorGFe
set_option linter.unusedVariables false
set_option linter.unusedSimpArgs false
set_option linter.unnecessarySimpa false
set_option linter.unusedSectionVars false
namespace Go.Proofs.YthpdkdmbfdmamaaGreatDoor
open Go.Eng Go.RowKit

abbrev bs (l : List UInt8) : ByteArray := ⟨l.toArray⟩
theorem bs_list (l : List UInt8) : (bs l).data.toList = l := by simp
theorem bs_eq (s : ByteArray) : bs s.data.toList = s := ba_mk s

theorem cutW_hit : ∀ {l : List UInt8} {i : Nat} (hi : i < l.length), (∀ j (hj : j < l.length), j < i → l[j] ≠ 32) → l[i] = 32 → cutW l = (l.take i, l.drop (i + 1))
  | c :: r, 0, _, _, h => by
    have h : c = 32 := h
    rw [cutW, if_pos h]; rfl
  | c :: r, i + 1, hi, h1, h2 => by
    have hc : ¬ c = 32 := h1 0 (by simp) (by omega)
    have := cutW_hit (l := r) (i := i) (by simpa using hi) (fun j hj hji => by have := h1 (j + 1) (by simpa using hj) (by omega); simpa using this) (by simpa using h2)
    rw [cutW, if_neg hc, this]; rfl
theorem cutW_miss {l : List UInt8} (h : ∀ j (hj : j < l.length), l[j] ≠ 32) : cutW l = (l, []) := cutW_none fun hm => by
  obtain ⟨j, hj, e⟩ := List.getElem_of_mem hm
  exact h j hj e

set_option maxRecDepth 100000 in
theorem refword_spec (l : List UInt8) (hl : l.length ≤ 9223372036854775807) (w : World) :
    CallsV C.P 144 #[.string (bs l)] w fun v w' => v = .tuple #[.string (bs (cutW l).1), .string (bs (cutW l).2)] ∧ w' = w := by
  have hsz : (bs l).size = l.length := by show l.toArray.size = l.length; simp
  refine callsV_of C_ok (args := [_]) (plans := plans144) Tryz.func144 rfl Tryz.ntmps144 (by kernel_rfl) (Nat.le_of_ble_eq_true rfl) ?_
  refine loopE C_ok (fun (i : Nat) => [(0, .string (bs l)), (4, .int .i64 i)])
    (fun i w' => w' = w ∧ i ≤ l.length ∧ ∀ j (hj : j < l.length), j < i → l[j] ≠ 32) (fun i => l.length - i) 0 ⟨rfl, rfl, trivial⟩ ⟨rfl, Nat.zero_le _, fun j hj h => absurd h (Nat.not_lt_zero _)⟩ ?_
  rintro i w2 ⟨rfl, hi, hall⟩
  refine brE_dec (fun hlt => ?_) (fun hge => ?_)
  · have hlt : i < l.length := by have : (i : Int) < ((bs l).size : Nat) := hlt; omega
    have next : IntKind.i64.wrap ((i : Int) + 1) = ((i + 1 : Nat) : Int) := fit ⟨by omega, by omega⟩
    have hg : (bs l)[i]? = some l[i] := by rw [ba_get (by simpa using hlt)]
    refine ⟨i, l[i], rfl, hg, ?_⟩
    refine brE_dec (fun hc => ?_) (fun hc => ?_)
    · have hc : l[i] = 32 := eq32.2 hc
      refine ⟨0, i, rfl, rfl, Nat.zero_le _, by omega, ?_⟩
      refine ⟨((i + 1 : Nat) : Int), next, ?_⟩
      refine ⟨i + 1, (bs l).size, rfl, rfl, by omega, Nat.le_refl _, ?_⟩
      refine ⟨?_, rfl⟩
      rw [cutW_hit hlt hall hc, extract_list (bs l) 0 i (by omega), extract_list (bs l) (i + 1) (bs l).size (Nat.le_refl _), hsz]
      simp
    · have hc : l[i] ≠ 32 := fun e => hc (eq32.1 e)
      refine ⟨_, next, ?_⟩
      refine ⟨i + 1, ⟨rfl, rfl, trivial⟩, ⟨rfl, hlt, fun j hj hji => ?_⟩, by omega⟩
      rcases Nat.lt_or_ge j i with h | h
      · exact hall j hj h
      · obtain rfl : j = i := by omega
        exact hc
  · have : i = l.length := by have : ¬ (i : Int) < ((bs l).size : Nat) := hge; omega
    subst this
    rw [cutW_miss fun j hj => hall j hj hj]
    exact ⟨rfl, rfl⟩

theorem dec_app : ∀ (l : List UInt8) (a b : Nat) (r : List UInt8), Lib.decFrom a l = some b → Lib.decFrom a (l ++ r) = Lib.decFrom b r
  | [], a, b, r, h => by simp only [Lib.decFrom, Option.some.injEq] at h; rw [h]; rfl
  | c :: t, a, b, r, h => by
    simp only [Lib.decFrom, List.cons_append] at h ⊢
    cases hc : Lib.digitVal c with
    | none => rw [hc] at h; cases h
    | some d => rw [hc] at h; exact dec_app t _ _ _ h
theorem dec_step {l : List UInt8} {i n : Nat} (hi : i < l.length) (h : Lib.decFrom 0 (l.take i) = some n) (hd : 48 ≤ l[i].toNat ∧ l[i].toNat ≤ 57) : Lib.decFrom 0 (l.take (i + 1)) = some (10 * n + (l[i].toNat - 48)) := by
  rw [List.take_succ_eq_append_getElem hi, dec_app _ _ _ _ h]
  simp only [Lib.decFrom, Lib.digitVal, if_pos hd]
  congr 1; omega
theorem dec_stop {l : List UInt8} {i n : Nat} (hi : i < l.length) (h : Lib.decFrom 0 (l.take i) = some n) (hd : ¬ (48 ≤ l[i].toNat ∧ l[i].toNat ≤ 57)) : Lib.decFrom 0 l = none := by
  have e : l = l.take i ++ l[i] :: l.drop (i + 1) := by rw [← List.drop_eq_getElem_cons hi, List.take_append_drop]
  rw [e, dec_app _ _ _ _ h]
  simp only [Lib.decFrom, Lib.digitVal, if_neg hd]

set_option maxRecDepth 100000 in
theorem refnumber_spec (l : List UInt8) (hl : l.length ≤ 9223372036854775807) (w : World) :
    CallsV C.P 145 #[.string (bs l)] w fun v w' => v = .int .i64 (numR l) ∧ w' = w := by
  have hsz : (bs l).size = l.length := by show l.toArray.size = l.length; simp
  refine callsV_of C_ok (args := [_]) (plans := []) Tryz.func145 rfl Tryz.ntmps145 (by kernel_rfl) (Nat.le_of_ble_eq_true rfl) ?_
  refine loopE C_ok (fun (s : Nat × Nat) => [(0, .string (bs l)), (3, .int .i64 s.2), (4, .int .i64 s.1)])
    (fun s w' => w' = w ∧ s.1 ≤ l.length ∧ s.1 ≤ 7 ∧ Lib.decFrom 0 (l.take s.1) = some s.2) (fun s => l.length - s.1) (0, 0) ⟨rfl, rfl, rfl, trivial⟩ ⟨rfl, Nat.zero_le _, Nat.zero_le _, rfl⟩ ?_
  rintro ⟨i, n⟩ w2 ⟨rfl, hi', h7', hn'⟩
  have hi : i ≤ l.length := hi'
  have h7 : i ≤ 7 := h7'
  have hn : Lib.decFrom 0 (l.take i) = some n := hn'
  clear hi' h7' hn'
  have hb : n < 10000000 := by
    have h1 := Lib.decFrom_lt (l.take i) 0 n hn
    have h2 : 10 ^ (l.take i).length ≤ 10 ^ 7 := Nat.pow_le_pow_right (by decide) (by rw [List.length_take]; omega)
    have : n < 10 ^ 7 := by omega
    exact this
  refine brE_dec (fun hlt => ?_) (fun hge => ?_)
  · have hlt : i < l.length := by have : (i : Int) < ((bs l).size : Nat) := hlt; omega
    have next : IntKind.i64.wrap ((i : Int) + 1) = ((i + 1 : Nat) : Int) := fit ⟨by omega, by omega⟩
    have hg : (bs l)[i]? = some l[i] := by rw [ba_get (by simpa using hlt)]
    have bad : ¬ (48 ≤ l[i].toNat ∧ l[i].toNat ≤ 57) → Value.int .i64 0 = .int .i64 (numR l) ∧ w2 = w2 := fun h => ⟨by unfold numR; rw [dec_stop hlt hn h]; split <;> rfl, rfl⟩
    refine ⟨i, l[i], rfl, hg, ?_⟩
    refine brE_dec (fun c1 => ?_) (fun c1 => ?_)
    · exact bad (by have c1 : (l[i].toNat : Int) < 48 := c1; omega)
    have c1 : ¬ (l[i].toNat : Int) < 48 := c1
    refine ⟨i, l[i], rfl, hg, ?_⟩
    refine brE_dec (fun c2 => ?_) (fun c2 => ?_)
    · exact bad (by have c2 : (l[i].toNat : Int) > 57 := c2; omega)
    have c2 : ¬ (l[i].toNat : Int) > 57 := c2
    refine brE_dec (fun c3 => ?_) (fun c3 => ?_)
    · have c3 : (i : Int) > 6 := c3
      exact ⟨by unfold numR; rw [if_neg (by omega)], rfl⟩
    have c3 : ¬ (i : Int) > 6 := c3
    refine ⟨((10 * n : Nat) : Int), by rw [fit ⟨by omega, by omega⟩]; omega, ?_⟩
    refine ⟨i, l[i], rfl, hg, ?_⟩
    refine ⟨((l[i].toNat - 48 : Nat) : Int), by rw [IntWalk.u8_in _ ⟨by omega, by omega⟩]; omega, ?_⟩
    refine ⟨((l[i].toNat - 48 : Nat) : Int), fit ⟨by omega, by omega⟩, ?_⟩
    refine ⟨((10 * n + (l[i].toNat - 48) : Nat) : Int), by rw [fit ⟨by omega, by omega⟩]; omega, ?_⟩
    refine ⟨_, next, ?_⟩
    exact ⟨(i + 1, 10 * n + (l[i].toNat - 48)), ⟨rfl, rfl, rfl, trivial⟩, ⟨rfl, hlt, by show i + 1 ≤ 7; omega, dec_step hlt hn (by omega)⟩, by show l.length - (i + 1) < l.length - i; omega⟩
  · have : i = l.length := by have : ¬ (i : Int) < ((bs l).size : Nat) := hge; omega
    subst this
    rw [List.take_length] at hn
    exact ⟨by unfold numR; rw [if_pos h7, hn], rfl⟩

/-- The five numbers, and what stands behind each. -/
def numN (s : List UInt8) (i : Nat) : Int := numR (cutW (restN i s)).1
theorem restN_succ : ∀ (i : Nat) (s : List UInt8), restN (i + 1) s = (cutW (restN i s)).2
  | 0, _ => rfl
  | i + 1, s => restN_succ i (cutW s).2
theorem restN_length : ∀ (i : Nat) (s : List UInt8), (restN i s).length ≤ s.length
  | 0, _ => Nat.le_refl _
  | i + 1, s => Nat.le_trans (restN_length i (cutW s).2) (cutW_length s).2
def numsA (s : List UInt8) (i : Nat) : List Value := (List.range 5).map fun j => .int .i64 (if j < i then numN s j else 0)
def behA (s : List UInt8) (i : Nat) : List Value := (List.range 5).map fun j => .string (if j < i then bs (restN (j + 1) s) else ⟨#[]⟩)
theorem numsA_step (s : List UInt8) {i : Nat} (hi : i < 5) : splice (numsA s i) i [.int .i64 (numN s i)] = numsA s (i + 1) := by
  have : i = 0 ∨ i = 1 ∨ i = 2 ∨ i = 3 ∨ i = 4 := by omega
  rcases this with rfl | rfl | rfl | rfl | rfl <;> rfl
theorem behA_step (s : List UInt8) {i : Nat} (hi : i < 5) : splice (behA s i) i [.string (bs (restN (i + 1) s))] = behA s (i + 1) := by
  have : i = 0 ∨ i = 1 ∨ i = 2 ∨ i = 3 ∨ i = 4 := by omega
  rcases this with rfl | rfl | rfl | rfl | rfl <;> rfl
theorem fillG_offs : ∀ (os : List Nat) (x : Fact) (s : List UInt8) (i : Nat), fillG os x (restN i s) = (os.zipIdx i).foldl (fun y p => setF y p.1 (numN s p.2)) x
  | [], _, _, _ => rfl
  | o :: r, x, s, i => by
    rw [fillG, ← restN_succ, fillG_offs r]; rfl
theorem kind_str {k : Nat} {v : ByteArray} (h1 : 1 ≤ k) (h2 : k ≤ 11) (h : v = wordA k) : kindOf v.data.toList = k := by
  rw [h]; exact (kind_word h1 h2).1
theorem kindAt_none {v : List UInt8} : ∀ {ks : List Nat}, (∀ k ∈ ks, (wordA k).data.toList ≠ v) → kindAt v ks = 0
  | [], _ => rfl
  | k :: r, h => by
    unfold kindAt
    rw [if_neg (h k (by simp))]
    exact kindAt_none fun q hq => h q (by simp [hq])
theorem kind_none {v : List UInt8} (h : ∀ k, 1 ≤ k → k ≤ 11 → ¬ bs v = wordA k) : kindOf v = 0 := kindAt_none fun k hk e => h k (by simp at hk; omega) (by simp at hk; omega) (by rw [← e])

set_option maxRecDepth 100000 in
set_option maxHeartbeats 4000000 in
theorem refguess_spec (s0 : List UInt8) (hl : s0.length ≤ 9223372036854775807) (w : World) :
    CallsV C.P 97 #[.string (bs s0)] w fun v w' => v = (guessP s0).val ∧ Ext w w' := by
  refine callsV_of C_ok (args := [_]) (plans := plans97) Tryz.func97 rfl Tryz.ntmps97 (by kernel_rfl) (Nat.le_of_ble_eq_true rfl) ?_
  have l1 := cutW_length s0
  have l2 := cutW_length (cutW s0).2
  have l3 := cutW_length (cutW (cutW s0).2).2
  have hgs : guessP s0 = if kindOf (cutW (cutW (cutW s0).2).2).1 = 0 then ⟨numR (cutW s0).1, numR (cutW (cutW s0).2).1, kindOf (cutW (cutW (cutW s0).2).2).1, 0, 0, 0, 0, 0, ⟨#[]⟩⟩ else
      if kindOf (cutW (cutW (cutW s0).2).2).1 = 1 then { fillG (offs (kindOf (cutW (cutW (cutW s0).2).2).1)) ⟨numR (cutW s0).1, numR (cutW (cutW s0).2).1, kindOf (cutW (cutW (cutW s0).2).2).1, 0, 0, 0, 0, 0, ⟨#[]⟩⟩ (cutW (cutW (cutW s0).2).2).2 with name := ⟨(restN 4 (cutW (cutW (cutW s0).2).2).2).toArray⟩ }
      else fillG (offs (kindOf (cutW (cutW (cutW s0).2).2).1)) ⟨numR (cutW s0).1, numR (cutW (cutW s0).2).1, kindOf (cutW (cutW (cutW s0).2).2).1, 0, 0, 0, 0, 0, ⟨#[]⟩⟩ (cutW (cutW (cutW s0).2).2).2 := rfl
  rw [hgs]
  clear hgs
  intro g2 w1 h1
  have M1 := (Mem.start w).alloc h1
  refine (refword_spec s0 hl w1).mono ?_
  rintro _ w2 ⟨rfl, rfl⟩
  refine (refword_spec (cutW s0).2 (by omega) _).mono ?_
  rintro _ w2 ⟨rfl, rfl⟩
  refine (refword_spec (cutW (cutW s0).2).2 (by omega) _).mono ?_
  rintro _ w2 ⟨rfl, rfl⟩
  refine (refnumber_spec (cutW s0).1 (by omega) _).mono ?_
  rintro _ w2 ⟨rfl, rfl⟩
  refine (refnumber_spec (cutW (cutW s0).2).1 (by omega) _).mono ?_
  rintro _ w2 ⟨rfl, rfl⟩
  generalize numR (cutW s0).1 = a at *
  generalize numR (cutW (cutW s0).2).1 = b at *
  generalize hv : (cutW (cutW (cutW s0).2).2).1 = v at *
  generalize hs : (cutW (cutW (cutW s0).2).2).2 = s at *
  have hsl : s.length ≤ 9223372036854775807 := by omega
  clear l1 l2 l3 hv hs
  intro g9 w3 h3
  have M3 := M1.alloc h3
  refine ⟨rfl, _, _, M3.get 0 rfl, Nat.le_of_ble_eq_true rfl, rfl, ?_⟩
  intro w4 h4
  have M4 : Mem w w4 [(g9, .cells (⟨a, b, 0, 0, 0, 0, 0, 0, ⟨#[]⟩⟩ : Fact).cells.toArray 29 (0, 0)), (g2, .cells factZ.cells.toArray 29 (0, 0))] := M3.put 0 rfl h4
  intro g10 w5 h5
  have M5 := M4.alloc h5
  intro g11 w6 h6
  have M6 : Mem w w6 [(g11, .cells (behA s 0).toArray 151 (0, 0)), (g10, .cells (numsA s 0).toArray 150 (0, 0)), (g9, .cells (⟨a, b, 0, 0, 0, 0, 0, 0, ⟨#[]⟩⟩ : Fact).cells.toArray 29 (0, 0)), (g2, .cells factZ.cells.toArray 29 (0, 0))] := M5.alloc h6
  clear M5 M4 M3 M1 h6 h5 h4 h3 h1
  refine loopE C_ok (fun (i : Nat) => [(2, .pointer (some ⟨g2, 0, none⟩)), (7, .string (bs v)), (9, .pointer (some ⟨g9, 0, none⟩)), (10, .pointer (some ⟨g10, 0, none⟩)), (11, .pointer (some ⟨g11, 0, none⟩)), (12, .string (bs (restN i s))), (13, .int .i64 i)])
    (fun i w' => i ≤ 5 ∧ Mem w w' [(g11, .cells (behA s i).toArray 151 (0, 0)), (g10, .cells (numsA s i).toArray 150 (0, 0)), (g9, .cells (⟨a, b, 0, 0, 0, 0, 0, 0, ⟨#[]⟩⟩ : Fact).cells.toArray 29 (0, 0)), (g2, .cells factZ.cells.toArray 29 (0, 0))])
    (fun i => 5 - i) 0 ⟨rfl, rfl, rfl, rfl, rfl, rfl, rfl, trivial⟩ ⟨Nat.zero_le _, M6⟩ ?_
  rintro i w7 ⟨hi, M7⟩
  have hlA : (numsA s i).length = 5 := by simp [numsA]
  have hlB : (behA s i).length = 5 := by simp [behA]
  refine brE_dec (fun hlt => ?_) (fun hge => ?_)
  · have hlt : i < 5 := by have : (i : Int) < 5 := hlt; omega
    have lr := restN_length i s
    have lc := cutW_length (restN i s)
    refine (refword_spec (restN i s) (by omega) _).mono ?_
    rintro _ w8 ⟨rfl, rfl⟩
    refine (refnumber_spec (cutW (restN i s)).1 (by omega) _).mono ?_
    rintro _ w8 ⟨rfl, rfl⟩
    refine ⟨i, rfl, hlt, ?_⟩
    refine ⟨rfl, _, _, M7.get 1 rfl, by rw [hlA]; show 0 + i * 1 + 1 ≤ 5; omega, rfl, ?_⟩
    intro w9 h9
    have M9 : Mem w w9 [(g11, .cells (behA s i).toArray 151 (0, 0)), (g10, .cells (numsA s (i + 1)).toArray 150 (0, 0)), (g9, .cells (⟨a, b, 0, 0, 0, 0, 0, 0, ⟨#[]⟩⟩ : Fact).cells.toArray 29 (0, 0)), (g2, .cells factZ.cells.toArray 29 (0, 0))] := by
      have := M7.put 1 rfl (put_eq h9 (o' := .cells (numsA s (i + 1)).toArray 150 (0, 0)) (by
        rw [← numsA_step s hlt]
        show Obj.cells (splice (numsA s i) (0 + i * 1) [.int .i64 (numN s i)]).toArray _ _ = _
        rw [Nat.zero_add, Nat.mul_one]))
      exact this
    refine ⟨i, rfl, hlt, ?_⟩
    refine ⟨rfl, _, _, M9.get 0 rfl, by rw [hlB]; show 0 + i * 1 + 1 ≤ 5; omega, rfl, ?_⟩
    intro w10 h10
    have M10 : Mem w w10 [(g11, .cells (behA s (i + 1)).toArray 151 (0, 0)), (g10, .cells (numsA s (i + 1)).toArray 150 (0, 0)), (g9, .cells (⟨a, b, 0, 0, 0, 0, 0, 0, ⟨#[]⟩⟩ : Fact).cells.toArray 29 (0, 0)), (g2, .cells factZ.cells.toArray 29 (0, 0))] := by
      have := M9.put 0 rfl (put_eq h10 (o' := .cells (behA s (i + 1)).toArray 151 (0, 0)) (by
        rw [← behA_step s hlt, restN_succ]
        show Obj.cells (splice (behA s i) (0 + i * 1) [.string (bs (cutW (restN i s)).2)]).toArray _ _ = _
        rw [Nat.zero_add, Nat.mul_one]))
      exact this
    refine ⟨((i + 1 : Nat) : Int), fit ⟨by omega, by omega⟩, ?_⟩
    exact ⟨i + 1, ⟨rfl, rfl, rfl, rfl, rfl, by show _ = some (Value.string (bs (restN (i + 1) s))); rw [restN_succ]; rfl, rfl, trivial⟩, ⟨hlt, M10⟩, by omega⟩
  · have : i = 5 := by have : ¬ (i : Int) < 5 := hge; omega
    subst this
    clear hge hi hlA hlB M6
    have hne10 : g10 ≠ g9 := fun e => by
      have := M7.nodup
      simp [e] at this
    have hne11 : g11 ≠ g9 := fun e => by
      have := M7.nodup
      simp [e] at this
    refine ⟨_, eqStr _ _ (bs v) (wordA 1), ?_⟩
    refine brE_dec (fun q1 => ?_) (fun q1 => ?_)
    · have q1 : bs v = wordA 1 := q1
      have hk : kindOf v = 1 := by rw [← bs_list v]; exact kind_str (by decide) (by decide) q1
      rw [hk]
      refine ⟨fun q => q ≠ g9, ?_⟩
      refine ⟨0, rfl, by decide, ?_⟩
      refine ⟨.int .i64 (numN s 0), fun u hu => ⟨_, hu.cell hne10 (M7.cell 1 (i := 0) rfl rfl), rfl⟩, ?_⟩
      refine ⟨1, rfl, by decide, ?_⟩
      refine ⟨.int .i64 (numN s 1), fun u hu => ⟨_, hu.cell hne10 (M7.cell 1 (i := 1) rfl rfl), rfl⟩, ?_⟩
      refine ⟨2, rfl, by decide, ?_⟩
      refine ⟨.int .i64 (numN s 2), fun u hu => ⟨_, hu.cell hne10 (M7.cell 1 (i := 2) rfl rfl), rfl⟩, ?_⟩
      refine ⟨3, rfl, by decide, ?_⟩
      refine ⟨.int .i64 (numN s 3), fun u hu => ⟨_, hu.cell hne10 (M7.cell 1 (i := 3) rfl rfl), rfl⟩, ?_⟩
      refine ⟨3, rfl, by decide, ?_⟩
      refine ⟨.string (bs (restN 4 s)), fun u hu => ⟨_, hu.cell hne11 (M7.cell 0 (i := 3) rfl rfl), rfl⟩, ?_⟩
      refine ⟨rfl, _, _, M7.get 2 rfl, Nat.le_of_ble_eq_true rfl, rfl, ?_⟩
      intro v0 s0
      have N0 := M7.put 2 rfl s0
      have kp0 : Keep (fun q => q ≠ g9) w7 v0 := (Keep.refl _ w7).put s0 (fun h => h rfl)
      refine ⟨kp0, ?_⟩
      refine ⟨rfl, _, _, N0.get 2 rfl, Nat.le_of_ble_eq_true rfl, rfl, ?_⟩
      intro v1 s1
      have N1 := N0.put 2 rfl s1
      have kp1 : Keep (fun q => q ≠ g9) w7 v1 := kp0.put s1 (fun h => h rfl)
      refine ⟨kp1, ?_⟩
      refine ⟨rfl, _, _, N1.get 2 rfl, Nat.le_of_ble_eq_true rfl, rfl, ?_⟩
      intro v2 s2
      have N2 := N1.put 2 rfl s2
      have kp2 : Keep (fun q => q ≠ g9) w7 v2 := kp1.put s2 (fun h => h rfl)
      refine ⟨kp2, ?_⟩
      refine ⟨rfl, _, _, N2.get 2 rfl, Nat.le_of_ble_eq_true rfl, rfl, ?_⟩
      intro v3 s3
      have N3 := N2.put 2 rfl s3
      have kp3 : Keep (fun q => q ≠ g9) w7 v3 := kp2.put s3 (fun h => h rfl)
      refine ⟨kp3, ?_⟩
      refine ⟨rfl, _, _, N3.get 2 rfl, Nat.le_of_ble_eq_true rfl, rfl, ?_⟩
      intro v4 s4
      have N4 := N3.put 2 rfl s4
      have kp4 : Keep (fun q => q ≠ g9) w7 v4 := kp3.put s4 (fun h => h rfl)
      refine ⟨kp4, ?_⟩
      refine ⟨rfl, _, _, N4.get 2 rfl, Nat.le_of_ble_eq_true rfl, rfl, ?_⟩
      intro v5 s5
      have N5 := N4.put 2 rfl s5
      have N : Mem w v5 [(g11, .cells (behA s 5).toArray 151 (0, 0)), (g10, .cells (numsA s 5).toArray 150 (0, 0)), (g9, .cells (⟨a, b, 1, numN s 0, 0, numN s 1, numN s 2, numN s 3, bs (restN 4 s)⟩ : Fact).cells.toArray 29 (0, 0)), (g2, .cells factZ.cells.toArray 29 (0, 0))] := N5
      refine ⟨(⟨a, b, 1, numN s 0, 0, numN s 1, numN s 2, numN s 3, bs (restN 4 s)⟩ : Fact).cells, rfl, N.rd 2 rfl, ?_⟩
      refine ⟨rfl, _, _, N.get 3 rfl, Nat.le_of_ble_eq_true rfl, rfl, ?_⟩
      intro wE hE
      have NE : Mem w wE [(g11, .cells (behA s 5).toArray 151 (0, 0)), (g10, .cells (numsA s 5).toArray 150 (0, 0)), (g9, .cells (⟨a, b, 1, numN s 0, 0, numN s 1, numN s 2, numN s 3, bs (restN 4 s)⟩ : Fact).cells.toArray 29 (0, 0)), (g2, .cells (⟨a, b, 1, numN s 0, 0, numN s 1, numN s 2, numN s 3, bs (restN 4 s)⟩ : Fact).cells.toArray 29 (0, 0))] := N.put 3 rfl hE
      exact ⟨(⟨a, b, 1, numN s 0, 0, numN s 1, numN s 2, numN s 3, bs (restN 4 s)⟩ : Fact).cells, rfl, NE.rd 3 rfl, rfl, NE.ext⟩
    have q1 : ¬ bs v = wordA 1 := q1
    refine ⟨_, eqStr _ _ (bs v) (wordA 2), ?_⟩
    refine brE_dec (fun q2 => ?_) (fun q2 => ?_)
    · have q2 : bs v = wordA 2 := q2
      have hk : kindOf v = 2 := by rw [← bs_list v]; exact kind_str (by decide) (by decide) q2
      rw [hk]
      refine ⟨fun q => q ≠ g9, ?_⟩
      refine ⟨0, rfl, by decide, ?_⟩
      refine ⟨.int .i64 (numN s 0), fun u hu => ⟨_, hu.cell hne10 (M7.cell 1 (i := 0) rfl rfl), rfl⟩, ?_⟩
      refine ⟨1, rfl, by decide, ?_⟩
      refine ⟨.int .i64 (numN s 1), fun u hu => ⟨_, hu.cell hne10 (M7.cell 1 (i := 1) rfl rfl), rfl⟩, ?_⟩
      refine ⟨2, rfl, by decide, ?_⟩
      refine ⟨.int .i64 (numN s 2), fun u hu => ⟨_, hu.cell hne10 (M7.cell 1 (i := 2) rfl rfl), rfl⟩, ?_⟩
      refine ⟨3, rfl, by decide, ?_⟩
      refine ⟨.int .i64 (numN s 3), fun u hu => ⟨_, hu.cell hne10 (M7.cell 1 (i := 3) rfl rfl), rfl⟩, ?_⟩
      refine ⟨4, rfl, by decide, ?_⟩
      refine ⟨.int .i64 (numN s 4), fun u hu => ⟨_, hu.cell hne10 (M7.cell 1 (i := 4) rfl rfl), rfl⟩, ?_⟩
      refine ⟨rfl, _, _, M7.get 2 rfl, Nat.le_of_ble_eq_true rfl, rfl, ?_⟩
      intro v0 s0
      have N0 := M7.put 2 rfl s0
      have kp0 : Keep (fun q => q ≠ g9) w7 v0 := (Keep.refl _ w7).put s0 (fun h => h rfl)
      refine ⟨kp0, ?_⟩
      refine ⟨rfl, _, _, N0.get 2 rfl, Nat.le_of_ble_eq_true rfl, rfl, ?_⟩
      intro v1 s1
      have N1 := N0.put 2 rfl s1
      have kp1 : Keep (fun q => q ≠ g9) w7 v1 := kp0.put s1 (fun h => h rfl)
      refine ⟨kp1, ?_⟩
      refine ⟨rfl, _, _, N1.get 2 rfl, Nat.le_of_ble_eq_true rfl, rfl, ?_⟩
      intro v2 s2
      have N2 := N1.put 2 rfl s2
      have kp2 : Keep (fun q => q ≠ g9) w7 v2 := kp1.put s2 (fun h => h rfl)
      refine ⟨kp2, ?_⟩
      refine ⟨rfl, _, _, N2.get 2 rfl, Nat.le_of_ble_eq_true rfl, rfl, ?_⟩
      intro v3 s3
      have N3 := N2.put 2 rfl s3
      have kp3 : Keep (fun q => q ≠ g9) w7 v3 := kp2.put s3 (fun h => h rfl)
      refine ⟨kp3, ?_⟩
      refine ⟨rfl, _, _, N3.get 2 rfl, Nat.le_of_ble_eq_true rfl, rfl, ?_⟩
      intro v4 s4
      have N4 := N3.put 2 rfl s4
      have kp4 : Keep (fun q => q ≠ g9) w7 v4 := kp3.put s4 (fun h => h rfl)
      refine ⟨kp4, ?_⟩
      refine ⟨rfl, _, _, N4.get 2 rfl, Nat.le_of_ble_eq_true rfl, rfl, ?_⟩
      intro v5 s5
      have N5 := N4.put 2 rfl s5
      have N : Mem w v5 [(g11, .cells (behA s 5).toArray 151 (0, 0)), (g10, .cells (numsA s 5).toArray 150 (0, 0)), (g9, .cells (⟨a, b, 2, numN s 0, numN s 1, numN s 2, numN s 3, numN s 4, ⟨#[]⟩⟩ : Fact).cells.toArray 29 (0, 0)), (g2, .cells factZ.cells.toArray 29 (0, 0))] := N5
      refine ⟨(⟨a, b, 2, numN s 0, numN s 1, numN s 2, numN s 3, numN s 4, ⟨#[]⟩⟩ : Fact).cells, rfl, N.rd 2 rfl, ?_⟩
      refine ⟨rfl, _, _, N.get 3 rfl, Nat.le_of_ble_eq_true rfl, rfl, ?_⟩
      intro wE hE
      have NE : Mem w wE [(g11, .cells (behA s 5).toArray 151 (0, 0)), (g10, .cells (numsA s 5).toArray 150 (0, 0)), (g9, .cells (⟨a, b, 2, numN s 0, numN s 1, numN s 2, numN s 3, numN s 4, ⟨#[]⟩⟩ : Fact).cells.toArray 29 (0, 0)), (g2, .cells (⟨a, b, 2, numN s 0, numN s 1, numN s 2, numN s 3, numN s 4, ⟨#[]⟩⟩ : Fact).cells.toArray 29 (0, 0))] := N.put 3 rfl hE
      exact ⟨(⟨a, b, 2, numN s 0, numN s 1, numN s 2, numN s 3, numN s 4, ⟨#[]⟩⟩ : Fact).cells, rfl, NE.rd 3 rfl, rfl, NE.ext⟩
    have q2 : ¬ bs v = wordA 2 := q2
    refine ⟨_, eqStr _ _ (bs v) (wordA 3), ?_⟩
    refine brE_dec (fun q3 => ?_) (fun q3 => ?_)
    · have q3 : bs v = wordA 3 := q3
      have hk : kindOf v = 3 := by rw [← bs_list v]; exact kind_str (by decide) (by decide) q3
      rw [hk]
      refine ⟨fun q => q ≠ g9, ?_⟩
      refine ⟨0, rfl, by decide, ?_⟩
      refine ⟨.int .i64 (numN s 0), fun u hu => ⟨_, hu.cell hne10 (M7.cell 1 (i := 0) rfl rfl), rfl⟩, ?_⟩
      refine ⟨1, rfl, by decide, ?_⟩
      refine ⟨.int .i64 (numN s 1), fun u hu => ⟨_, hu.cell hne10 (M7.cell 1 (i := 1) rfl rfl), rfl⟩, ?_⟩
      refine ⟨2, rfl, by decide, ?_⟩
      refine ⟨.int .i64 (numN s 2), fun u hu => ⟨_, hu.cell hne10 (M7.cell 1 (i := 2) rfl rfl), rfl⟩, ?_⟩
      refine ⟨3, rfl, by decide, ?_⟩
      refine ⟨.int .i64 (numN s 3), fun u hu => ⟨_, hu.cell hne10 (M7.cell 1 (i := 3) rfl rfl), rfl⟩, ?_⟩
      refine ⟨4, rfl, by decide, ?_⟩
      refine ⟨.int .i64 (numN s 4), fun u hu => ⟨_, hu.cell hne10 (M7.cell 1 (i := 4) rfl rfl), rfl⟩, ?_⟩
      refine ⟨rfl, _, _, M7.get 2 rfl, Nat.le_of_ble_eq_true rfl, rfl, ?_⟩
      intro v0 s0
      have N0 := M7.put 2 rfl s0
      have kp0 : Keep (fun q => q ≠ g9) w7 v0 := (Keep.refl _ w7).put s0 (fun h => h rfl)
      refine ⟨kp0, ?_⟩
      refine ⟨rfl, _, _, N0.get 2 rfl, Nat.le_of_ble_eq_true rfl, rfl, ?_⟩
      intro v1 s1
      have N1 := N0.put 2 rfl s1
      have kp1 : Keep (fun q => q ≠ g9) w7 v1 := kp0.put s1 (fun h => h rfl)
      refine ⟨kp1, ?_⟩
      refine ⟨rfl, _, _, N1.get 2 rfl, Nat.le_of_ble_eq_true rfl, rfl, ?_⟩
      intro v2 s2
      have N2 := N1.put 2 rfl s2
      have kp2 : Keep (fun q => q ≠ g9) w7 v2 := kp1.put s2 (fun h => h rfl)
      refine ⟨kp2, ?_⟩
      refine ⟨rfl, _, _, N2.get 2 rfl, Nat.le_of_ble_eq_true rfl, rfl, ?_⟩
      intro v3 s3
      have N3 := N2.put 2 rfl s3
      have kp3 : Keep (fun q => q ≠ g9) w7 v3 := kp2.put s3 (fun h => h rfl)
      refine ⟨kp3, ?_⟩
      refine ⟨rfl, _, _, N3.get 2 rfl, Nat.le_of_ble_eq_true rfl, rfl, ?_⟩
      intro v4 s4
      have N4 := N3.put 2 rfl s4
      have kp4 : Keep (fun q => q ≠ g9) w7 v4 := kp3.put s4 (fun h => h rfl)
      refine ⟨kp4, ?_⟩
      refine ⟨rfl, _, _, N4.get 2 rfl, Nat.le_of_ble_eq_true rfl, rfl, ?_⟩
      intro v5 s5
      have N5 := N4.put 2 rfl s5
      have N : Mem w v5 [(g11, .cells (behA s 5).toArray 151 (0, 0)), (g10, .cells (numsA s 5).toArray 150 (0, 0)), (g9, .cells (⟨a, b, 3, numN s 0, numN s 1, numN s 2, numN s 3, numN s 4, ⟨#[]⟩⟩ : Fact).cells.toArray 29 (0, 0)), (g2, .cells factZ.cells.toArray 29 (0, 0))] := N5
      refine ⟨(⟨a, b, 3, numN s 0, numN s 1, numN s 2, numN s 3, numN s 4, ⟨#[]⟩⟩ : Fact).cells, rfl, N.rd 2 rfl, ?_⟩
      refine ⟨rfl, _, _, N.get 3 rfl, Nat.le_of_ble_eq_true rfl, rfl, ?_⟩
      intro wE hE
      have NE : Mem w wE [(g11, .cells (behA s 5).toArray 151 (0, 0)), (g10, .cells (numsA s 5).toArray 150 (0, 0)), (g9, .cells (⟨a, b, 3, numN s 0, numN s 1, numN s 2, numN s 3, numN s 4, ⟨#[]⟩⟩ : Fact).cells.toArray 29 (0, 0)), (g2, .cells (⟨a, b, 3, numN s 0, numN s 1, numN s 2, numN s 3, numN s 4, ⟨#[]⟩⟩ : Fact).cells.toArray 29 (0, 0))] := N.put 3 rfl hE
      exact ⟨(⟨a, b, 3, numN s 0, numN s 1, numN s 2, numN s 3, numN s 4, ⟨#[]⟩⟩ : Fact).cells, rfl, NE.rd 3 rfl, rfl, NE.ext⟩
    have q3 : ¬ bs v = wordA 3 := q3
    refine ⟨_, eqStr _ _ (bs v) (wordA 4), ?_⟩
    refine brE_dec (fun q4 => ?_) (fun q4 => ?_)
    · have q4 : bs v = wordA 4 := q4
      have hk : kindOf v = 4 := by rw [← bs_list v]; exact kind_str (by decide) (by decide) q4
      rw [hk]
      refine ⟨fun q => q ≠ g9, ?_⟩
      refine ⟨0, rfl, by decide, ?_⟩
      refine ⟨.int .i64 (numN s 0), fun u hu => ⟨_, hu.cell hne10 (M7.cell 1 (i := 0) rfl rfl), rfl⟩, ?_⟩
      refine ⟨1, rfl, by decide, ?_⟩
      refine ⟨.int .i64 (numN s 1), fun u hu => ⟨_, hu.cell hne10 (M7.cell 1 (i := 1) rfl rfl), rfl⟩, ?_⟩
      refine ⟨2, rfl, by decide, ?_⟩
      refine ⟨.int .i64 (numN s 2), fun u hu => ⟨_, hu.cell hne10 (M7.cell 1 (i := 2) rfl rfl), rfl⟩, ?_⟩
      refine ⟨3, rfl, by decide, ?_⟩
      refine ⟨.int .i64 (numN s 3), fun u hu => ⟨_, hu.cell hne10 (M7.cell 1 (i := 3) rfl rfl), rfl⟩, ?_⟩
      refine ⟨4, rfl, by decide, ?_⟩
      refine ⟨.int .i64 (numN s 4), fun u hu => ⟨_, hu.cell hne10 (M7.cell 1 (i := 4) rfl rfl), rfl⟩, ?_⟩
      refine ⟨rfl, _, _, M7.get 2 rfl, Nat.le_of_ble_eq_true rfl, rfl, ?_⟩
      intro v0 s0
      have N0 := M7.put 2 rfl s0
      have kp0 : Keep (fun q => q ≠ g9) w7 v0 := (Keep.refl _ w7).put s0 (fun h => h rfl)
      refine ⟨kp0, ?_⟩
      refine ⟨rfl, _, _, N0.get 2 rfl, Nat.le_of_ble_eq_true rfl, rfl, ?_⟩
      intro v1 s1
      have N1 := N0.put 2 rfl s1
      have kp1 : Keep (fun q => q ≠ g9) w7 v1 := kp0.put s1 (fun h => h rfl)
      refine ⟨kp1, ?_⟩
      refine ⟨rfl, _, _, N1.get 2 rfl, Nat.le_of_ble_eq_true rfl, rfl, ?_⟩
      intro v2 s2
      have N2 := N1.put 2 rfl s2
      have kp2 : Keep (fun q => q ≠ g9) w7 v2 := kp1.put s2 (fun h => h rfl)
      refine ⟨kp2, ?_⟩
      refine ⟨rfl, _, _, N2.get 2 rfl, Nat.le_of_ble_eq_true rfl, rfl, ?_⟩
      intro v3 s3
      have N3 := N2.put 2 rfl s3
      have kp3 : Keep (fun q => q ≠ g9) w7 v3 := kp2.put s3 (fun h => h rfl)
      refine ⟨kp3, ?_⟩
      refine ⟨rfl, _, _, N3.get 2 rfl, Nat.le_of_ble_eq_true rfl, rfl, ?_⟩
      intro v4 s4
      have N4 := N3.put 2 rfl s4
      have kp4 : Keep (fun q => q ≠ g9) w7 v4 := kp3.put s4 (fun h => h rfl)
      refine ⟨kp4, ?_⟩
      refine ⟨rfl, _, _, N4.get 2 rfl, Nat.le_of_ble_eq_true rfl, rfl, ?_⟩
      intro v5 s5
      have N5 := N4.put 2 rfl s5
      have N : Mem w v5 [(g11, .cells (behA s 5).toArray 151 (0, 0)), (g10, .cells (numsA s 5).toArray 150 (0, 0)), (g9, .cells (⟨a, b, 4, numN s 0, numN s 1, numN s 2, numN s 3, numN s 4, ⟨#[]⟩⟩ : Fact).cells.toArray 29 (0, 0)), (g2, .cells factZ.cells.toArray 29 (0, 0))] := N5
      refine ⟨(⟨a, b, 4, numN s 0, numN s 1, numN s 2, numN s 3, numN s 4, ⟨#[]⟩⟩ : Fact).cells, rfl, N.rd 2 rfl, ?_⟩
      refine ⟨rfl, _, _, N.get 3 rfl, Nat.le_of_ble_eq_true rfl, rfl, ?_⟩
      intro wE hE
      have NE : Mem w wE [(g11, .cells (behA s 5).toArray 151 (0, 0)), (g10, .cells (numsA s 5).toArray 150 (0, 0)), (g9, .cells (⟨a, b, 4, numN s 0, numN s 1, numN s 2, numN s 3, numN s 4, ⟨#[]⟩⟩ : Fact).cells.toArray 29 (0, 0)), (g2, .cells (⟨a, b, 4, numN s 0, numN s 1, numN s 2, numN s 3, numN s 4, ⟨#[]⟩⟩ : Fact).cells.toArray 29 (0, 0))] := N.put 3 rfl hE
      exact ⟨(⟨a, b, 4, numN s 0, numN s 1, numN s 2, numN s 3, numN s 4, ⟨#[]⟩⟩ : Fact).cells, rfl, NE.rd 3 rfl, rfl, NE.ext⟩
    have q4 : ¬ bs v = wordA 4 := q4
    refine ⟨_, eqStr _ _ (bs v) (wordA 5), ?_⟩
    refine brE_dec (fun q5 => ?_) (fun q5 => ?_)
    · have q5 : bs v = wordA 5 := q5
      have hk : kindOf v = 5 := by rw [← bs_list v]; exact kind_str (by decide) (by decide) q5
      rw [hk]
      refine ⟨fun q => q ≠ g9, ?_⟩
      refine ⟨0, rfl, by decide, ?_⟩
      refine ⟨.int .i64 (numN s 0), fun u hu => ⟨_, hu.cell hne10 (M7.cell 1 (i := 0) rfl rfl), rfl⟩, ?_⟩
      refine ⟨1, rfl, by decide, ?_⟩
      refine ⟨.int .i64 (numN s 1), fun u hu => ⟨_, hu.cell hne10 (M7.cell 1 (i := 1) rfl rfl), rfl⟩, ?_⟩
      refine ⟨2, rfl, by decide, ?_⟩
      refine ⟨.int .i64 (numN s 2), fun u hu => ⟨_, hu.cell hne10 (M7.cell 1 (i := 2) rfl rfl), rfl⟩, ?_⟩
      refine ⟨3, rfl, by decide, ?_⟩
      refine ⟨.int .i64 (numN s 3), fun u hu => ⟨_, hu.cell hne10 (M7.cell 1 (i := 3) rfl rfl), rfl⟩, ?_⟩
      refine ⟨rfl, _, _, M7.get 2 rfl, Nat.le_of_ble_eq_true rfl, rfl, ?_⟩
      intro v0 s0
      have N0 := M7.put 2 rfl s0
      have kp0 : Keep (fun q => q ≠ g9) w7 v0 := (Keep.refl _ w7).put s0 (fun h => h rfl)
      refine ⟨kp0, ?_⟩
      refine ⟨rfl, _, _, N0.get 2 rfl, Nat.le_of_ble_eq_true rfl, rfl, ?_⟩
      intro v1 s1
      have N1 := N0.put 2 rfl s1
      have kp1 : Keep (fun q => q ≠ g9) w7 v1 := kp0.put s1 (fun h => h rfl)
      refine ⟨kp1, ?_⟩
      refine ⟨rfl, _, _, N1.get 2 rfl, Nat.le_of_ble_eq_true rfl, rfl, ?_⟩
      intro v2 s2
      have N2 := N1.put 2 rfl s2
      have kp2 : Keep (fun q => q ≠ g9) w7 v2 := kp1.put s2 (fun h => h rfl)
      refine ⟨kp2, ?_⟩
      refine ⟨rfl, _, _, N2.get 2 rfl, Nat.le_of_ble_eq_true rfl, rfl, ?_⟩
      intro v3 s3
      have N3 := N2.put 2 rfl s3
      have kp3 : Keep (fun q => q ≠ g9) w7 v3 := kp2.put s3 (fun h => h rfl)
      refine ⟨kp3, ?_⟩
      refine ⟨rfl, _, _, N3.get 2 rfl, Nat.le_of_ble_eq_true rfl, rfl, ?_⟩
      intro v4 s4
      have N4 := N3.put 2 rfl s4
      have N : Mem w v4 [(g11, .cells (behA s 5).toArray 151 (0, 0)), (g10, .cells (numsA s 5).toArray 150 (0, 0)), (g9, .cells (⟨a, b, 5, numN s 0, numN s 1, 0, numN s 2, numN s 3, ⟨#[]⟩⟩ : Fact).cells.toArray 29 (0, 0)), (g2, .cells factZ.cells.toArray 29 (0, 0))] := N4
      refine ⟨(⟨a, b, 5, numN s 0, numN s 1, 0, numN s 2, numN s 3, ⟨#[]⟩⟩ : Fact).cells, rfl, N.rd 2 rfl, ?_⟩
      refine ⟨rfl, _, _, N.get 3 rfl, Nat.le_of_ble_eq_true rfl, rfl, ?_⟩
      intro wE hE
      have NE : Mem w wE [(g11, .cells (behA s 5).toArray 151 (0, 0)), (g10, .cells (numsA s 5).toArray 150 (0, 0)), (g9, .cells (⟨a, b, 5, numN s 0, numN s 1, 0, numN s 2, numN s 3, ⟨#[]⟩⟩ : Fact).cells.toArray 29 (0, 0)), (g2, .cells (⟨a, b, 5, numN s 0, numN s 1, 0, numN s 2, numN s 3, ⟨#[]⟩⟩ : Fact).cells.toArray 29 (0, 0))] := N.put 3 rfl hE
      exact ⟨(⟨a, b, 5, numN s 0, numN s 1, 0, numN s 2, numN s 3, ⟨#[]⟩⟩ : Fact).cells, rfl, NE.rd 3 rfl, rfl, NE.ext⟩
    have q5 : ¬ bs v = wordA 5 := q5
    refine ⟨_, eqStr _ _ (bs v) (wordA 6), ?_⟩
    refine brE_dec (fun q6 => ?_) (fun q6 => ?_)
    · have q6 : bs v = wordA 6 := q6
      have hk : kindOf v = 6 := by rw [← bs_list v]; exact kind_str (by decide) (by decide) q6
      rw [hk]
      refine ⟨fun q => q ≠ g9, ?_⟩
      refine ⟨0, rfl, by decide, ?_⟩
      refine ⟨.int .i64 (numN s 0), fun u hu => ⟨_, hu.cell hne10 (M7.cell 1 (i := 0) rfl rfl), rfl⟩, ?_⟩
      refine ⟨1, rfl, by decide, ?_⟩
      refine ⟨.int .i64 (numN s 1), fun u hu => ⟨_, hu.cell hne10 (M7.cell 1 (i := 1) rfl rfl), rfl⟩, ?_⟩
      refine ⟨2, rfl, by decide, ?_⟩
      refine ⟨.int .i64 (numN s 2), fun u hu => ⟨_, hu.cell hne10 (M7.cell 1 (i := 2) rfl rfl), rfl⟩, ?_⟩
      refine ⟨3, rfl, by decide, ?_⟩
      refine ⟨.int .i64 (numN s 3), fun u hu => ⟨_, hu.cell hne10 (M7.cell 1 (i := 3) rfl rfl), rfl⟩, ?_⟩
      refine ⟨rfl, _, _, M7.get 2 rfl, Nat.le_of_ble_eq_true rfl, rfl, ?_⟩
      intro v0 s0
      have N0 := M7.put 2 rfl s0
      have kp0 : Keep (fun q => q ≠ g9) w7 v0 := (Keep.refl _ w7).put s0 (fun h => h rfl)
      refine ⟨kp0, ?_⟩
      refine ⟨rfl, _, _, N0.get 2 rfl, Nat.le_of_ble_eq_true rfl, rfl, ?_⟩
      intro v1 s1
      have N1 := N0.put 2 rfl s1
      have kp1 : Keep (fun q => q ≠ g9) w7 v1 := kp0.put s1 (fun h => h rfl)
      refine ⟨kp1, ?_⟩
      refine ⟨rfl, _, _, N1.get 2 rfl, Nat.le_of_ble_eq_true rfl, rfl, ?_⟩
      intro v2 s2
      have N2 := N1.put 2 rfl s2
      have kp2 : Keep (fun q => q ≠ g9) w7 v2 := kp1.put s2 (fun h => h rfl)
      refine ⟨kp2, ?_⟩
      refine ⟨rfl, _, _, N2.get 2 rfl, Nat.le_of_ble_eq_true rfl, rfl, ?_⟩
      intro v3 s3
      have N3 := N2.put 2 rfl s3
      have kp3 : Keep (fun q => q ≠ g9) w7 v3 := kp2.put s3 (fun h => h rfl)
      refine ⟨kp3, ?_⟩
      refine ⟨rfl, _, _, N3.get 2 rfl, Nat.le_of_ble_eq_true rfl, rfl, ?_⟩
      intro v4 s4
      have N4 := N3.put 2 rfl s4
      have N : Mem w v4 [(g11, .cells (behA s 5).toArray 151 (0, 0)), (g10, .cells (numsA s 5).toArray 150 (0, 0)), (g9, .cells (⟨a, b, 6, numN s 0, 0, numN s 1, numN s 2, numN s 3, ⟨#[]⟩⟩ : Fact).cells.toArray 29 (0, 0)), (g2, .cells factZ.cells.toArray 29 (0, 0))] := N4
      refine ⟨(⟨a, b, 6, numN s 0, 0, numN s 1, numN s 2, numN s 3, ⟨#[]⟩⟩ : Fact).cells, rfl, N.rd 2 rfl, ?_⟩
      refine ⟨rfl, _, _, N.get 3 rfl, Nat.le_of_ble_eq_true rfl, rfl, ?_⟩
      intro wE hE
      have NE : Mem w wE [(g11, .cells (behA s 5).toArray 151 (0, 0)), (g10, .cells (numsA s 5).toArray 150 (0, 0)), (g9, .cells (⟨a, b, 6, numN s 0, 0, numN s 1, numN s 2, numN s 3, ⟨#[]⟩⟩ : Fact).cells.toArray 29 (0, 0)), (g2, .cells (⟨a, b, 6, numN s 0, 0, numN s 1, numN s 2, numN s 3, ⟨#[]⟩⟩ : Fact).cells.toArray 29 (0, 0))] := N.put 3 rfl hE
      exact ⟨(⟨a, b, 6, numN s 0, 0, numN s 1, numN s 2, numN s 3, ⟨#[]⟩⟩ : Fact).cells, rfl, NE.rd 3 rfl, rfl, NE.ext⟩
    have q6 : ¬ bs v = wordA 6 := q6
    refine ⟨_, eqStr _ _ (bs v) (wordA 7), ?_⟩
    refine brE_dec (fun q7 => ?_) (fun q7 => ?_)
    · have q7 : bs v = wordA 7 := q7
      have hk : kindOf v = 7 := by rw [← bs_list v]; exact kind_str (by decide) (by decide) q7
      rw [hk]
      refine ⟨fun q => q ≠ g9, ?_⟩
      refine ⟨0, rfl, by decide, ?_⟩
      refine ⟨.int .i64 (numN s 0), fun u hu => ⟨_, hu.cell hne10 (M7.cell 1 (i := 0) rfl rfl), rfl⟩, ?_⟩
      refine ⟨1, rfl, by decide, ?_⟩
      refine ⟨.int .i64 (numN s 1), fun u hu => ⟨_, hu.cell hne10 (M7.cell 1 (i := 1) rfl rfl), rfl⟩, ?_⟩
      refine ⟨2, rfl, by decide, ?_⟩
      refine ⟨.int .i64 (numN s 2), fun u hu => ⟨_, hu.cell hne10 (M7.cell 1 (i := 2) rfl rfl), rfl⟩, ?_⟩
      refine ⟨rfl, _, _, M7.get 2 rfl, Nat.le_of_ble_eq_true rfl, rfl, ?_⟩
      intro v0 s0
      have N0 := M7.put 2 rfl s0
      have kp0 : Keep (fun q => q ≠ g9) w7 v0 := (Keep.refl _ w7).put s0 (fun h => h rfl)
      refine ⟨kp0, ?_⟩
      refine ⟨rfl, _, _, N0.get 2 rfl, Nat.le_of_ble_eq_true rfl, rfl, ?_⟩
      intro v1 s1
      have N1 := N0.put 2 rfl s1
      have kp1 : Keep (fun q => q ≠ g9) w7 v1 := kp0.put s1 (fun h => h rfl)
      refine ⟨kp1, ?_⟩
      refine ⟨rfl, _, _, N1.get 2 rfl, Nat.le_of_ble_eq_true rfl, rfl, ?_⟩
      intro v2 s2
      have N2 := N1.put 2 rfl s2
      have kp2 : Keep (fun q => q ≠ g9) w7 v2 := kp1.put s2 (fun h => h rfl)
      refine ⟨kp2, ?_⟩
      refine ⟨rfl, _, _, N2.get 2 rfl, Nat.le_of_ble_eq_true rfl, rfl, ?_⟩
      intro v3 s3
      have N3 := N2.put 2 rfl s3
      have N : Mem w v3 [(g11, .cells (behA s 5).toArray 151 (0, 0)), (g10, .cells (numsA s 5).toArray 150 (0, 0)), (g9, .cells (⟨a, b, 7, numN s 0, 0, 0, numN s 1, numN s 2, ⟨#[]⟩⟩ : Fact).cells.toArray 29 (0, 0)), (g2, .cells factZ.cells.toArray 29 (0, 0))] := N3
      refine ⟨(⟨a, b, 7, numN s 0, 0, 0, numN s 1, numN s 2, ⟨#[]⟩⟩ : Fact).cells, rfl, N.rd 2 rfl, ?_⟩
      refine ⟨rfl, _, _, N.get 3 rfl, Nat.le_of_ble_eq_true rfl, rfl, ?_⟩
      intro wE hE
      have NE : Mem w wE [(g11, .cells (behA s 5).toArray 151 (0, 0)), (g10, .cells (numsA s 5).toArray 150 (0, 0)), (g9, .cells (⟨a, b, 7, numN s 0, 0, 0, numN s 1, numN s 2, ⟨#[]⟩⟩ : Fact).cells.toArray 29 (0, 0)), (g2, .cells (⟨a, b, 7, numN s 0, 0, 0, numN s 1, numN s 2, ⟨#[]⟩⟩ : Fact).cells.toArray 29 (0, 0))] := N.put 3 rfl hE
      exact ⟨(⟨a, b, 7, numN s 0, 0, 0, numN s 1, numN s 2, ⟨#[]⟩⟩ : Fact).cells, rfl, NE.rd 3 rfl, rfl, NE.ext⟩
    have q7 : ¬ bs v = wordA 7 := q7
    refine ⟨_, eqStr _ _ (bs v) (wordA 8), ?_⟩
    refine brE_dec (fun q8 => ?_) (fun q8 => ?_)
    · have q8 : bs v = wordA 8 := q8
      have hk : kindOf v = 8 := by rw [← bs_list v]; exact kind_str (by decide) (by decide) q8
      rw [hk]
      refine ⟨fun q => q ≠ g9, ?_⟩
      refine ⟨0, rfl, by decide, ?_⟩
      refine ⟨.int .i64 (numN s 0), fun u hu => ⟨_, hu.cell hne10 (M7.cell 1 (i := 0) rfl rfl), rfl⟩, ?_⟩
      refine ⟨1, rfl, by decide, ?_⟩
      refine ⟨.int .i64 (numN s 1), fun u hu => ⟨_, hu.cell hne10 (M7.cell 1 (i := 1) rfl rfl), rfl⟩, ?_⟩
      refine ⟨2, rfl, by decide, ?_⟩
      refine ⟨.int .i64 (numN s 2), fun u hu => ⟨_, hu.cell hne10 (M7.cell 1 (i := 2) rfl rfl), rfl⟩, ?_⟩
      refine ⟨3, rfl, by decide, ?_⟩
      refine ⟨.int .i64 (numN s 3), fun u hu => ⟨_, hu.cell hne10 (M7.cell 1 (i := 3) rfl rfl), rfl⟩, ?_⟩
      refine ⟨4, rfl, by decide, ?_⟩
      refine ⟨.int .i64 (numN s 4), fun u hu => ⟨_, hu.cell hne10 (M7.cell 1 (i := 4) rfl rfl), rfl⟩, ?_⟩
      refine ⟨rfl, _, _, M7.get 2 rfl, Nat.le_of_ble_eq_true rfl, rfl, ?_⟩
      intro v0 s0
      have N0 := M7.put 2 rfl s0
      have kp0 : Keep (fun q => q ≠ g9) w7 v0 := (Keep.refl _ w7).put s0 (fun h => h rfl)
      refine ⟨kp0, ?_⟩
      refine ⟨rfl, _, _, N0.get 2 rfl, Nat.le_of_ble_eq_true rfl, rfl, ?_⟩
      intro v1 s1
      have N1 := N0.put 2 rfl s1
      have kp1 : Keep (fun q => q ≠ g9) w7 v1 := kp0.put s1 (fun h => h rfl)
      refine ⟨kp1, ?_⟩
      refine ⟨rfl, _, _, N1.get 2 rfl, Nat.le_of_ble_eq_true rfl, rfl, ?_⟩
      intro v2 s2
      have N2 := N1.put 2 rfl s2
      have kp2 : Keep (fun q => q ≠ g9) w7 v2 := kp1.put s2 (fun h => h rfl)
      refine ⟨kp2, ?_⟩
      refine ⟨rfl, _, _, N2.get 2 rfl, Nat.le_of_ble_eq_true rfl, rfl, ?_⟩
      intro v3 s3
      have N3 := N2.put 2 rfl s3
      have kp3 : Keep (fun q => q ≠ g9) w7 v3 := kp2.put s3 (fun h => h rfl)
      refine ⟨kp3, ?_⟩
      refine ⟨rfl, _, _, N3.get 2 rfl, Nat.le_of_ble_eq_true rfl, rfl, ?_⟩
      intro v4 s4
      have N4 := N3.put 2 rfl s4
      have kp4 : Keep (fun q => q ≠ g9) w7 v4 := kp3.put s4 (fun h => h rfl)
      refine ⟨kp4, ?_⟩
      refine ⟨rfl, _, _, N4.get 2 rfl, Nat.le_of_ble_eq_true rfl, rfl, ?_⟩
      intro v5 s5
      have N5 := N4.put 2 rfl s5
      have N : Mem w v5 [(g11, .cells (behA s 5).toArray 151 (0, 0)), (g10, .cells (numsA s 5).toArray 150 (0, 0)), (g9, .cells (⟨a, b, 8, numN s 0, numN s 1, numN s 2, numN s 3, numN s 4, ⟨#[]⟩⟩ : Fact).cells.toArray 29 (0, 0)), (g2, .cells factZ.cells.toArray 29 (0, 0))] := N5
      refine ⟨(⟨a, b, 8, numN s 0, numN s 1, numN s 2, numN s 3, numN s 4, ⟨#[]⟩⟩ : Fact).cells, rfl, N.rd 2 rfl, ?_⟩
      refine ⟨rfl, _, _, N.get 3 rfl, Nat.le_of_ble_eq_true rfl, rfl, ?_⟩
      intro wE hE
      have NE : Mem w wE [(g11, .cells (behA s 5).toArray 151 (0, 0)), (g10, .cells (numsA s 5).toArray 150 (0, 0)), (g9, .cells (⟨a, b, 8, numN s 0, numN s 1, numN s 2, numN s 3, numN s 4, ⟨#[]⟩⟩ : Fact).cells.toArray 29 (0, 0)), (g2, .cells (⟨a, b, 8, numN s 0, numN s 1, numN s 2, numN s 3, numN s 4, ⟨#[]⟩⟩ : Fact).cells.toArray 29 (0, 0))] := N.put 3 rfl hE
      exact ⟨(⟨a, b, 8, numN s 0, numN s 1, numN s 2, numN s 3, numN s 4, ⟨#[]⟩⟩ : Fact).cells, rfl, NE.rd 3 rfl, rfl, NE.ext⟩
    have q8 : ¬ bs v = wordA 8 := q8
    refine ⟨_, eqStr _ _ (bs v) (wordA 9), ?_⟩
    refine brE_dec (fun q9 => ?_) (fun q9 => ?_)
    · have q9 : bs v = wordA 9 := q9
      have hk : kindOf v = 9 := by rw [← bs_list v]; exact kind_str (by decide) (by decide) q9
      rw [hk]
      refine ⟨fun q => q ≠ g9, ?_⟩
      refine ⟨0, rfl, by decide, ?_⟩
      refine ⟨.int .i64 (numN s 0), fun u hu => ⟨_, hu.cell hne10 (M7.cell 1 (i := 0) rfl rfl), rfl⟩, ?_⟩
      refine ⟨1, rfl, by decide, ?_⟩
      refine ⟨.int .i64 (numN s 1), fun u hu => ⟨_, hu.cell hne10 (M7.cell 1 (i := 1) rfl rfl), rfl⟩, ?_⟩
      refine ⟨2, rfl, by decide, ?_⟩
      refine ⟨.int .i64 (numN s 2), fun u hu => ⟨_, hu.cell hne10 (M7.cell 1 (i := 2) rfl rfl), rfl⟩, ?_⟩
      refine ⟨3, rfl, by decide, ?_⟩
      refine ⟨.int .i64 (numN s 3), fun u hu => ⟨_, hu.cell hne10 (M7.cell 1 (i := 3) rfl rfl), rfl⟩, ?_⟩
      refine ⟨rfl, _, _, M7.get 2 rfl, Nat.le_of_ble_eq_true rfl, rfl, ?_⟩
      intro v0 s0
      have N0 := M7.put 2 rfl s0
      have kp0 : Keep (fun q => q ≠ g9) w7 v0 := (Keep.refl _ w7).put s0 (fun h => h rfl)
      refine ⟨kp0, ?_⟩
      refine ⟨rfl, _, _, N0.get 2 rfl, Nat.le_of_ble_eq_true rfl, rfl, ?_⟩
      intro v1 s1
      have N1 := N0.put 2 rfl s1
      have kp1 : Keep (fun q => q ≠ g9) w7 v1 := kp0.put s1 (fun h => h rfl)
      refine ⟨kp1, ?_⟩
      refine ⟨rfl, _, _, N1.get 2 rfl, Nat.le_of_ble_eq_true rfl, rfl, ?_⟩
      intro v2 s2
      have N2 := N1.put 2 rfl s2
      have kp2 : Keep (fun q => q ≠ g9) w7 v2 := kp1.put s2 (fun h => h rfl)
      refine ⟨kp2, ?_⟩
      refine ⟨rfl, _, _, N2.get 2 rfl, Nat.le_of_ble_eq_true rfl, rfl, ?_⟩
      intro v3 s3
      have N3 := N2.put 2 rfl s3
      have kp3 : Keep (fun q => q ≠ g9) w7 v3 := kp2.put s3 (fun h => h rfl)
      refine ⟨kp3, ?_⟩
      refine ⟨rfl, _, _, N3.get 2 rfl, Nat.le_of_ble_eq_true rfl, rfl, ?_⟩
      intro v4 s4
      have N4 := N3.put 2 rfl s4
      have N : Mem w v4 [(g11, .cells (behA s 5).toArray 151 (0, 0)), (g10, .cells (numsA s 5).toArray 150 (0, 0)), (g9, .cells (⟨a, b, 9, numN s 0, 0, numN s 1, numN s 2, numN s 3, ⟨#[]⟩⟩ : Fact).cells.toArray 29 (0, 0)), (g2, .cells factZ.cells.toArray 29 (0, 0))] := N4
      refine ⟨(⟨a, b, 9, numN s 0, 0, numN s 1, numN s 2, numN s 3, ⟨#[]⟩⟩ : Fact).cells, rfl, N.rd 2 rfl, ?_⟩
      refine ⟨rfl, _, _, N.get 3 rfl, Nat.le_of_ble_eq_true rfl, rfl, ?_⟩
      intro wE hE
      have NE : Mem w wE [(g11, .cells (behA s 5).toArray 151 (0, 0)), (g10, .cells (numsA s 5).toArray 150 (0, 0)), (g9, .cells (⟨a, b, 9, numN s 0, 0, numN s 1, numN s 2, numN s 3, ⟨#[]⟩⟩ : Fact).cells.toArray 29 (0, 0)), (g2, .cells (⟨a, b, 9, numN s 0, 0, numN s 1, numN s 2, numN s 3, ⟨#[]⟩⟩ : Fact).cells.toArray 29 (0, 0))] := N.put 3 rfl hE
      exact ⟨(⟨a, b, 9, numN s 0, 0, numN s 1, numN s 2, numN s 3, ⟨#[]⟩⟩ : Fact).cells, rfl, NE.rd 3 rfl, rfl, NE.ext⟩
    have q9 : ¬ bs v = wordA 9 := q9
    refine ⟨_, eqStr _ _ (bs v) (wordA 10), ?_⟩
    refine brE_dec (fun q10 => ?_) (fun q10 => ?_)
    · have q10 : bs v = wordA 10 := q10
      have hk : kindOf v = 10 := by rw [← bs_list v]; exact kind_str (by decide) (by decide) q10
      rw [hk]
      refine ⟨fun q => q ≠ g9, ?_⟩
      refine ⟨0, rfl, by decide, ?_⟩
      refine ⟨.int .i64 (numN s 0), fun u hu => ⟨_, hu.cell hne10 (M7.cell 1 (i := 0) rfl rfl), rfl⟩, ?_⟩
      refine ⟨1, rfl, by decide, ?_⟩
      refine ⟨.int .i64 (numN s 1), fun u hu => ⟨_, hu.cell hne10 (M7.cell 1 (i := 1) rfl rfl), rfl⟩, ?_⟩
      refine ⟨rfl, _, _, M7.get 2 rfl, Nat.le_of_ble_eq_true rfl, rfl, ?_⟩
      intro v0 s0
      have N0 := M7.put 2 rfl s0
      have kp0 : Keep (fun q => q ≠ g9) w7 v0 := (Keep.refl _ w7).put s0 (fun h => h rfl)
      refine ⟨kp0, ?_⟩
      refine ⟨rfl, _, _, N0.get 2 rfl, Nat.le_of_ble_eq_true rfl, rfl, ?_⟩
      intro v1 s1
      have N1 := N0.put 2 rfl s1
      have kp1 : Keep (fun q => q ≠ g9) w7 v1 := kp0.put s1 (fun h => h rfl)
      refine ⟨kp1, ?_⟩
      refine ⟨rfl, _, _, N1.get 2 rfl, Nat.le_of_ble_eq_true rfl, rfl, ?_⟩
      intro v2 s2
      have N2 := N1.put 2 rfl s2
      have N : Mem w v2 [(g11, .cells (behA s 5).toArray 151 (0, 0)), (g10, .cells (numsA s 5).toArray 150 (0, 0)), (g9, .cells (⟨a, b, 10, numN s 0, 0, 0, numN s 1, 0, ⟨#[]⟩⟩ : Fact).cells.toArray 29 (0, 0)), (g2, .cells factZ.cells.toArray 29 (0, 0))] := N2
      refine ⟨(⟨a, b, 10, numN s 0, 0, 0, numN s 1, 0, ⟨#[]⟩⟩ : Fact).cells, rfl, N.rd 2 rfl, ?_⟩
      refine ⟨rfl, _, _, N.get 3 rfl, Nat.le_of_ble_eq_true rfl, rfl, ?_⟩
      intro wE hE
      have NE : Mem w wE [(g11, .cells (behA s 5).toArray 151 (0, 0)), (g10, .cells (numsA s 5).toArray 150 (0, 0)), (g9, .cells (⟨a, b, 10, numN s 0, 0, 0, numN s 1, 0, ⟨#[]⟩⟩ : Fact).cells.toArray 29 (0, 0)), (g2, .cells (⟨a, b, 10, numN s 0, 0, 0, numN s 1, 0, ⟨#[]⟩⟩ : Fact).cells.toArray 29 (0, 0))] := N.put 3 rfl hE
      exact ⟨(⟨a, b, 10, numN s 0, 0, 0, numN s 1, 0, ⟨#[]⟩⟩ : Fact).cells, rfl, NE.rd 3 rfl, rfl, NE.ext⟩
    have q10 : ¬ bs v = wordA 10 := q10
    refine ⟨_, eqStr _ _ (bs v) (wordA 11), ?_⟩
    refine brE_dec (fun q11 => ?_) (fun q11 => ?_)
    · have q11 : bs v = wordA 11 := q11
      have hk : kindOf v = 11 := by rw [← bs_list v]; exact kind_str (by decide) (by decide) q11
      rw [hk]
      refine ⟨fun q => q ≠ g9, ?_⟩
      refine ⟨0, rfl, by decide, ?_⟩
      refine ⟨.int .i64 (numN s 0), fun u hu => ⟨_, hu.cell hne10 (M7.cell 1 (i := 0) rfl rfl), rfl⟩, ?_⟩
      refine ⟨rfl, _, _, M7.get 2 rfl, Nat.le_of_ble_eq_true rfl, rfl, ?_⟩
      intro v0 s0
      have N0 := M7.put 2 rfl s0
      have kp0 : Keep (fun q => q ≠ g9) w7 v0 := (Keep.refl _ w7).put s0 (fun h => h rfl)
      refine ⟨kp0, ?_⟩
      refine ⟨rfl, _, _, N0.get 2 rfl, Nat.le_of_ble_eq_true rfl, rfl, ?_⟩
      intro v1 s1
      have N1 := N0.put 2 rfl s1
      have N : Mem w v1 [(g11, .cells (behA s 5).toArray 151 (0, 0)), (g10, .cells (numsA s 5).toArray 150 (0, 0)), (g9, .cells (⟨a, b, 11, 0, numN s 0, 0, 0, 0, ⟨#[]⟩⟩ : Fact).cells.toArray 29 (0, 0)), (g2, .cells factZ.cells.toArray 29 (0, 0))] := N1
      refine ⟨(⟨a, b, 11, 0, numN s 0, 0, 0, 0, ⟨#[]⟩⟩ : Fact).cells, rfl, N.rd 2 rfl, ?_⟩
      refine ⟨rfl, _, _, N.get 3 rfl, Nat.le_of_ble_eq_true rfl, rfl, ?_⟩
      intro wE hE
      have NE : Mem w wE [(g11, .cells (behA s 5).toArray 151 (0, 0)), (g10, .cells (numsA s 5).toArray 150 (0, 0)), (g9, .cells (⟨a, b, 11, 0, numN s 0, 0, 0, 0, ⟨#[]⟩⟩ : Fact).cells.toArray 29 (0, 0)), (g2, .cells (⟨a, b, 11, 0, numN s 0, 0, 0, 0, ⟨#[]⟩⟩ : Fact).cells.toArray 29 (0, 0))] := N.put 3 rfl hE
      exact ⟨(⟨a, b, 11, 0, numN s 0, 0, 0, 0, ⟨#[]⟩⟩ : Fact).cells, rfl, NE.rd 3 rfl, rfl, NE.ext⟩
    have q11 : ¬ bs v = wordA 11 := q11
    have hk : kindOf v = 0 := kind_none fun k h1 h2 => by
      have cases : k = 1 ∨ k = 2 ∨ k = 3 ∨ k = 4 ∨ k = 5 ∨ k = 6 ∨ k = 7 ∨ k = 8 ∨ k = 9 ∨ k = 10 ∨ k = 11 := by omega
      rcases cases with rfl | rfl | rfl | rfl | rfl | rfl | rfl | rfl | rfl | rfl | rfl <;> assumption
    rw [hk]
    refine ⟨(⟨a, b, 0, 0, 0, 0, 0, 0, ⟨#[]⟩⟩ : Fact).cells, rfl, M7.rd 2 rfl, ?_⟩
    refine ⟨rfl, _, _, M7.get 3 rfl, Nat.le_of_ble_eq_true rfl, rfl, ?_⟩
    intro wE hE
    have NE : Mem w wE [(g11, .cells (behA s 5).toArray 151 (0, 0)), (g10, .cells (numsA s 5).toArray 150 (0, 0)), (g9, .cells (⟨a, b, 0, 0, 0, 0, 0, 0, ⟨#[]⟩⟩ : Fact).cells.toArray 29 (0, 0)), (g2, .cells (⟨a, b, 0, 0, 0, 0, 0, 0, ⟨#[]⟩⟩ : Fact).cells.toArray 29 (0, 0))] := M7.put 3 rfl hE
    exact ⟨(⟨a, b, 0, 0, 0, 0, 0, 0, ⟨#[]⟩⟩ : Fact).cells, rfl, NE.rd 3 rfl, rfl, NE.ext⟩

end Go.Proofs.YthpdkdmbfdmamaaGreatDoor
