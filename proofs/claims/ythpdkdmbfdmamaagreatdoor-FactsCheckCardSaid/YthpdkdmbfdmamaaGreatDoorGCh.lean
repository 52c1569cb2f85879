/- a part of the proof: steps, walks and plain laws that the law below stands on; no condition. -/
import Derived.Test.YthpdkdmbfdmamaaGreatDoorGCd
import Derived.Test.YthpdkdmbfdmamaaGreatDoorGCg
set_option linter.unusedVariables false
set_option linter.unusedSimpArgs false
set_option linter.unnecessarySimpa false
set_option linter.unusedSectionVars false
namespace Go.Proofs.YthpdkdmbfdmamaaGreatDoor
open Go.Eng Go.RowKit

theorem IndexFuncI_spec {w : World} {A : Option Addr} {l : List Int} {c gd : Nat} {cb : Array Value} {p : Int → Bool} (hr : Reads w A (ints l)) (hl : l.length ≤ 2 ^ 40) (hgd : C.can gd = true)
    (hdel : ∀ (x : Int) (w' : World), Ext w w' → CallsV C.P gd (#[] ++ [.int .i64 x].toArray ++ cb) w' fun v w'' => v = .bool (p x) ∧ Ext w' w'') :
    CallsV C.P 198 #[.slice A l.length c, .func (.func gd) #[] cb] w fun v w' => ((v = .int .i64 (-1) ∧ ∀ x ∈ l, p x = false) ∨ ∃ i : Nat, v = .int .i64 (i : Nat) ∧ ∃ h : i < l.length, p l[i] = true ∧ ∀ j (hj : j < l.length), j < i → p l[j] = false) ∧ Ext w w' := by
  refine callsV_of C_ok (args := [_, _]) (plans := []) Tryz.func198 rfl Tryz.ntmps198 (by kernel_rfl) (Nat.le_of_ble_eq_true rfl) ?_
  refine loopE C_ok (fun (i : Nat) => [(0, .slice A l.length c), (1, .func (.func gd) #[] cb), (7, .int .i64 l.length), (8, .int .i64 i)])
    (fun i w' => Ext w w' ∧ i ≤ l.length ∧ ∀ j (hj : j < l.length), j < i → p l[j] = false) (fun i => l.length - i) 0 ⟨rfl, rfl, rfl, rfl, trivial⟩
    ⟨Ext.refl _, Nat.zero_le _, fun j _ hj => absurd hj (Nat.not_lt_zero _)⟩ ?_
  rintro i w1 ⟨e1, hi, hall⟩
  refine brE_dec (fun hlt => ?_) (fun hge => ?_)
  · have hlt : i < l.length := by have : (i : Int) < (l.length : Nat) := hlt; omega
    obtain ⟨b, o, hA, hc⟩ := Reads.int (hr.ext e1) hlt
    refine ⟨i, b, o, rfl, hlt, hA, ?_⟩
    refine ⟨_, by simpa using hc, ?_⟩
    refine brE_true hgd ?_
    refine (hdel l[i] w1 e1).mono ?_
    rintro v w2 ⟨rfl, e2⟩
    refine brE_mk (fun h2 => ?_) (fun h2 => ?_)
    · exact ⟨.inr ⟨i, rfl, hlt, h2, hall⟩, e1.trans e2⟩
    · refine ⟨((i + 1 : Nat) : Int), fit ⟨by omega, by omega⟩, ?_⟩
      refine ⟨i + 1, ⟨rfl, rfl, rfl, rfl, trivial⟩, ⟨e1.trans e2, hlt, fun j hj hji => ?_⟩, by omega⟩
      rcases Nat.lt_or_ge j i with h | h
      · exact hall j hj h
      · obtain rfl : j = i := by omega
        exact h2
  · have : i = l.length := by have : ¬ (i : Int) < (l.length : Nat) := hge; omega
    subst this
    refine ⟨.inl ⟨rfl, fun x hx => ?_⟩, e1⟩
    obtain ⟨j, hj, rfl⟩ := List.getElem_of_mem hx
    exact hall j hj hj

set_option maxRecDepth 100000 in
theorem DeleteFuncI_spec {B : Nat} {w : World} {v : Value} {l : List Int} {gd : Nat} {cb : Array Value} {p : Int → Bool} (ho : NewInts B w v l) (hB : B ≤ w.heap.size) (hl : l.length ≤ 2 ^ 40) (hgd : C.can gd = true)
    (hdel : ∀ (x : Int) (w' : World), Below B w w' → CallsV C.P gd (#[] ++ [.int .i64 x].toArray ++ cb) w' fun v w'' => v = .bool (p x) ∧ Ext w' w'') :
    CallsV C.P 156 #[v, .func (.func gd) #[] cb] w fun v' w' => NewInts B w' v' (l.filter fun x => !p x) ∧ Below B w w' := by
  obtain ⟨A, cap, rfl, hR, hlc⟩ := ho.slice
  refine callsV_of C_ok (args := [_, _]) (plans := []) Tryz.func156 rfl Tryz.ntmps156 (by kernel_rfl) (Nat.le_of_ble_eq_true rfl) ?_
  refine (IndexFuncI_spec hR hl hgd fun x w' e => hdel x w' (e.mono hB)).mono ?_
  rintro v w1 ⟨hi | ⟨i0, rfl, hi0, hsm, hfirst⟩, e1⟩
  · obtain ⟨rfl, hall⟩ := hi
    have e : (l.filter fun x => !p x) = l := List.filter_eq_self.2 fun x hx => by rw [hall x hx]; rfl
    rw [e]
    exact ⟨ho.ext e1, e1.mono hB⟩
  refine ⟨((i0 + 1 : Nat) : Int), fit ⟨by omega, by omega⟩, ?_⟩
  have hA : ∃ g, A = some ⟨g, 0, none⟩ := by
    obtain ⟨_, ⟨hv, h0⟩ | ⟨g, cap', cur, hv, _⟩⟩ := ho
    · omega
    · simp at hv; exact ⟨g, hv.1⟩
  obtain ⟨g, rfl⟩ := hA
  have kp0 := keep_first hi0 hsm hfirst
  have ho1 : w1.ownsRow B 3 1 (.slice (some ⟨g, 0, none⟩) l.length cap) l.length (ints l) := ho.ext e1
  refine loopE C_ok (fun (s : Nat × Nat × List Int) => [(0, .slice (some ⟨g, 0, none⟩) l.length cap), (1, .func (.func gd) #[] cb), (5, .int .i64 s.2.1), (6, .int .i64 s.1)])
    (fun s w' => s.2.1 = ((l.take s.1).filter fun x => !p x).length ∧ s.2.1 < s.1 ∧ s.1 ≤ l.length ∧ s.2.2.length = l.length ∧ w'.ownsRow B 3 1 (.slice (some ⟨g, 0, none⟩) l.length cap) l.length (ints s.2.2) ∧ s.2.2.take s.2.1 = ((l.take s.1).filter fun x => !p x) ∧ (∀ k, s.1 ≤ k → s.2.2[k]? = l[k]?) ∧ Below B w w')
    (fun s => l.length - s.1) (i0 + 1, i0, l) ⟨rfl, rfl, rfl, rfl, trivial⟩
    ⟨by show i0 = _; rw [kp0, List.length_take]; omega, Nat.lt_succ_self _, hi0, rfl, ho1, kp0.symm, fun _ _ => rfl, e1.mono hB⟩ ?_
  rintro ⟨j, i, R⟩ w2 ⟨hi', hij', hj', hRl', ho2', htake', hrest', b2⟩
  have hi : i = ((l.take j).filter fun x => !p x).length := hi'
  have hij : i < j := hij'
  have hj : j ≤ l.length := hj'
  have hRl : R.length = l.length := hRl'
  have ho2 : w2.ownsRow B 3 1 (.slice (some ⟨g, 0, none⟩) l.length cap) l.length (ints R) := ho2'
  have htake : R.take i = ((l.take j).filter fun x => !p x) := htake'
  have hrest : ∀ k, j ≤ k → R[k]? = l[k]? := hrest'
  clear hRl' hi' hij' hj' ho2' hrest' htake'
  refine brE_dec (fun hlt => ?_) (fun hge => ?_)
  · have hlt : j < l.length := by have : (j : Int) < (l.length : Nat) := hlt; omega
    have next : IntKind.i64.wrap ((j : Int) + 1) = ((j + 1 : Nat) : Int) := fit ⟨by omega, by omega⟩
    have hRj : R[j]'(by omega) = l[j] := by
      have := hrest j (Nat.le_refl _)
      rw [List.getElem?_eq_getElem hlt, List.getElem?_eq_getElem (by omega)] at this
      exact Option.some.inj this
    have hreads : Reads w2 (some ⟨g, 0, none⟩) (ints R) := by
      obtain ⟨A', c', e, h, _⟩ := reads_of_owns ho2
      cases e; exact h
    obtain ⟨b1, o1, hA1, hc1⟩ := Reads.int hreads (i := j) (by omega)
    cases hA1
    rw [hRj] at hc1
    refine ⟨j, g, 0, rfl, hlt, rfl, ?_⟩
    refine ⟨_, by simpa using hc1, ?_⟩
    refine brE_true hgd ?_
    refine (hdel l[j] w2 b2).mono ?_
    rintro v w5 ⟨rfl, e25⟩
    have hBw2 : B ≤ w2.heap.size := Nat.le_trans hB b2.size
    have b5 : Below B w w5 := b2.trans (e25.mono hBw2)
    have ho5 := ownsRow_ext ho2 e25
    have hk := keep_at (p := p) hlt
    refine brE_mk (fun h2 => ?_) (fun h2 => ?_)
    · have h2 : p l[j] = false := by simpa using h2
      rw [h2, if_neg (by decide)] at hk
      obtain ⟨cur, hg, hgB, hcl, hccap, hncap, hdl, hct, hput⟩ := ownsRow_open ho5
      refine ⟨i, g, 0, rfl, (by omega : i < l.length), rfl, ?_⟩
      refine ⟨rfl, _, _, hg, by show 0 + i * 1 + 1 ≤ cur.length; omega, rfl, ?_⟩
      intro w6 h6
      have h6 : Put w5 g (.cells (splice cur (0 + i * 1) (enc1 l[j])).toArray 3 (0, 0)) w6 := h6
      have ho6 := hput (0 + i * 1) (enc1 l[j]) w6 (by show 0 + i * 1 + 1 ≤ _; omega) h6
      have hset : splice (ints R) (i * 1) (enc1 l[j]) = ints (R.set i l[j]) := by
        rw [← ints_flat, ← ints_flat]
        exact flat_set (enc := enc1) (k := 1) (fun _ => rfl) (by omega) _
      rw [show 0 + i * 1 = i * 1 by omega, hset] at ho6
      have nexti : IntKind.i64.wrap ((i : Int) + 1) = ((i + 1 : Nat) : Int) := fit ⟨by omega, by omega⟩
      refine ⟨_, nexti, ?_⟩
      refine ⟨_, next, ?_⟩
      refine ⟨(j + 1, i + 1, R.set i l[j]), ⟨rfl, rfl, rfl, rfl, trivial⟩, ⟨?_, by show i + 1 < j + 1; omega, hlt, by show (R.set i l[j]).length = _; rw [List.length_set, hRl], ho6, ?_, ?_, below_put b5 h6 hgB⟩, by show l.length - (j + 1) < l.length - j; omega⟩
      · show i + 1 = ((l.take (j + 1)).filter fun x => !p x).length
        rw [hk, List.length_append, ← hi]; rfl
      · show (R.set i l[j]).take (i + 1) = ((l.take (j + 1)).filter fun x => !p x)
        have hil : i < (R.set i l[j]).length := by rw [List.length_set]; omega
        rw [hk, List.take_succ_eq_append_getElem hil, List.take_set_of_le (Nat.le_refl _), htake]
        congr 1
        simp
      · intro k hk1
        show (R.set i l[j])[k]? = l[k]?
        have hk1 : j + 1 ≤ k := hk1
        rw [List.getElem?_set_ne (by omega)]
        exact hrest k (by omega)
    · have h2 : p l[j] = true := by simpa using h2
      rw [h2, if_pos rfl, List.append_nil] at hk
      refine ⟨_, next, ?_⟩
      exact ⟨(j + 1, i, R), ⟨rfl, rfl, rfl, rfl, trivial⟩, ⟨by show i = ((l.take (j + 1)).filter fun x => !p x).length; rw [hk]; exact hi, by show i < j + 1; omega, hlt, hRl, ho5, by show R.take i = ((l.take (j + 1)).filter fun x => !p x); rw [hk]; exact htake, fun k hk1 => hrest k (by have : j + 1 ≤ k := hk1; omega), b5⟩, by show l.length - (j + 1) < l.length - j; omega⟩
  · have : j = l.length := by have : ¬ (j : Int) < (l.length : Nat) := hge; omega
    subst this
    rw [List.take_length] at hi htake
    obtain ⟨cur, hg, hgB, hcl, hccap, hncap, hdl, hct, hput⟩ := ownsRow_open ho2
    refine ⟨i, l.length, rfl, rfl, by omega, by omega, ?_⟩
    have hA : (if cap = i then (some (⟨g, 0, none⟩ : Addr)) else (some (⟨g, 0, none⟩ : Addr)).map (·.add (i * 1))) = some ⟨g, 0 + i * 1, none⟩ := by
      rw [if_neg (by omega)]
      simp [add_spot]
    refine clearRow (esz := 1) C_ok rfl rfl rfl rfl rfl rfl rfl (by decide) hA (by omega) hg (by omega) ?_
    intro zs w3 hzs h3
    have ho3 := hput (0 + i * 1) zs w3 (by rw [hzs]; omega) h3
    refine ⟨0, i, rfl, rfl, Nat.zero_le _, by omega, ?_⟩
    have e : (if cap = 0 then (some ⟨g, 0, none⟩ : Option Addr) else (some (⟨g, 0, none⟩ : Addr)).map (·.add (0 * 1))) = some ⟨g, 0, none⟩ := by
      split <;> rfl
    have hcut := ownsRow_cut ho3 (k := i) (by omega)
    have hft : (ints R).take (i * 1) = ints (R.take i) := by rw [Nat.mul_one, ints, ints, List.map_take]
    rw [show 0 + i * 1 = i * 1 by omega, splice_take_at (by rw [ints_length]; omega), hft, htake] at hcut
    refine ⟨?_, below_put b2 h3 hgB⟩
    show w3.ownsRow B 3 1 (.slice (if cap = 0 then (some ⟨g, 0, none⟩ : Option Addr) else (some (⟨g, 0, none⟩ : Addr)).map (·.add (0 * 1))) i cap) (l.filter fun x => !p x).length _
    rw [e, ← hi]
    exact hcut

theorem recognised1_spec {w : World} {A : Option Addr} {l : List Fact} {c g3 g4 g5 : Nat} {host s : Int} (hr : Reads w A (fcells l)) (hl : l.length ≤ 2 ^ 20) (h3 : w.heap[g3]? = some (.cells #[.slice A l.length c] 117 (0, 0))) (h4 : BoxI w g4 host) (h5 : BoxI w g5 s) (x : Int) :
    CallsV C.P 157 (#[] ++ [.int .i64 x].toArray ++ #[.pointer (some ⟨g3, 0, none⟩), .pointer (some ⟨g4, 0, none⟩), .pointer (some ⟨g5, 0, none⟩)]) w fun v w' => v = .bool (!l.any (recogB host s x)) ∧ Ext w w' := by
  refine callsV_of C_ok (args := [_, _, _, _]) (plans := []) Tryz.func157 rfl Tryz.ntmps157 (by kernel_rfl) (Nat.le_of_ble_eq_true rfl) ?_
  intro g w1 h1
  refine ⟨_, cell_of_block (h1.ext.heap h3) rfl, ?_⟩
  refine ⟨[], [.pointer (some ⟨g4, 0, none⟩), .pointer (some ⟨g5, 0, none⟩), .pointer (some ⟨g, 0, none⟩)], rfl, rfl, ?_⟩
  refine (some_spec (p := recogB host s x) (hr.ext h1.ext) hl rfl fun y w' e => recognised11_spec y w' ((h4.ext h1.ext).ext e) ((h5.ext h1.ext).ext e) (e.heap h1.here)).mono ?_
  rintro v w2 ⟨rfl, e2⟩
  exact ⟨rfl, h1.ext.trans e2⟩

theorem livingL_length (c : List Fact) (k s cl : Int) : (livingL c k s cl).length ≤ c.length := Nat.le_trans (sortD_length _) (fm_length _ _ _)

set_option maxRecDepth 100000 in
theorem vrecognised_spec {w : World} {A : Option Addr} {l : List Fact} {c : Nat} (hr : Reads w A (fcells l)) (hl : l.length ≤ 2 ^ 20) (host s : Int) :
    CallsV C.P 120 #[.slice A l.length c, .int .i64 host, .int .i64 s] w fun v w' => v = .tuple #[.int .i64 (recogL l host s).1, .bool (recogL l host s).2] ∧ Ext w w' := by
  refine callsV_of C_ok (args := [_, _, _]) (plans := []) Tryz.func120 rfl Tryz.ntmps120 (by kernel_rfl) (Nat.le_of_ble_eq_true rfl) ?_
  intro g3 w1 h1
  have M1 := (Mem.start w).alloc h1
  intro g4 w2 h2
  have M2 := M1.alloc h2
  intro g5 w3 h3
  have M3 := M2.alloc h3
  refine ⟨_, M3.cell 2 rfl rfl, ?_⟩
  refine ⟨_, M3.cell 0 rfl rfl, ?_⟩
  have hr3 := hr.ext M3.ext
  have c3 : w3.heap[g3]? = some (.cells #[.slice A l.length c] 117 (0, 0)) := M3.get 2 rfl
  have c4 : BoxI w3 g4 host := M3.get 1 rfl
  have c5 : BoxI w3 g5 s := M3.get 0 rfl
  refine (living_spec hr3 hl 2 s 1).mono ?_
  rintro v4 w4 ⟨ho4, e4⟩
  have hll := livingL_length l 2 s 1
  have ex := M3.ext
  obtain ⟨A4, k4, rfl, hr4, _⟩ := ho4.slice
  refine brE_dec (fun a1 => ?_) (fun a1 => ?_)
  case' refine_1 =>
    have a1 : ((livingL l 2 s 1).length : Int) > 1 := a1
    refine ⟨[], [.pointer (some ⟨g3, 0, none⟩), .pointer (some ⟨g4, 0, none⟩), .pointer (some ⟨g5, 0, none⟩)], rfl, rfl, ?_⟩
    have ee : ∀ {w' : World}, Below w3.heap.size w4 w' → Ext w3 w' := fun b => Below.trans e4 b
    refine (DeleteFuncI_spec (p := fun x => !l.any (recogB host s x)) ho4 e4.size (by omega) rfl fun x w' b => recognised1_spec (hr3.ext (ee b)) hl ((ee b).heap c3) (c4.ext (ee b)) (c5.ext (ee b)) x).mono ?_
    rintro v5 w5 ⟨ho5, b5⟩
    have hch : (livingL l 2 s 1).filter (fun x => !!l.any (recogB host s x)) = chosenL l host s := by
      unfold chosenL
      rw [if_pos (by omega)]
      congr 1
      funext x
      rw [Bool.not_not]
    rw [hch] at ho5
    have e5 : Ext w3 w5 := Below.trans e4 b5
  case' refine_2 =>
    have a1 : ¬ ((livingL l 2 s 1).length : Int) > 1 := a1
    have hch : livingL l 2 s 1 = chosenL l host s := by
      unfold chosenL
      rw [if_neg (by omega)]
    have ho5 := ho4
    rw [hch] at ho5 ⊢
    have e5 := e4
  all_goals
    unfold recogL
    generalize chosenL l host s = ch at *
    obtain ⟨A5, k5, hv5, hr5, _⟩ := ho5.slice
    first
    | subst hv5
    | (injection hv5 with hA5 _ hk5; subst hA5; subst hk5)
    refine brE_ndec (fun a2 => ?_) (fun a2 => ?_)
    · have a2 : ¬ (ch.length : Int) = 1 := a2
      match ch, a2 with
      | [], _ => exact ⟨rfl, ex.trans e5⟩
      | [p], h => exact absurd rfl h
      | p :: q :: r, _ => exact ⟨rfl, ex.trans e5⟩
    · have a2 : (ch.length : Int) = 1 := a2
      obtain ⟨p, rfl⟩ : ∃ p, ch = [p] := List.length_eq_one_iff.1 (by omega)
      obtain ⟨b, o, hA, hc⟩ := Reads.int hr5 (i := 0) (by simp)
      refine ⟨0, b, o, rfl, Nat.zero_lt_one, hA, ?_⟩
      refine ⟨_, by simpa using hc, ?_⟩
      exact ⟨rfl, ex.trans e5⟩

theorem Recognised_spec {w : World} {A : Option Addr} {l : List Fact} {c : Nat} (h : HF w A l c) (hl : l.length ≤ 2 ^ 20) (k day host s : Int) :
    CallsV C.P 59 #[.slice A l.length c, .int .i64 k, .int .i64 day, .int .i64 host, .int .i64 s] w fun v w' => v = .tuple #[.int .i64 (recogL (atL k day l) host s).1, .bool (recogL (atL k day l) host s).2] ∧ Ext w w' := by
  refine callsV_of C_ok (args := [_, _, _, _, _]) (plans := []) Tryz.func59 rfl Tryz.ntmps59 (by kernel_rfl) (Nat.le_of_ble_eq_true rfl) ?_
  refine (look_spec h hl k day).mono ?_
  rintro v w1 ⟨hK, e1⟩
  have hkl := atL_length k day l
  obtain ⟨AK, cK, rfl, hrK, _⟩ := hK.slice
  refine (vrecognised_spec hrK (by omega) host s).mono ?_
  rintro v w2 ⟨rfl, e2⟩
  exact ⟨rfl, e1.trans e2⟩

end Go.Proofs.YthpdkdmbfdmamaaGreatDoor

namespace Go.Proofs.YthpdkdmbfdmamaaGreatDoor
open Go.Eng Go.RowKit

theorem recog_mem {c : List Fact} {host s p : Int} (h : recogL c host s = (p, true)) : p ∈ livingL c 2 s 1 := by
  have hsub : ∀ q ∈ chosenL c host s, q ∈ livingL c 2 s 1 := by
    intro q hq
    unfold chosenL at hq
    split at hq
    · exact (List.mem_filter.1 hq).1
    · exact hq
  unfold recogL at h
  split at h
  · rename_i q hq
    injection h with h _
    subst h
    exact hsub q (by rw [hq]; simp)
  · injection h with _ h; cases h
theorem heldB_one {c : List Fact} {host p s : Int} (h : p ∉ livingL c 2 s 1) : heldB c host p s 1 = false := by
  unfold heldB
  rw [if_pos rfl, decide_eq_false fun e => h (recog_mem e)]

abbrev classes : List Int := [1, 2, 3, 4]
theorem classes_drop {n : Nat} (h : n < 4) : classes.drop n = ((n + 1 : Nat) : Int) :: classes.drop (n + 1) := by
  have : n = 0 ∨ n = 1 ∨ n = 2 ∨ n = 3 := by omega
  rcases this with rfl | rfl | rfl | rfl <;> rfl

set_option maxRecDepth 100000 in
theorem Class_spec {w : World} {A : Option Addr} {l : List Fact} {c : Nat} (h : HF w A l c) (hl : l.length ≤ 2 ^ 20) (k day host p s : Int) :
    CallsV C.P 61 #[.slice A l.length c, .int .i64 k, .int .i64 day, .int .i64 host, .int .i64 p, .int .i64 s] w fun v w' => v = .tuple #[.int .i64 (classL (atL k day l) host p s).1, .bool (classL (atL k day l) host p s).2] ∧ Ext w w' := by
  refine callsV_of C_ok (args := [_, _, _, _, _, _]) (plans := []) Tryz.func61 rfl Tryz.ntmps61 (by kernel_rfl) (Nat.le_of_ble_eq_true rfl) ?_
  refine (look_spec h hl k day).mono ?_
  rintro v w1 ⟨hK, e1⟩
  have hkl := atL_length k day l
  generalize atL k day l = K at *
  obtain ⟨AK, cK, rfl, hrK, _⟩ := hK.slice
  have hKl : K.length ≤ 2 ^ 20 := by omega
  unfold classL
  refine loopE C_ok (fun (t : Nat × Int × Bool) => [(3, .int .i64 host), (4, .int .i64 p), (5, .int .i64 s), (14, .slice AK K.length cK), (15, .int .i64 t.2.1), (16, .bool t.2.2), (17, .int .i64 t.1)])
    (fun t w' => t.1 ≤ 4 ∧ Ext w1 w' ∧ (t.2.1, t.2.2) = classAt K host p s (classes.drop t.1)) (fun t => t.1) (4, 5, false)
    ⟨rfl, rfl, rfl, rfl, rfl, rfl, rfl, trivial⟩ ⟨Nat.le_refl _, Ext.refl _, rfl⟩ ?_
  rintro ⟨n, a, b⟩ w2 ⟨hn', e2, hc'⟩
  have hn : n ≤ 4 := hn'
  have hc : (a, b) = classAt K host p s (classes.drop n) := hc'
  clear hn' hc'
  refine brE_dec (fun hge => ?_) (fun hlt => ?_)
  case' refine_2 =>
    have : n = 0 := by have : ¬ (n : Int) ≥ 1 := hlt; omega
    subst this
    have hc : (a, b) = classAt K host p s classes := hc
    exact ⟨by rw [← hc], e1.trans e2⟩
  have hge : (n : Int) ≥ 1 := hge
  obtain ⟨m, rfl⟩ : ∃ m, n = m + 1 := ⟨n - 1, by omega⟩
  have next : IntKind.i64.wrap (((m + 1 : Nat) : Int) - 1) = (m : Int) := by rw [fit ⟨by omega, by omega⟩]; omega
  have hd : classAt K host p s (classes.drop m) = if (heldB K host p s ((m + 1 : Nat) : Int) || actsB K p s ((m + 1 : Nat) : Int)) = true then (((m + 1 : Nat) : Int), !heldB K host p s ((m + 1 : Nat) : Int)) else (a, b) := by
    rw [classes_drop (by omega), classAt, hc]
  have hr2 := hrK.ext e2
  refine (living_spec hr2 hKl 2 s ((m + 1 : Nat) : Int)).mono ?_
  rintro v w3 ⟨ho3, e3⟩
  have hl3 := livingL_length K 2 s ((m + 1 : Nat) : Int)
  obtain ⟨A3, k3, rfl, hr3, _⟩ := ho3.slice
  refine (ContainsI_spec hr3 (by omega) p).mono ?_
  rintro v w4 ⟨rfl, rfl⟩
  have e23 := e2.trans e3
  refine brE_dec (fun a1 => ?_) (fun a1 => ?_)
  case' refine_1 =>
    have a1 : ((m + 1 : Nat) : Int) = 1 := a1
    refine brE_mk (fun a2 => ?Y) (fun a2 => ?N1)
    case' Y =>
      refine (vrecognised_spec (hrK.ext e23) hKl host s).mono ?_
      rintro v w5 ⟨rfl, e5⟩
      have e25 := e23.trans e5
      have hh : heldB K host p s ((m + 1 : Nat) : Int) = decide (recogL K host s = (p, true)) := by unfold heldB; rw [if_pos a1]
      refine brE_mk (fun a3 => ?Y1) (fun a3 => ?N2)
      case' Y1 =>
        have hb : heldB K host p s ((m + 1 : Nat) : Int) = decide ((recogL K host s).1 = p) := by
          rw [hh, Bool.eq_iff_iff, decide_eq_true_eq, decide_eq_true_eq]
          constructor
          · intro h; rw [h]
          · intro h; rw [← h, ← a3]
      case' N2 =>
        have hb : heldB K host p s ((m + 1 : Nat) : Int) = false := by
          rw [hh, decide_eq_false]
          intro h; rw [h] at a3; cases a3
    case' N1 =>
      have e25 := e23
      have hb : heldB K host p s ((m + 1 : Nat) : Int) = decide (p ∈ livingL K 2 s ((m + 1 : Nat) : Int)) := by
        rw [a2, a1]
        refine heldB_one ?_
        rw [a1] at a2
        exact of_decide_eq_false a2
  case' refine_2 =>
    have a1 : ¬ ((m + 1 : Nat) : Int) = 1 := a1
    have e25 := e23
    have hb : heldB K host p s ((m + 1 : Nat) : Int) = decide (p ∈ livingL K 2 s ((m + 1 : Nat) : Int)) := by unfold heldB; rw [if_neg a1]
  all_goals
    rw [hb] at hd
    first
    | (refine brE_mk (fun t => ?_) (fun t => ?_)
       · rw [t, Bool.true_or, if_pos rfl] at hd
         refine ⟨_, next, ?_⟩
         refine ⟨(m, ((m + 1 : Nat) : Int), _), ⟨rfl, rfl, rfl, rfl, rfl, rfl, rfl, trivial⟩, ⟨by show m ≤ 4; omega, e25, ?_⟩, by show m < m + 1; omega⟩
         show (((m + 1 : Nat) : Int), !_) = _
         rw [hd, t]
       · rw [t, Bool.false_or] at hd
         refine (living_spec (hrK.ext e25) hKl 3 s ((m + 1 : Nat) : Int)).mono ?_
         rintro v w6 ⟨ho6, e6⟩
         have hl6 := livingL_length K 3 s ((m + 1 : Nat) : Int)
         obtain ⟨A6, k6, rfl, hr6, _⟩ := ho6.slice
         refine (ContainsI_spec hr6 (by omega) p).mono ?_
         rintro v w7 ⟨rfl, rfl⟩
         refine brE_mk (fun u => ?_) (fun u => ?_)
         · rw [show actsB K p s ((m + 1 : Nat) : Int) = true from u, if_pos rfl] at hd
           refine ⟨_, next, ?_⟩
           refine ⟨(m, ((m + 1 : Nat) : Int), _), ⟨rfl, rfl, rfl, rfl, rfl, rfl, rfl, trivial⟩, ⟨by show m ≤ 4; omega, e25.trans e6, ?_⟩, by show m < m + 1; omega⟩
           show (((m + 1 : Nat) : Int), !_) = _
           rw [hd, t]
         · rw [show actsB K p s ((m + 1 : Nat) : Int) = false from u, if_neg (by decide)] at hd
           refine ⟨_, next, ?_⟩
           refine ⟨(m, a, b), ⟨rfl, rfl, rfl, rfl, rfl, rfl, rfl, trivial⟩, ⟨by show m ≤ 4; omega, e25.trans e6, ?_⟩, by show m < m + 1; omega⟩
           show (a, b) = _
           rw [hd])
    | (rw [Bool.false_or] at hd
       refine (living_spec (hrK.ext e25) hKl 3 s ((m + 1 : Nat) : Int)).mono ?_
       rintro v w6 ⟨ho6, e6⟩
       have hl6 := livingL_length K 3 s ((m + 1 : Nat) : Int)
       obtain ⟨A6, k6, rfl, hr6, _⟩ := ho6.slice
       refine (ContainsI_spec hr6 (by omega) p).mono ?_
       rintro v w7 ⟨rfl, rfl⟩
       refine brE_mk (fun u => ?_) (fun u => ?_)
       · rw [show actsB K p s ((m + 1 : Nat) : Int) = true from u, if_pos rfl] at hd
         refine ⟨_, next, ?_⟩
         refine ⟨(m, ((m + 1 : Nat) : Int), _), ⟨rfl, rfl, rfl, rfl, rfl, rfl, rfl, trivial⟩, ⟨by show m ≤ 4; omega, e25.trans e6, ?_⟩, by show m < m + 1; omega⟩
         exact hd.symm
       · rw [show actsB K p s ((m + 1 : Nat) : Int) = false from u, if_neg (by decide)] at hd
         refine ⟨_, next, ?_⟩
         refine ⟨(m, a, b), ⟨rfl, rfl, rfl, rfl, rfl, rfl, rfl, trivial⟩, ⟨by show m ≤ 4; omega, e25.trans e6, ?_⟩, by show m < m + 1; omega⟩
         show (a, b) = _
         rw [hd])

theorem HoldsClass_spec {w : World} {A : Option Addr} {l : List Fact} {c : Nat} (h : HF w A l c) (hl : l.length ≤ 2 ^ 20) (k day p s : Int) :
    CallsV C.P 70 #[.slice A l.length c, .int .i64 k, .int .i64 day, .int .i64 p, .int .i64 s] w fun v w' => v = .int .i64 (leastL (atL k day l) p s) ∧ Ext w w' := by
  refine callsV_of C_ok (args := [_, _, _, _, _]) (plans := []) Tryz.func70 rfl Tryz.ntmps70 (by kernel_rfl) (Nat.le_of_ble_eq_true rfl) ?_
  refine (look_spec h hl k day).mono ?_
  rintro v w1 ⟨hK, e1⟩
  have hkl := atL_length k day l
  generalize atL k day l = K at *
  obtain ⟨AK, cK, rfl, hrK, _⟩ := hK.slice
  have hKl : K.length ≤ 2 ^ 20 := by omega
  unfold leastL
  refine loopE C_ok (fun (n : Nat) => [(3, .int .i64 p), (4, .int .i64 s), (11, .slice AK K.length cK), (12, .int .i64 ((n + 1 : Nat) : Int))])
    (fun n w' => n ≤ 4 ∧ Ext w1 w' ∧ leastAt K p s classes = leastAt K p s (classes.drop n)) (fun n => 4 - n) 0
    ⟨rfl, rfl, rfl, rfl, trivial⟩ ⟨Nat.zero_le _, Ext.refl _, rfl⟩ ?_
  rintro n w2 ⟨hn, e2, hc⟩
  refine brE_dec (fun hlt => ?_) (fun hge => ?_)
  case' refine_2 =>
    have : n = 4 := by have : ¬ ((n + 1 : Nat) : Int) < 5 := hge; omega
    subst this
    exact ⟨by rw [hc]; rfl, e1.trans e2⟩
  have hlt : n < 4 := by have : ((n + 1 : Nat) : Int) < 5 := hlt; omega
  have next : IntKind.i64.wrap (((n + 1 : Nat) : Int) + 1) = ((n + 1 + 1 : Nat) : Int) := by rw [fit ⟨by omega, by omega⟩]; omega
  have hd : leastAt K p s (classes.drop n) = if (decide (p ∈ livingL K 2 s ((n + 1 : Nat) : Int)) || actsB K p s ((n + 1 : Nat) : Int)) = true then ((n + 1 : Nat) : Int) else leastAt K p s (classes.drop (n + 1)) := by
    rw [classes_drop hlt]; rfl
  rw [hd] at hc
  refine (living_spec (hrK.ext e2) hKl 2 s ((n + 1 : Nat) : Int)).mono ?_
  rintro v w3 ⟨ho3, e3⟩
  have hl3 := livingL_length K 2 s ((n + 1 : Nat) : Int)
  obtain ⟨A3, k3, rfl, hr3, _⟩ := ho3.slice
  refine (ContainsI_spec hr3 (by omega) p).mono ?_
  rintro v w4 ⟨rfl, rfl⟩
  have e23 := e2.trans e3
  refine brE_mk (fun t => ?_) (fun t => ?_)
  · rw [t, Bool.true_or, if_pos rfl] at hc
    exact ⟨by rw [hc], e1.trans e23⟩
  rw [t, Bool.false_or] at hc
  refine (living_spec (hrK.ext e23) hKl 3 s ((n + 1 : Nat) : Int)).mono ?_
  rintro v w6 ⟨ho6, e6⟩
  have hl6 := livingL_length K 3 s ((n + 1 : Nat) : Int)
  obtain ⟨A6, k6, rfl, hr6, _⟩ := ho6.slice
  refine (ContainsI_spec hr6 (by omega) p).mono ?_
  rintro v w7 ⟨rfl, rfl⟩
  refine brE_mk (fun u => ?_) (fun u => ?_)
  · rw [show actsB K p s ((n + 1 : Nat) : Int) = true from u, if_pos rfl] at hc
    exact ⟨by rw [hc], (e1.trans e23).trans e6⟩
  · rw [show actsB K p s ((n + 1 : Nat) : Int) = false from u, if_neg (by decide)] at hc
    refine ⟨_, next, ?_⟩
    exact ⟨n + 1, ⟨rfl, rfl, rfl, rfl, trivial⟩, ⟨hlt, e23.trans e6, hc⟩, by omega⟩

def contB (K : List Fact) (x : Fact) : Bool := decide (x.kind = 2 ∧ x.other = 1) && decide (1 < (livingL K 2 x.what 1).length)
theorem contestedL_eq (K : List Fact) : contestedL K = sortD ((K.filter (contB K)).map Fact.what) := rfl

set_option maxRecDepth 100000 in
theorem Contested_spec {w : World} {A : Option Addr} {l : List Fact} {c : Nat} (h : HF w A l c) (hl : l.length ≤ 2 ^ 20) (k day : Int) :
    CallsV C.P 67 #[.slice A l.length c, .int .i64 k, .int .i64 day] w fun v w' => NewInts w.heap.size w' v (contestedL (atL k day l)) ∧ Ext w w' := by
  refine callsV_of C_ok (args := [_, _, _]) (plans := []) Tryz.func67 rfl Tryz.ntmps67 (by kernel_rfl) (Nat.le_of_ble_eq_true rfl) ?_
  refine (look_spec h hl k day).mono ?_
  rintro v w1 ⟨hK, e1⟩
  have hkl := atL_length k day l
  generalize atL k day l = K at *
  rw [contestedL_eq]
  obtain ⟨AK, cK, rfl, hrK, _⟩ := hK.slice
  have hKl : K.length ≤ 2 ^ 20 := by omega
  refine loopE C_ok (fun (t : Nat × Value) => [(7, .slice AK K.length cK), (8, t.2), (15, .slice AK K.length cK), (16, .int .i64 K.length), (17, .int .i64 t.1)])
    (fun t w' => t.1 ≤ K.length ∧ Ext w1 w' ∧ NewInts w1.heap.size w' t.2 (((K.take t.1).filter (contB K)).map Fact.what)) (fun t => K.length - t.1) (0, .slice none 0 0)
    ⟨rfl, rfl, rfl, rfl, rfl, trivial⟩ ⟨Nat.zero_le _, Ext.refl _, newInts_nil _ _⟩ ?_
  rintro ⟨i, v⟩ w2 ⟨hi', e2, ho'⟩
  have hi : i ≤ K.length := hi'
  have ho : NewInts w1.heap.size w2 v (((K.take i).filter (contB K)).map Fact.what) := ho'
  clear hi' ho'
  refine brE_dec (fun hlt => ?_) (fun hge => ?_)
  · have hlt : i < K.length := by have : (i : Int) < (K.length : Nat) := hlt; omega
    have next : IntKind.i64.wrap ((i : Int) + 1) = ((i + 1 : Nat) : Int) := fit ⟨by omega, by omega⟩
    have hlen := fm_take_length (contB K) Fact.what K i
    have step := fm_take (p := contB K) (f := Fact.what) hlt
    obtain ⟨b, o, hA, hc⟩ := Reads.fact (hrK.ext e2) hlt
    refine ⟨i, b, o, rfl, hlt, hA, ?_⟩
    refine ⟨K[i].cells, rfl, hc, ?_⟩
    intro g w3 h3
    refine ⟨rfl, _, _, h3.here, Nat.le_of_ble_eq_true rfl, rfl, ?_⟩
    intro w4 h4
    have h4 : Put w3 g (.cells K[i].cells.toArray 29 (0, 0)) w4 := h4
    have e24 : Ext w2 w4 := h4.ext_of h3.ext (by rw [h3.new]; exact Nat.le_refl _)
    have skip : ∀ {w' : World}, Ext w2 w' → contB K K[i] = false → i + 1 ≤ K.length ∧ Ext w1 w' ∧ NewInts w1.heap.size w' v (((K.take (i + 1)).filter (contB K)).map Fact.what) := fun e h => by
      rw [step, h, if_neg (by decide), List.append_nil]
      exact ⟨hlt, e2.trans e, ho.ext e⟩
    refine ⟨_, cell_of_block h4.here rfl, ?_⟩
    refine brE_dec (fun a1 => ?_) (fun a1 => ?_)
    case' refine_2 =>
      have a1 : ¬ K[i].kind = 2 := a1
      refine ⟨_, next, ?_⟩
      exact ⟨(i + 1, v), ⟨rfl, rfl, rfl, rfl, rfl, trivial⟩, skip e24 (by unfold contB; rw [decide_eq_false fun h => a1 h.1]; rfl), by show K.length - (i + 1) < K.length - i; omega⟩
    have a1 : K[i].kind = 2 := a1
    refine ⟨_, cell_of_block h4.here rfl, ?_⟩
    refine brE_dec (fun a2 => ?_) (fun a2 => ?_)
    case' refine_2 =>
      have a2 : ¬ K[i].other = 1 := a2
      refine ⟨_, next, ?_⟩
      exact ⟨(i + 1, v), ⟨rfl, rfl, rfl, rfl, rfl, trivial⟩, skip e24 (by unfold contB; rw [decide_eq_false fun h => a2 h.2]; rfl), by show K.length - (i + 1) < K.length - i; omega⟩
    have a2 : K[i].other = 1 := a2
    refine ⟨_, cell_of_block h4.here rfl, ?_⟩
    refine (living_spec (hrK.ext (e2.trans e24)) hKl 2 K[i].what 1).mono ?_
    rintro v5 w5 ⟨ho5, e5⟩
    have e25 := e24.trans e5
    have hb : contB K K[i] = decide (1 < (livingL K 2 K[i].what 1).length) := by unfold contB; rw [decide_eq_true ⟨a1, a2⟩, Bool.true_and]
    obtain ⟨A5, k5, rfl, hr5, _⟩ := ho5.slice
    refine brE_dec (fun a4 => ?_) (fun a4 => ?_)
    · have a4 : ((livingL K 2 K[i].what 1).length : Int) > 1 := a4
      rw [hb, decide_eq_true (by omega), if_pos rfl] at step
      refine ⟨_, cell_of_block (e5.heap h4.here) rfl, ?_⟩
      intro g6 w6 h6
      have ho6 : w6.ownsRow w1.heap.size 3 1 v _ _ := ownsRow_ext ho (e25.trans h6.ext)
      have e6 := (e2.trans e25).trans h6.ext
      refine ⟨rfl, rfl, rfl, w1.heap.size, _, _, [.int .i64 K[i].what], ho6, e6.size, Nat.le_of_ble_eq_true rfl, rfl, rfl, .inr ⟨g6, 0, rfl, Rd.of_block h6.here⟩, rfl, rfl, by omega, by simp only [maxLen]; omega, ?_⟩
      intro v7 w7 ho7 hg7 _
      refine ⟨_, next, ?_⟩
      refine ⟨(i + 1, v7), ⟨rfl, rfl, rfl, rfl, rfl, trivial⟩, ⟨hlt, app_ext e6 ho6 hg7, ?_⟩, by show K.length - (i + 1) < K.length - i; omega⟩
      show NewInts w1.heap.size w7 v7 (((K.take (i + 1)).filter (contB K)).map Fact.what)
      rw [step]
      unfold NewInts
      rw [ints_append, List.length_append]
      exact ho7
    · have a4 : ¬ ((livingL K 2 K[i].what 1).length : Int) > 1 := a4
      refine ⟨_, next, ?_⟩
      exact ⟨(i + 1, v), ⟨rfl, rfl, rfl, rfl, rfl, trivial⟩, skip e25 (by rw [hb, decide_eq_false (by omega)]), by show K.length - (i + 1) < K.length - i; omega⟩
  · have : i = K.length := by have : ¬ (i : Int) < (K.length : Nat) := hge; omega
    subst this
    rw [List.take_length] at ho
    have hlen := fm_length (contB K) Fact.what K
    refine (sorted_spec ho e2.size (by omega)).mono ?_
    rintro v3 w3 ⟨ho3, b3⟩
    exact ⟨NewInts.base ho3 e1.size, e1.trans (Below.trans e2 b3)⟩

end Go.Proofs.YthpdkdmbfdmamaaGreatDoor
