/- a part of the proof: steps, walks and plain laws that the law below stands on; no condition. -/
import Derived.Test.YtcnbpfecgokhiaaGreatDoorDBb
set_option linter.unusedVariables false
set_option linter.unusedSimpArgs false
set_option linter.unnecessarySimpa false
set_option linter.unusedSectionVars false
namespace Go.Eng
open Go.RowKit

theorem splice_mid (a b c d : List Value) (h : d.length = b.length) : splice (a ++ (b ++ c)) a.length d = a ++ (d ++ c) := by
  unfold splice
  rw [List.take_append_of_le_length (Nat.le_refl _), List.take_length, List.append_assoc]
  congr 2
  rw [List.drop_append, List.drop_eq_nil_of_le (by omega), List.nil_append, h, Nat.add_sub_cancel_left, List.drop_append, List.drop_length, List.nil_append, Nat.sub_self, List.drop_zero]

theorem flat_set {α : Type} {enc : α → List Value} {k : Nat} (hk : ∀ x, (enc x).length = k) {l : List α} {i : Nat} (hi : i < l.length) (x : α) : splice (l.flatMap enc) (i * k) (enc x) = (l.set i x).flatMap enc := by
  have e1 : l.flatMap enc = (l.take i).flatMap enc ++ (enc l[i] ++ (l.drop (i + 1)).flatMap enc) := by
    conv => lhs; rw [← List.take_append_drop i l, List.drop_eq_getElem_cons hi]
    rw [List.flatMap_append, List.flatMap_cons]
  have e2 : (l.set i x).flatMap enc = (l.take i).flatMap enc ++ (enc x ++ (l.drop (i + 1)).flatMap enc) := by
    rw [List.set_eq_take_append_cons_drop, if_pos hi, List.flatMap_append, List.flatMap_cons]
  have hl : ((l.take i).flatMap enc).length = i * k := by rw [flat_length hk, List.length_take, Nat.min_eq_left (Nat.le_of_lt hi)]
  rw [e1, e2, ← hl]
  exact splice_mid _ _ _ _ (by rw [hk, hk])

theorem flat_take {α : Type} {enc : α → List Value} {k : Nat} (hk : ∀ x, (enc x).length = k) {l : List α} {i : Nat} (hi : i ≤ l.length) : (l.flatMap enc).take (i * k) = (l.take i).flatMap enc := by
  have e : l.flatMap enc = (l.take i).flatMap enc ++ (l.drop i).flatMap enc := by rw [← List.flatMap_append, List.take_append_drop]
  have hl : ((l.take i).flatMap enc).length = i * k := by rw [flat_length hk, List.length_take, Nat.min_eq_left hi]
  rw [e, List.take_append_of_le_length (by omega), ← hl, List.take_length]

theorem splice_take_at {cs vs : List Value} {i : Nat} (h : i ≤ cs.length) : (splice cs i vs).take i = cs.take i := by
  unfold splice
  rw [List.append_assoc, List.take_append_of_le_length (by simp; omega), List.take_take, Nat.min_self]
theorem put_below {B g : Nat} {o : Obj} {w w' : World} (h : Put w g o w') (hg : B ≤ g) : Below B w w' := below_put (Below.refl _ _) h hg

/-- What is kept of a row while it is gone through. -/
theorem keep_at {α : Type} {p : α → Bool} {l : List α} {j : Nat} (hj : j < l.length) : (l.take (j + 1)).filter (fun x => !p x) = (l.take j).filter (fun x => !p x) ++ if p l[j] = true then [] else [l[j]] := by
  rw [List.take_succ_eq_append_getElem hj, List.filter_append, List.filter_cons, List.filter_nil]
  cases p l[j] <;> rfl
theorem keep_first {α : Type} {p : α → Bool} {l : List α} {i : Nat} (hi : i < l.length) (hp : p l[i] = true) (h : ∀ j (hj : j < l.length), j < i → p l[j] = false) : (l.take (i + 1)).filter (fun x => !p x) = l.take i := by
  rw [keep_at hi, if_pos hp, List.append_nil]
  refine List.filter_eq_self.2 fun x hx => ?_
  obtain ⟨j, hj, rfl⟩ := List.getElem_of_mem hx
  rw [List.length_take] at hj
  rw [List.getElem_take, h j (by omega) (by omega)]
  rfl

end Go.Eng

namespace Go.Proofs.YtcnbpfecgokhiaaGreatDoor
open Go.Eng Go.RowKit

theorem IndexFuncF_spec {w : World} {A : Option Addr} {l : List Fact} {c gd : Nat} {cb : Array Value} {p : Fact → Bool} (hr : Reads w A (fcells l)) (hl : l.length ≤ 2 ^ 20) (hgd : C.can gd = true)
    (hdel : ∀ (x : Fact) (w' : World), Ext w w' → CallsV C.P gd (#[] ++ [x.val].toArray ++ cb) w' fun v w'' => v = .bool (p x) ∧ Ext w' w'') :
    CallsV C.P 249 #[.slice A l.length c, .func (.func gd) #[] cb] w fun v w' => ((v = .int .i64 (-1) ∧ ∀ x ∈ l, p x = false) ∨ ∃ i : Nat, v = .int .i64 (i : Nat) ∧ ∃ h : i < l.length, p l[i] = true ∧ ∀ j (hj : j < l.length), j < i → p l[j] = false) ∧ Ext w w' := by
  refine callsV_of C_ok (args := [_, _]) (plans := []) Tryz.func249 rfl Tryz.ntmps249 (by kernel_rfl) (Nat.le_of_ble_eq_true rfl) ?_
  refine loopE C_ok (fun (i : Nat) => [(0, .slice A l.length c), (1, .func (.func gd) #[] cb), (7, .int .i64 l.length), (8, .int .i64 i)])
    (fun i w' => Ext w w' ∧ i ≤ l.length ∧ ∀ j (hj : j < l.length), j < i → p l[j] = false) (fun i => l.length - i) 0 ⟨rfl, rfl, rfl, rfl, trivial⟩
    ⟨Ext.refl _, Nat.zero_le _, fun j _ hj => absurd hj (Nat.not_lt_zero _)⟩ ?_
  rintro i w1 ⟨e1, hi, hall⟩
  refine brE_dec (fun hlt => ?_) (fun hge => ?_)
  · have hlt : i < l.length := by have : (i : Int) < (l.length : Nat) := hlt; omega
    obtain ⟨b, o, hA, hc⟩ := Reads.fact (hr.ext e1) hlt
    refine ⟨i, b, o, rfl, hlt, hA, ?_⟩
    refine ⟨l[i].cells, rfl, hc, ?_⟩
    refine brE_true hgd ?_
    refine (hdel l[i] w1 e1).mono ?_
    rintro v w2 ⟨rfl, e2⟩
    refine brE_mk (fun h2 => ?_) (fun h2 => ?_)
    · exact ⟨.inr ⟨i, rfl, hlt, h2, hall⟩, e1.trans e2⟩
    · refine ⟨((i + 1 : Nat) : Int), fit ⟨by omega, by omega⟩, ?_⟩
      refine ⟨i + 1, ⟨rfl, rfl, rfl, rfl, trivial⟩, ⟨e1.trans e2, hlt, fun j hj hji => ?_⟩, by omega⟩
      rcases Nat.lt_or_ge j i with h | h
      · exact hall j hj h
      · obtain rfl : j = i := by omega
        exact h2
  · have : i = l.length := by have : ¬ (i : Int) < (l.length : Nat) := hge; omega
    subst this
    refine ⟨.inl ⟨rfl, fun x hx => ?_⟩, e1⟩
    obtain ⟨j, hj, rfl⟩ := List.getElem_of_mem hx
    exact hall j hj hj

set_option maxRecDepth 100000 in
theorem DeleteFuncF_spec {B : Nat} {w : World} {v : Value} {l : List Fact} {gd : Nat} {cb : Array Value} {p : Fact → Bool} (ho : NewF B w v l) (hB : B ≤ w.heap.size) (hl : l.length ≤ 2 ^ 20) (hgd : C.can gd = true)
    (hdel : ∀ (x : Fact) (w' : World), Below B w w' → CallsV C.P gd (#[] ++ [x.val].toArray ++ cb) w' fun v w'' => v = .bool (p x) ∧ Ext w' w'') :
    CallsV C.P 228 #[v, .func (.func gd) #[] cb] w fun v' w' => NewF B w' v' (l.filter fun x => !p x) ∧ Below B w w' := by
  obtain ⟨A, cap, rfl, hR, hlc⟩ := ho.slice
  refine callsV_of C_ok (args := [_, _]) (plans := []) Tryz.func228 rfl Tryz.ntmps228 (by kernel_rfl) (Nat.le_of_ble_eq_true rfl) ?_
  refine (IndexFuncF_spec hR hl hgd fun x w' e => hdel x w' (e.mono hB)).mono ?_
  rintro v w1 ⟨hi | ⟨i0, rfl, hi0, hsm, hfirst⟩, e1⟩
  · obtain ⟨rfl, hall⟩ := hi
    have e : (l.filter fun x => !p x) = l := List.filter_eq_self.2 fun x hx => by rw [hall x hx]; rfl
    rw [e]
    exact ⟨ho.ext e1, e1.mono hB⟩
  refine ⟨((i0 + 1 : Nat) : Int), fit ⟨by omega, by omega⟩, ?_⟩
  have hA : ∃ g, A = some ⟨g, 0, none⟩ := by
    obtain ⟨_, ⟨hv, h0⟩ | ⟨g, cap', cur, hv, _⟩⟩ := ho
    · omega
    · simp at hv; exact ⟨g, hv.1⟩
  obtain ⟨g, rfl⟩ := hA
  have kp0 := keep_first hi0 hsm hfirst
  have ho1 : w1.ownsRow B 81 9 (.slice (some ⟨g, 0, none⟩) l.length cap) l.length (fcells l) := ho.ext e1
  refine loopE C_ok (fun (s : Nat × Nat × List Fact) => [(0, .slice (some ⟨g, 0, none⟩) l.length cap), (1, .func (.func gd) #[] cb), (5, .int .i64 s.2.1), (6, .int .i64 s.1)])
    (fun s w' => s.2.1 = ((l.take s.1).filter fun x => !p x).length ∧ s.2.1 < s.1 ∧ s.1 ≤ l.length ∧ s.2.2.length = l.length ∧ w'.ownsRow B 81 9 (.slice (some ⟨g, 0, none⟩) l.length cap) l.length (fcells s.2.2) ∧ s.2.2.take s.2.1 = ((l.take s.1).filter fun x => !p x) ∧ (∀ k, s.1 ≤ k → s.2.2[k]? = l[k]?) ∧ Below B w w')
    (fun s => l.length - s.1) (i0 + 1, i0, l) ⟨rfl, rfl, rfl, rfl, trivial⟩
    ⟨by show i0 = _; rw [kp0, List.length_take]; omega, Nat.lt_succ_self _, hi0, rfl, ho1, kp0.symm, fun _ _ => rfl, e1.mono hB⟩ ?_
  rintro ⟨j, i, R⟩ w2 ⟨hi', hij', hj', hRl', ho2', htake', hrest', b2⟩
  have hi : i = ((l.take j).filter fun x => !p x).length := hi'
  have hij : i < j := hij'
  have hj : j ≤ l.length := hj'
  have hRl : R.length = l.length := hRl'
  have ho2 : w2.ownsRow B 81 9 (.slice (some ⟨g, 0, none⟩) l.length cap) l.length (fcells R) := ho2'
  have htake : R.take i = ((l.take j).filter fun x => !p x) := htake'
  have hrest : ∀ k, j ≤ k → R[k]? = l[k]? := hrest'
  clear hRl' hi' hij' hj' ho2' hrest' htake'
  refine brE_dec (fun hlt => ?_) (fun hge => ?_)
  · have hlt : j < l.length := by have : (j : Int) < (l.length : Nat) := hlt; omega
    have next : IntKind.i64.wrap ((j : Int) + 1) = ((j + 1 : Nat) : Int) := fit ⟨by omega, by omega⟩
    have hRj : R[j]'(by omega) = l[j] := by
      have := hrest j (Nat.le_refl _)
      rw [List.getElem?_eq_getElem hlt, List.getElem?_eq_getElem (by omega)] at this
      exact Option.some.inj this
    have hreads : Reads w2 (some ⟨g, 0, none⟩) (fcells R) := by
      obtain ⟨A', c', e, h, _⟩ := reads_of_owns ho2
      cases e; exact h
    obtain ⟨b1, o1, hA1, hc1⟩ := Reads.fact hreads (i := j) (by omega)
    cases hA1
    rw [hRj] at hc1
    refine ⟨j, g, 0, rfl, hlt, rfl, ?_⟩
    refine ⟨l[j].cells, rfl, hc1, ?_⟩
    intro g7 w3 h3
    refine ⟨rfl, _, _, h3.here, Nat.le_of_ble_eq_true rfl, rfl, ?_⟩
    intro w4 h4
    have h4 : Put w3 g7 (.cells l[j].cells.toArray 81 (0, 0)) w4 := h4
    have e24 : Ext w2 w4 := h4.ext_of h3.ext (by rw [h3.new]; exact Nat.le_refl _)
    have hBw2 : B ≤ w2.heap.size := Nat.le_trans hB b2.size
    have b4 : Below B w w4 := b2.trans (e24.mono hBw2)
    refine ⟨l[j].cells, rfl, Rd.of_block h4.here, ?_⟩
    refine brE_true hgd ?_
    refine (hdel l[j] w4 b4).mono ?_
    rintro v w5 ⟨rfl, e5⟩
    have e25 := e24.trans e5
    have b5 : Below B w w5 := b2.trans (e25.mono hBw2)
    have ho5 := ownsRow_ext ho2 e25
    have hk := keep_at (p := p) hlt
    refine brE_mk (fun h2 => ?_) (fun h2 => ?_)
    · have h2 : p l[j] = false := by simpa using h2
      rw [h2, if_neg (by decide)] at hk
      obtain ⟨cur, hg, hgB, hcl, hccap, hncap, hdl, hct, hput⟩ := ownsRow_open ho5
      refine ⟨l[j].cells, rfl, Rd.of_block (e5.heap h4.here), ?_⟩
      refine ⟨i, g, 0, rfl, (by omega : i < l.length), rfl, ?_⟩
      refine ⟨rfl, _, _, hg, by show 0 + i * 9 + 9 ≤ cur.length; omega, rfl, ?_⟩
      intro w6 h6
      have h6 : Put w5 g (.cells (splice cur (0 + i * 9) l[j].cells).toArray 81 (0, 0)) w6 := h6
      have ho6 := hput (0 + i * 9) l[j].cells w6 (by show 0 + i * 9 + 9 ≤ _; omega) h6
      have e0 : 0 + i * 9 = i * 9 := by omega
      rw [e0] at ho6
      have hset : splice (fcells R) (i * 9) l[j].cells = fcells (R.set i l[j]) := flat_set Fact.len (by omega) _
      rw [hset] at ho6
      have nexti : IntKind.i64.wrap ((i : Int) + 1) = ((i + 1 : Nat) : Int) := fit ⟨by omega, by omega⟩
      refine ⟨_, nexti, ?_⟩
      refine ⟨_, next, ?_⟩
      refine ⟨(j + 1, i + 1, R.set i l[j]), ⟨rfl, rfl, rfl, rfl, trivial⟩, ⟨?_, by show i + 1 < j + 1; omega, hlt, by show (R.set i l[j]).length = _; rw [List.length_set, hRl], ho6, ?_, ?_, below_put b5 h6 hgB⟩, by show l.length - (j + 1) < l.length - j; omega⟩
      · show i + 1 = ((l.take (j + 1)).filter fun x => !p x).length
        rw [hk, List.length_append, ← hi]; rfl
      · show (R.set i l[j]).take (i + 1) = ((l.take (j + 1)).filter fun x => !p x)
        have hil : i < (R.set i l[j]).length := by rw [List.length_set]; omega
        rw [hk, List.take_succ_eq_append_getElem hil, List.take_set_of_le (Nat.le_refl _), htake]
        congr 1
        simp
      · intro k hk1
        show (R.set i l[j])[k]? = l[k]?
        have hk1 : j + 1 ≤ k := hk1
        rw [List.getElem?_set_ne (by omega)]
        exact hrest k (by omega)
    · have h2 : p l[j] = true := by simpa using h2
      rw [h2, if_pos rfl, List.append_nil] at hk
      refine ⟨_, next, ?_⟩
      exact ⟨(j + 1, i, R), ⟨rfl, rfl, rfl, rfl, trivial⟩, ⟨by show i = ((l.take (j + 1)).filter fun x => !p x).length; rw [hk]; exact hi, by show i < j + 1; omega, hlt, hRl, ho5, by show R.take i = ((l.take (j + 1)).filter fun x => !p x); rw [hk]; exact htake, fun k hk1 => hrest k (by have : j + 1 ≤ k := hk1; omega), b5⟩, by show l.length - (j + 1) < l.length - j; omega⟩
  · have : j = l.length := by have : ¬ (j : Int) < (l.length : Nat) := hge; omega
    subst this
    rw [List.take_length] at hi htake
    obtain ⟨cur, hg, hgB, hcl, hccap, hncap, hdl, hct, hput⟩ := ownsRow_open ho2
    refine ⟨i, l.length, rfl, rfl, by omega, by omega, ?_⟩
    have hA : (if cap = i then (some (⟨g, 0, none⟩ : Addr)) else (some (⟨g, 0, none⟩ : Addr)).map (·.add (i * 9))) = some ⟨g, 0 + i * 9, none⟩ := by
      rw [if_neg (by omega)]
      simp [add_spot]
    refine clearRow (esz := 9) C_ok rfl rfl rfl rfl rfl rfl rfl (by decide) hA (by omega) hg (by omega) ?_
    intro zs w3 hzs h3
    have ho3 := hput (0 + i * 9) zs w3 (by rw [hzs]; omega) h3
    refine ⟨0, i, rfl, rfl, Nat.zero_le _, by omega, ?_⟩
    have e : (if cap = 0 then (some ⟨g, 0, none⟩ : Option Addr) else (some (⟨g, 0, none⟩ : Addr)).map (·.add (0 * 9))) = some ⟨g, 0, none⟩ := by
      split <;> rfl
    have hcut := ownsRow_cut ho3 (k := i) (by omega)
    have e0 : 0 + i * 9 = i * 9 := by omega
    have hft : (fcells R).take (i * 9) = fcells (R.take i) := flat_take Fact.len (by omega)
    rw [e0, splice_take_at (by rw [fcells_length]; omega), hft, htake] at hcut
    refine ⟨?_, below_put b2 h3 hgB⟩
    show w3.ownsRow B 81 9 (.slice (if cap = 0 then (some ⟨g, 0, none⟩ : Option Addr) else (some (⟨g, 0, none⟩ : Addr)).map (·.add (0 * 9))) i cap) (l.filter fun x => !p x).length _
    rw [e, ← hi]
    exact hcut

end Go.Proofs.YtcnbpfecgokhiaaGreatDoor

namespace Go.Proofs.YtcnbpfecgokhiaaGreatDoor
open Go.Eng Go.RowKit

theorem ownsRow_grown {w w' : World} {base e size n : Nat} {v : Value} {xs : List Value} {row : Option Nat} (h : w.ownsRow base e size v n xs) (hg : w.grownBy w' row) (hne : v.ownBlock ≠ row) : w'.ownsRow base e size v n xs := by
  obtain ⟨hl, hv | ⟨g', cap, cur, hv, hb, hg', h1⟩⟩ := h
  · exact ⟨hl, .inl hv⟩
  · refine ⟨hl, .inr ⟨g', cap, cur, hv, hb, ?_, h1⟩⟩
    rw [hg.block g' (lt_of_heap hg') (fun e => hne (by rw [hv, ← e]; rfl))]
    exact hg'

theorem rev_get {l : List Fact} {k : Nat} (hk : k < l.length) : l.reverse[k]? = l[l.length - 1 - k]? := by
  rw [List.getElem?_reverse hk]

set_option maxRecDepth 100000 in
theorem ReverseF_spec {B : Nat} {w : World} {v : Value} {l : List Fact} (ho : NewF B w v l) (hl : l.length ≤ 2 ^ 20) :
    CallsV C.P 251 #[v] w fun v' w' => v' = .tuple #[] ∧ NewF B w' v l.reverse ∧ Below B w w' := by
  obtain ⟨A, cap, rfl, hR, hlc⟩ := ho.slice
  refine callsV_of C_ok (args := [_]) (plans := plans251) Tryz.func251 rfl Tryz.ntmps251 (by kernel_rfl) (Nat.le_of_ble_eq_true rfl) ?_
  refine ⟨(l.length : Int) - 1, fit ⟨by omega, by omega⟩, ?_⟩
  refine loopE C_ok (fun (s : Nat × List Fact) => [(0, .slice A l.length cap), (2, .int .i64 s.1), (3, .int .i64 ((l.length : Int) - 1 - s.1))])
    (fun s w' => 2 * s.1 ≤ l.length ∧ s.2.length = l.length ∧ w'.ownsRow B 81 9 (.slice A l.length cap) l.length (fcells s.2) ∧ (∀ k, k < s.1 → s.2[k]? = l.reverse[k]?) ∧ (∀ k, l.length - s.1 ≤ k → s.2[k]? = l.reverse[k]?) ∧ (∀ k, s.1 ≤ k → k < l.length - s.1 → s.2[k]? = l[k]?) ∧ Below B w w')
    (fun s => l.length - s.1) (0, l) ⟨rfl, rfl, congrArg (fun z : Int => some (Value.int .i64 z)) (by omega : (l.length : Int) - 1 = (l.length : Int) - 1 - ((0 : Nat) : Int)), trivial⟩ ⟨Nat.zero_le _, rfl, ho, fun k h => absurd h (Nat.not_lt_zero _), fun k h => by rw [List.getElem?_eq_none (by simpa using h), List.getElem?_eq_none (by simpa using h)], fun _ _ _ => rfl, Below.refl _ _⟩ ?_
  rintro ⟨i, R⟩ w1 ⟨hi2', hRl', ho1', hlo', hhi', hmid', b1⟩
  have hi2 : 2 * i ≤ l.length := hi2'
  have hRl : R.length = l.length := hRl'
  have ho1 : w1.ownsRow B 81 9 (.slice A l.length cap) l.length (fcells R) := ho1'
  have hlo : ∀ k, k < i → R[k]? = l.reverse[k]? := hlo'
  have hhi : ∀ k, l.length - i ≤ k → R[k]? = l.reverse[k]? := hhi'
  have hmid : ∀ k, i ≤ k → k < l.length - i → R[k]? = l[k]? := hmid'
  clear hRl' hhi' hi2' hlo' hmid' ho1'
  refine brE_dec (fun hlt => ?_) (fun hge => ?_)
  · have hlt : (i : Int) < (l.length : Int) - 1 - i := hlt
    obtain ⟨j, hj⟩ : ∃ j : Nat, j = l.length - 1 - i := ⟨_, rfl⟩
    have hij : i < j := by omega
    have hjl : j < l.length := by omega
    have hA : ∃ g, A = some ⟨g, 0, none⟩ := by
      obtain ⟨_, ⟨hv, h0⟩ | ⟨g, cap', cur, hv, _⟩⟩ := ho
      · omega
      · simp at hv; exact ⟨g, hv.1⟩
    obtain ⟨g, rfl⟩ := hA
    have hreads : Reads w1 (some ⟨g, 0, none⟩) (fcells R) := by
      obtain ⟨A', c', e, h, _⟩ := reads_of_owns ho1
      cases e; exact h
    have hRi : R[i]'(by omega) = l[i]'(by omega) := by
      have := hmid i (Nat.le_refl _) (by omega)
      rw [List.getElem?_eq_getElem (by omega), List.getElem?_eq_getElem (by omega)] at this
      exact Option.some.inj this
    have hRj : R[j]'(by omega) = l[j]'hjl := by
      have := hmid j (by omega) (by omega)
      rw [List.getElem?_eq_getElem (by omega), List.getElem?_eq_getElem (by omega)] at this
      exact Option.some.inj this
    obtain ⟨b2, o2, hA2, hc2⟩ := Reads.fact hreads (i := j) (by omega)
    obtain ⟨b3, o3, hA3, hc3⟩ := Reads.fact hreads (i := i) (by omega)
    cases hA2
    cases hA3
    rw [hRj] at hc2
    rw [hRi] at hc3
    obtain ⟨cur, hg, hgB, hcl, hccap, hncap, hdl, hct, hput⟩ := ownsRow_open ho1
    refine ⟨j, g, 0, by omega, hjl, rfl, ?_⟩
    refine ⟨l[j].cells, rfl, hc2, ?_⟩
    refine ⟨i, g, 0, rfl, (by omega : i < l.length), rfl, ?_⟩
    refine ⟨l[i].cells, rfl, hc3, ?_⟩
    refine ⟨i, g, 0, rfl, (by omega : i < l.length), rfl, ?_⟩
    refine ⟨rfl, _, _, hg, by show 0 + i * 9 + 9 ≤ cur.length; omega, rfl, ?_⟩
    intro w4 h4
    have h4 : Put w1 g (.cells (splice cur (0 + i * 9) l[j].cells).toArray 81 (0, 0)) w4 := h4
    have ho4 := hput (0 + i * 9) l[j].cells w4 (by show 0 + i * 9 + 9 ≤ _; omega) h4
    have e0 : 0 + i * 9 = i * 9 := by omega
    have hset : splice (fcells R) (i * 9) l[j].cells = fcells (R.set i l[j]) := flat_set Fact.len (by omega) _
    rw [e0, hset] at ho4
    obtain ⟨cur4, hg4, hgB4, hcl4, hccap4, hncap4, hdl4, hct4, hput4⟩ := ownsRow_open ho4
    refine ⟨j, g, 0, by omega, hjl, rfl, ?_⟩
    refine ⟨rfl, _, _, hg4, by show 0 + j * 9 + 9 ≤ cur4.length; omega, rfl, ?_⟩
    intro w5 h5
    have h5 : Put w4 g (.cells (splice cur4 (0 + j * 9) l[i].cells).toArray 81 (0, 0)) w5 := h5
    have ho5 := hput4 (0 + j * 9) l[i].cells w5 (by show 0 + j * 9 + 9 ≤ _; omega) h5
    have e1 : 0 + j * 9 = j * 9 := by omega
    have hset2 : splice (fcells (R.set i l[j])) (j * 9) l[i].cells = fcells ((R.set i l[j]).set j l[i]) := flat_set Fact.len (by rw [List.length_set]; omega) _
    rw [e1, hset2] at ho5
    refine ⟨((i + 1 : Nat) : Int), fit ⟨by omega, by omega⟩, ?_⟩
    refine ⟨(l.length : Int) - 1 - ((i + 1 : Nat) : Int), by rw [fit ⟨by omega, by omega⟩]; omega, ?_⟩
    have get : ∀ k, ((R.set i l[j]).set j l[i])[k]? = if k = j then some l[i] else if k = i then some l[j] else R[k]? := by
      intro k
      rw [List.getElem?_set, List.length_set]
      by_cases h1 : j = k
      · subst h1; rw [if_pos rfl, if_pos rfl, if_pos (by omega)]
      · rw [if_neg h1, if_neg (fun e => h1 e.symm), List.getElem?_set]
        by_cases h2 : i = k
        · subst h2; rw [if_pos rfl, if_pos rfl, if_pos (by omega)]
        · rw [if_neg h2, if_neg (fun e => h2 e.symm)]
    refine ⟨(i + 1, (R.set i l[j]).set j l[i]), ⟨rfl, rfl, rfl, trivial⟩, ⟨by show 2 * (i + 1) ≤ l.length; omega, by show ((R.set i l[j]).set j l[i]).length = l.length; rw [List.length_set, List.length_set, hRl], ho5, ?_, ?_, ?_, below_put (below_put b1 h4 hgB) h5 hgB⟩, by show l.length - (i + 1) < l.length - i; omega⟩
    · intro k hk
      have hk : k < i + 1 := hk
      show ((R.set i l[j]).set j l[i])[k]? = _
      rw [get, if_neg (by omega)]
      by_cases hki : k = i
      · subst hki
        rw [if_pos rfl, rev_get (by omega), ← hj, List.getElem?_eq_getElem hjl]
      · rw [if_neg hki]; exact hlo k (by omega)
    · intro k hk
      have hk : l.length - (i + 1) ≤ k := hk
      show ((R.set i l[j]).set j l[i])[k]? = _
      rw [get]
      by_cases hkj : k = j
      · subst hkj
        rw [if_pos rfl, rev_get (by omega), show l.length - 1 - k = i by omega, List.getElem?_eq_getElem (by omega)]
      · rw [if_neg hkj, if_neg (by omega)]; exact hhi k (by omega)
    · intro k hk1 hk2
      have hk1 : i + 1 ≤ k := hk1
      have hk2 : k < l.length - (i + 1) := hk2
      show ((R.set i l[j]).set j l[i])[k]? = _
      rw [get, if_neg (by omega), if_neg (by omega)]
      exact hmid k (by omega) (by omega)
  · have hge : ¬ (i : Int) < (l.length : Int) - 1 - i := hge
    have : R = l.reverse := by
      apply List.ext_getElem?
      intro k
      by_cases h1 : k < i
      · exact hlo k h1
      · by_cases h2 : l.length - i ≤ k
        · exact hhi k h2
        · rw [hmid k (by omega) (by omega), rev_get (by omega), show l.length - 1 - k = k by omega]
    subst this
    refine ⟨rfl, ?_, b1⟩
    show w1.ownsRow _ _ _ _ l.reverse.length _
    rw [List.length_reverse]
    exact ho1

/-- The map of what is voided. -/
def VoidIs (w : World) (g : Nat) (acc : List Fact) : Prop := ∃ f, MapIs C.P 3 w g f ∧ ∀ q : Int, (f (.int .i64 q)).getD (.bool false) = .bool (voidedBy acc q)
theorem VoidIs.ext {w w' : World} {g : Nat} {acc : List Fact} (h : VoidIs w g acc) (e : Ext w w') : VoidIs w' g acc := let ⟨f, h1, h2⟩ := h; ⟨f, h1.ext e, h2⟩
theorem VoidIs.lt {w : World} {g : Nat} {acc : List Fact} (h : VoidIs w g acc) : ∃ es clk, w.heap[g]? = some (.map es clk) := let ⟨_, ⟨es, clk, hb, _⟩, _⟩ := h; ⟨es, clk, hb⟩

theorem voidedBy_snoc (acc : List Fact) (x : Fact) (q : Int) : voidedBy (acc ++ [x]) q = (voidedBy acc q || decide (x.kind = 11 ∧ x.what = q)) := by
  unfold voidedBy; rw [List.any_append]; simp

theorem Counting1_spec {w : World} {x : Fact} {g6 gm T : Nat} {acc : List Fact} (hx : x.Nums) (hc : w.heap[g6]? = some (.cells #[.map (some gm)] T (0, 0))) (hv : VoidIs w gm acc) :
    CallsV C.P 250 (#[] ++ [x.val].toArray ++ #[.pointer (some ⟨g6, 0, none⟩)]) w fun v w' => v = .bool (!voidedBy acc x.id) ∧ w.grownBy w' (some gm) ∧ VoidIs w' gm (if voidedBy acc x.id = true then acc else acc ++ [x]) := by
  refine callsV_of C_ok (args := [_, _]) (plans := []) Tryz.func250 rfl Tryz.ntmps250 (by kernel_rfl) (Nat.le_of_ble_eq_true rfl) ?_
  intro g2 w1 h1
  have M1 := (Mem.start w).alloc h1
  have hc1 := h1.ext.heap hc
  have hv1 := hv.ext h1.ext
  obtain ⟨f, hf, hfv⟩ := hv1
  refine ⟨_, cell_of_block hc1 rfl, ?_⟩
  refine ⟨_, M1.cell 0 rfl rfl, ?_⟩
  refine ⟨.bool (voidedBy acc x.id), mapGet1 C_ok (te := ty4) (x := .int .i64 x.id) (intKey hx.id) hf intK rfl rfl rfl rfl rfl rfl (hfv _), ?_⟩
  refine brE_mk (fun hb => ?_) (fun hb => ?_)
  · rw [hb, if_pos rfl]
    exact ⟨rfl, ext_grownBy h1.ext _, ⟨f, hf, hfv⟩⟩
  rw [hb, if_neg (by decide)]
  refine ⟨_, M1.cell 0 rfl rfl, ?_⟩
  refine brE_dec (fun hk => ?_) (fun hk => ?_)
  · have hk : x.kind = 11 := hk
    refine ⟨_, cell_of_block hc1 rfl, ?_⟩
    refine ⟨_, M1.cell 0 rfl rfl, ?_⟩
    refine mapPut C_ok rfl rfl (x := .int .i64 x.what) rfl rfl rfl rfl intK (intKey hx.what) hf ?_
    intro o' w2 h2 hf2
    refine ⟨rfl, grownBy_trans (ext_grownBy h1.ext _) h2.grownBy, ⟨_, hf2, fun q => ?_⟩⟩
    rw [voidedBy_snoc]
    unfold updV
    by_cases e : q = x.what
    · subst e; rw [if_pos rfl]; simp [hk]
    · rw [if_neg (fun h => e (by injection h)), hfv]
      have : decide (x.kind = 11 ∧ x.what = q) = false := decide_eq_false fun h => e h.2.symm
      rw [this, Bool.or_false]
  · have hk : ¬ x.kind = 11 := hk
    refine ⟨rfl, ext_grownBy h1.ext _, ⟨f, hf, fun q => ?_⟩⟩
    rw [voidedBy_snoc, hfv]
    have : decide (x.kind = 11 ∧ x.what = q) = false := decide_eq_false fun h => hk h.1
    rw [this, Bool.or_false]

set_option maxRecDepth 100000 in
theorem Counting_spec {w : World} {A : Option Addr} {l : List Fact} {c : Nat} (h : HF w A l c) (hl : l.length ≤ 2 ^ 20) (k : Int) :
    CallsV C.P 229 #[.slice A l.length c, .int .i64 k] w fun v w' => NewF w.heap.size w' v (countL k l) ∧ Ext w w' := by
  refine callsV_of C_ok (args := [_, _]) (plans := []) Tryz.func229 rfl Tryz.ntmps229 (by kernel_rfl) (Nat.le_of_ble_eq_true rfl) ?_
  refine (Known_spec h hl k).mono ?_
  rintro v w1 ⟨hK, e1⟩
  have hkl := knownL_length k l
  have hsub := knownL_sub (k := k) (l := l)
  have hcount : countL k l = (backL [] (knownL k l).reverse).reverse := rfl
  rw [hcount]
  clear hcount
  generalize knownL k l = K at *
  obtain ⟨AK, cK, rfl, hrK, _⟩ := hK.slice
  intro gm w2 h2
  have M2 := (Mem.start w1).alloc h2
  intro g6 w3 h3
  have M3 := M2.alloc h3
  refine ⟨rfl, _, _, M3.get 0 rfl, Nat.le_of_ble_eq_true rfl, rfl, ?_⟩
  intro w4 h4
  have M4 : Mem w1 w4 [(g6, .cells #[.map (some gm)] 181 (0, 0)), (gm, .map #[] 0)] := M3.put 0 rfl h4
  have hgm := M4.new 1 rfl
  have hg6 := M4.new 0 rfl
  have hne : gm ≠ g6 := by
    have := M4.nodup
    simp at this
    exact fun e => this e.symm
  refine ⟨[], [.pointer (some ⟨g6, 0, none⟩)], rfl, rfl, ?_⟩
  refine ⟨(K.length : Int) - 1, fit ⟨by omega, by omega⟩, ?_⟩
  refine loopE C_ok (fun (s : Nat × Value × List Fact) => [(5, .slice AK K.length cK), (7, .func (.func 250) #[] #[.pointer (some ⟨g6, 0, none⟩)]), (8, s.2.1), (9, .int .i64 ((s.1 : Int) - 1))])
    (fun s w' => s.1 ≤ K.length ∧ Mem w1 w' [(g6, .cells #[.map (some gm)] 181 (0, 0))] ∧ VoidIs w' gm s.2.2 ∧ NewF w1.heap.size w' s.2.1 s.2.2 ∧ backL [] K.reverse = backL s.2.2 (K.take s.1).reverse ∧ s.2.2.length + s.1 ≤ K.length) (fun s => s.1) (K.length, .slice none 0 0, [])
    ⟨rfl, rfl, rfl, rfl, trivial⟩ ⟨Nat.le_refl _, M4.sub (List.Sublist.cons_cons _ (List.nil_sublist _)), ⟨_, MapIs.empty (M4.get 1 rfl), fun q => rfl⟩, newF_nil _ _, by rw [List.take_length], by simp⟩ ?_
  rintro ⟨n, v, acc⟩ w5 ⟨hn', M5, hv5', ho', hb', hal'⟩
  have hn : n ≤ K.length := hn'
  have ho : NewF w1.heap.size w5 v acc := ho'
  have hv5 : VoidIs w5 gm acc := hv5'
  have hb : backL [] K.reverse = backL acc (K.take n).reverse := hb'
  have hal : acc.length + n ≤ K.length := hal'
  clear hal' hb' hn' ho' hv5'
  refine brE_dec (fun hge => ?_) (fun hlt => ?_)
  · have hge : (n : Int) - 1 ≥ 0 := hge
    obtain ⟨m, rfl⟩ : ∃ m, n = m + 1 := ⟨n - 1, by omega⟩
    have hm : m < K.length := by omega
    rw [backL_step hm] at hb
    have next : IntKind.i64.wrap ((((m + 1 : Nat) : Int) - 1) - 1) = (m : Int) - 1 := by rw [fit ⟨by omega, by omega⟩]; omega
    obtain ⟨b2, o2, hA2, hc2⟩ := Reads.fact (hrK.ext M5.ext) hm
    refine ⟨m, b2, o2, by omega, hm, hA2, ?_⟩
    refine ⟨K[m].cells, rfl, hc2, ?_⟩
    obtain ⟨es, clk, hmap5⟩ := hv5.lt
    refine (Counting1_spec (h.nums _ (hsub _ (List.getElem_mem hm))) (M5.get 0 rfl) hv5).mono ?_
    rintro v6 w6 ⟨rfl, hg56, hv6⟩
    have M6 : Mem w1 w6 [(g6, .cells #[.map (some gm)] 181 (0, 0))] := M5.grown hg56 (fun q hq => by cases hq; exact hgm) (fun p hp => by simp at hp; subst hp; exact fun e => hne (by injection e with e; exact e.symm))
    have ho6 : NewF w1.heap.size w6 v acc := ownsRow_grown ho hg56 (fun e => own_ne ho hmap5 (fun c fr e => by cases e) e.symm)
    refine brE_mk (fun hbf => ?_) (fun hbt => ?_)
    · have hbf : voidedBy acc K[m].id = false := by simpa using hbf
      rw [hbf, if_neg (by decide)] at hb hv6
      obtain ⟨b3, o3, hA3, hc3⟩ := Reads.fact (hrK.ext M6.ext) hm
      refine ⟨m, b3, o3, by omega, hm, hA3, ?_⟩
      refine ⟨K[m].cells, rfl, hc3, ?_⟩
      intro g w7 h7
      have M7 := M6.alloc h7
      have ho7 : w7.ownsRow w1.heap.size 81 9 v acc.length (fcells acc) := ownsRow_ext ho6 h7.ext
      have hv7 := hv6.ext h7.ext
      obtain ⟨es7, clk7, hmap7⟩ := hv7.lt
      refine ⟨rfl, rfl, rfl, w1.heap.size, _, _, K[m].cells, ho7, M7.ext.size, Nat.le_of_ble_eq_true rfl, rfl, rfl, .inr ⟨g, 0, rfl, Rd.of_block h7.here⟩, rfl, rfl, by omega, by simp only [maxLen]; omega, ?_⟩
      intro v8 w8 ho8 hg8 _
      have M8 : Mem w1 w8 [(g6, .cells #[.map (some gm)] 181 (0, 0))] := M7.tail.grown hg8 (fun q hq => (ho7.lt q hq).1) (fun p hp => by
        simp at hp; subst hp
        exact own_ne ho7 (M7.get 1 rfl) (fun c fr e => by cases e))
      have hv8 : VoidIs w8 gm (acc ++ [K[m]]) := by
        obtain ⟨f, hf, hfv⟩ := hv7
        exact ⟨f, hf.same (hg8.block gm (lt_of_heap hmap7) (own_ne ho7 hmap7 (fun c fr e => by cases e))), hfv⟩
      refine ⟨_, next, ?_⟩
      refine ⟨(m, v8, acc ++ [K[m]]), ⟨rfl, rfl, rfl, rfl, trivial⟩, ⟨by show m ≤ K.length; omega, M8, hv8, ?_, hb, by show (acc ++ [K[m]]).length + m ≤ K.length; simp; omega⟩, by show m < m + 1; omega⟩
      show w8.ownsRow _ _ _ v8 (acc ++ [K[m]]).length (fcells (acc ++ [K[m]]))
      rw [fcells_append, fcells_one, List.length_append]
      exact ho8
    · have hbt : voidedBy acc K[m].id = true := by simpa using hbt
      rw [hbt, if_pos rfl] at hb hv6
      refine ⟨_, next, ?_⟩
      exact ⟨(m, v, acc), ⟨rfl, rfl, rfl, rfl, trivial⟩, ⟨by show m ≤ K.length; omega, M6, hv6, ho6, hb, by show acc.length + m ≤ K.length; omega⟩, by show m < m + 1; omega⟩
  · have : n = 0 := by have : ¬ (n : Int) - 1 ≥ 0 := hlt; omega
    subst this
    have hb : backL [] K.reverse = acc := hb
    rw [hb]
    refine (ReverseF_spec ho (by omega)).mono ?_
    rintro v6 w6 ⟨rfl, ho6, b6⟩
    exact ⟨ho6.base e1.size, e1.trans (Below.trans M5.ext b6)⟩

end Go.Proofs.YtcnbpfecgokhiaaGreatDoor

namespace Go.Proofs.YtcnbpfecgokhiaaGreatDoor
open Go.Eng Go.RowKit

theorem At1_spec {w : World} {x : Fact} {g5 : Nat} {day : Int} (hc : w.heap[g5]? = some (.cells #[.int .i64 day] 3 (0, 0))) :
    CallsV C.P 230 (#[] ++ [x.val].toArray ++ #[.pointer (some ⟨g5, 0, none⟩)]) w fun v w' => v = .bool (decide (x.kind = 11) || !holdsB day x) ∧ Ext w w' := by
  refine callsV_of C_ok (args := [_, _]) (plans := []) Tryz.func230 rfl Tryz.ntmps230 (by kernel_rfl) (Nat.le_of_ble_eq_true rfl) ?_
  intro g2 w1 h1
  have M1 := (Mem.start w).alloc h1
  refine ⟨_, M1.cell 0 rfl rfl, ?_⟩
  refine brE_dec (fun hk => ?_) (fun hk => ?_)
  · have hk : x.kind = 11 := hk
    exact ⟨by rw [decide_eq_true hk]; rfl, M1.ext⟩
  · have hk : ¬ x.kind = 11 := hk
    refine ⟨x.cells, rfl, M1.rd 0 rfl, ?_⟩
    refine ⟨_, cell_of_block (h1.ext.heap hc) rfl, ?_⟩
    refine (Holds_spec x day w1).mono ?_
    rintro v w2 ⟨rfl, e2⟩
    exact ⟨by rw [decide_eq_false hk]; rfl, M1.ext.trans e2⟩

theorem At_spec {w : World} {A : Option Addr} {l : List Fact} {c : Nat} (h : HF w A l c) (hl : l.length ≤ 2 ^ 20) (k day : Int) :
    CallsV C.P 187 #[.slice A l.length c, .int .i64 k, .int .i64 day] w fun v w' => NewF w.heap.size w' v (atL k day l) ∧ Ext w w' := by
  refine callsV_of C_ok (args := [_, _, _]) (plans := []) Tryz.func187 rfl Tryz.ntmps187 (by kernel_rfl) (Nat.le_of_ble_eq_true rfl) ?_
  intro g5 w1 h1
  have M1 := (Mem.start w).alloc h1
  refine (Counting_spec (h.ext M1.ext) hl k).mono ?_
  rintro v w2 ⟨ho, e2⟩
  have hcl := countL_length k l
  refine ⟨[], [.pointer (some ⟨g5, 0, none⟩)], rfl, rfl, ?_⟩
  have hc2 : w2.heap[g5]? = some (.cells #[.int .i64 day] 3 (0, 0)) := e2.heap h1.here
  have hlt : g5 < w1.heap.size := lt_of_heap h1.here
  refine (DeleteFuncF_spec (p := fun x => decide (x.kind = 11) || !holdsB day x) ho e2.size (by omega) rfl (fun x w' b => At1_spec (by rw [b.block g5 hlt]; exact hc2))).mono ?_
  rintro v' w3 ⟨ho3, b3⟩
  refine ⟨?_, M1.ext.trans (Below.trans e2 b3)⟩
  have e : ((countL k l).filter fun x => !(decide (x.kind = 11) || !holdsB day x)) = atL k day l := by
    unfold atL
    congr 1
    funext x
    rw [Bool.not_or, Bool.not_not]
  rw [← e]
  exact ho3.base M1.ext.size

end Go.Proofs.YtcnbpfecgokhiaaGreatDoor
