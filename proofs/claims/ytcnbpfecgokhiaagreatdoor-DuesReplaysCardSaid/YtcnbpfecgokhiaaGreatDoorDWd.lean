/- slices over the structs of the dues: sought in, deleted from, cloned (printed by tools/dslices.py). -/
import Derived.Test.YtcnbpfecgokhiaaGreatDoorDWc
import Derived.Test.YtcnbpfecgokhiaaGreatDoorDBc
set_option linter.unusedVariables false
set_option linter.unusedSimpArgs false
set_option linter.unnecessarySimpa false
set_option linter.unusedSectionVars false
namespace Go.Proofs.YtcnbpfecgokhiaaGreatDoor
open Go.Eng Go.RowKit

theorem IndexFuncW_spec {w : World} {A : Option Addr} {l : List Waiv} {c gd : Nat} {cb : Array Value} {p : Waiv → Bool} (hr : Reads w A (l.flatMap Waiv.cells)) (hl : l.length ≤ 2 ^ 20) (hgd : C.can gd = true)
    (hdel : ∀ (x : Waiv) (w' : World), Ext w w' → CallsV C.P gd (#[] ++ [x.val].toArray ++ cb) w' fun v w'' => v = .bool (p x) ∧ Ext w' w'') :
    CallsV C.P 125 #[.slice A l.length c, .func (.func gd) #[] cb] w fun v w' => ((v = .int .i64 (-1) ∧ ∀ x ∈ l, p x = false) ∨ ∃ i : Nat, v = .int .i64 (i : Nat) ∧ ∃ h : i < l.length, p l[i] = true ∧ ∀ j (hj : j < l.length), j < i → p l[j] = false) ∧ Ext w w' := by
  refine callsV_of C_ok (args := [_, _]) (plans := []) Tryz.func125 rfl Tryz.ntmps125 (by kernel_rfl) (Nat.le_of_ble_eq_true rfl) ?_
  refine loopE C_ok (fun (i : Nat) => [(0, .slice A l.length c), (1, .func (.func gd) #[] cb), (7, .int .i64 l.length), (8, .int .i64 i)])
    (fun i w' => Ext w w' ∧ i ≤ l.length ∧ ∀ j (hj : j < l.length), j < i → p l[j] = false) (fun i => l.length - i) 0 ⟨rfl, rfl, rfl, rfl, trivial⟩
    ⟨Ext.refl _, Nat.zero_le _, fun j _ hj => absurd hj (Nat.not_lt_zero _)⟩ ?_
  rintro i w1 ⟨e1, hi, hall⟩
  refine brE_dec (fun hlt => ?_) (fun hge => ?_)
  · have hlt : i < l.length := by have : (i : Int) < (l.length : Nat) := hlt; omega
    obtain ⟨b, o, hA, hc⟩ := Reads.elem Waiv.len (by omega) (hr.ext e1) hlt
    refine ⟨i, b, o, rfl, hlt, hA, ?_⟩
    refine ⟨l[i].cells, rfl, hc, ?_⟩
    refine brE_true hgd ?_
    refine (hdel l[i] w1 e1).mono ?_
    rintro v w2 ⟨rfl, e2⟩
    refine brE_mk (fun h2 => ?_) (fun h2 => ?_)
    · exact ⟨.inr ⟨i, rfl, hlt, h2, hall⟩, e1.trans e2⟩
    · refine ⟨((i + 1 : Nat) : Int), fit ⟨by omega, by omega⟩, ?_⟩
      refine ⟨i + 1, ⟨rfl, rfl, rfl, rfl, trivial⟩, ⟨e1.trans e2, hlt, fun j hj hji => ?_⟩, by omega⟩
      rcases Nat.lt_or_ge j i with h | h
      · exact hall j hj h
      · obtain rfl : j = i := by omega
        exact h2
  · have : i = l.length := by have : ¬ (i : Int) < (l.length : Nat) := hge; omega
    subst this
    refine ⟨.inl ⟨rfl, fun x hx => ?_⟩, e1⟩
    obtain ⟨j, hj, rfl⟩ := List.getElem_of_mem hx
    exact hall j hj hj

set_option maxRecDepth 100000 in
theorem DeleteFuncW_spec {B : Nat} {w : World} {v : Value} {l : List Waiv} {gd : Nat} {cb : Array Value} {p : Waiv → Bool} (ho : NewL Waiv.cells 35 9 B w v l) (hB : B ≤ w.heap.size) (hl : l.length ≤ 2 ^ 20) (hgd : C.can gd = true)
    (hdel : ∀ (x : Waiv) (w' : World), Below B w w' → CallsV C.P gd (#[] ++ [x.val].toArray ++ cb) w' fun v w'' => v = .bool (p x) ∧ Ext w' w'') :
    CallsV C.P 78 #[v, .func (.func gd) #[] cb] w fun v' w' => NewL Waiv.cells 35 9 B w' v' (l.filter fun x => !p x) ∧ Below B w w' := by
  obtain ⟨A, cap, rfl, hR, hlc⟩ := reads_of_owns ho
  refine callsV_of C_ok (args := [_, _]) (plans := []) Tryz.func78 rfl Tryz.ntmps78 (by kernel_rfl) (Nat.le_of_ble_eq_true rfl) ?_
  refine (IndexFuncW_spec hR hl hgd fun x w' e => hdel x w' (e.mono hB)).mono ?_
  rintro v w1 ⟨hi | ⟨i0, rfl, hi0, hsm, hfirst⟩, e1⟩
  · obtain ⟨rfl, hall⟩ := hi
    have e : (l.filter fun x => !p x) = l := List.filter_eq_self.2 fun x hx => by rw [hall x hx]; rfl
    rw [e]
    exact ⟨ho.ext e1, e1.mono hB⟩
  refine ⟨((i0 + 1 : Nat) : Int), fit ⟨by omega, by omega⟩, ?_⟩
  have hA : ∃ g, A = some ⟨g, 0, none⟩ := by
    obtain ⟨_, ⟨hv, h0⟩ | ⟨g, cap', cur, hv, _⟩⟩ := ho
    · omega
    · simp at hv; exact ⟨g, hv.1⟩
  obtain ⟨g, rfl⟩ := hA
  have kp0 := keep_first hi0 hsm hfirst
  have ho1 : w1.ownsRow B 35 9 (.slice (some ⟨g, 0, none⟩) l.length cap) l.length (l.flatMap Waiv.cells) := ho.ext e1
  refine loopE C_ok (fun (s : Nat × Nat × List Waiv) => [(0, .slice (some ⟨g, 0, none⟩) l.length cap), (1, .func (.func gd) #[] cb), (5, .int .i64 s.2.1), (6, .int .i64 s.1)])
    (fun s w' => s.2.1 = ((l.take s.1).filter fun x => !p x).length ∧ s.2.1 < s.1 ∧ s.1 ≤ l.length ∧ s.2.2.length = l.length ∧ w'.ownsRow B 35 9 (.slice (some ⟨g, 0, none⟩) l.length cap) l.length (s.2.2.flatMap Waiv.cells) ∧ s.2.2.take s.2.1 = ((l.take s.1).filter fun x => !p x) ∧ (∀ k, s.1 ≤ k → s.2.2[k]? = l[k]?) ∧ Below B w w')
    (fun s => l.length - s.1) (i0 + 1, i0, l) ⟨rfl, rfl, rfl, rfl, trivial⟩
    ⟨by show i0 = _; rw [kp0, List.length_take]; omega, Nat.lt_succ_self _, hi0, rfl, ho1, kp0.symm, fun _ _ => rfl, e1.mono hB⟩ ?_
  rintro ⟨j, i, R⟩ w2 ⟨hi', hij', hj', hRl', ho2', htake', hrest', b2⟩
  have hi : i = ((l.take j).filter fun x => !p x).length := hi'
  have hij : i < j := hij'
  have hj : j ≤ l.length := hj'
  have hRl : R.length = l.length := hRl'
  have ho2 : w2.ownsRow B 35 9 (.slice (some ⟨g, 0, none⟩) l.length cap) l.length (R.flatMap Waiv.cells) := ho2'
  have htake : R.take i = ((l.take j).filter fun x => !p x) := htake'
  have hrest : ∀ k, j ≤ k → R[k]? = l[k]? := hrest'
  clear hRl' hi' hij' hj' ho2' hrest' htake'
  refine brE_dec (fun hlt => ?_) (fun hge => ?_)
  · have hlt : j < l.length := by have : (j : Int) < (l.length : Nat) := hlt; omega
    have next : IntKind.i64.wrap ((j : Int) + 1) = ((j + 1 : Nat) : Int) := fit ⟨by omega, by omega⟩
    have hRj : R[j]'(by omega) = l[j] := by
      have := hrest j (Nat.le_refl _)
      rw [List.getElem?_eq_getElem hlt, List.getElem?_eq_getElem (by omega)] at this
      exact Option.some.inj this
    have hreads : Reads w2 (some ⟨g, 0, none⟩) (R.flatMap Waiv.cells) := by
      obtain ⟨A', c', e, h, _⟩ := reads_of_owns ho2
      cases e; exact h
    obtain ⟨b1, o1, hA1, hc1⟩ := Reads.elem Waiv.len (by omega) hreads (i := j) (by omega)
    cases hA1
    rw [hRj] at hc1
    refine ⟨j, g, 0, rfl, hlt, rfl, ?_⟩
    refine ⟨l[j].cells, rfl, hc1, ?_⟩
    intro g7 w3 h3
    refine ⟨rfl, _, _, h3.here, Nat.le_of_ble_eq_true rfl, rfl, ?_⟩
    intro w4 h4
    have h4 : Put w3 g7 (.cells l[j].cells.toArray 35 (0, 0)) w4 := h4
    have e24 : Ext w2 w4 := h4.ext_of h3.ext (by rw [h3.new]; exact Nat.le_refl _)
    have hBw2 : B ≤ w2.heap.size := Nat.le_trans hB b2.size
    have b4 : Below B w w4 := b2.trans (e24.mono hBw2)
    refine ⟨l[j].cells, rfl, Rd.of_block h4.here, ?_⟩
    refine brE_true hgd ?_
    refine (hdel l[j] w4 b4).mono ?_
    rintro v w5 ⟨rfl, e5⟩
    have e25 := e24.trans e5
    have b5 : Below B w w5 := b2.trans (e25.mono hBw2)
    have ho5 := ownsRow_ext ho2 e25
    have hk := keep_at (p := p) hlt
    refine brE_mk (fun h2 => ?_) (fun h2 => ?_)
    · have h2 : p l[j] = false := by simpa using h2
      rw [h2, if_neg (by decide)] at hk
      obtain ⟨cur, hg, hgB, hcl, hccap, hncap, hdl, hct, hput⟩ := ownsRow_open ho5
      refine ⟨l[j].cells, rfl, Rd.of_block (e5.heap h4.here), ?_⟩
      refine ⟨i, g, 0, rfl, (by omega : i < l.length), rfl, ?_⟩
      refine ⟨rfl, _, _, hg, by show 0 + i * 9 + 9 ≤ cur.length; omega, rfl, ?_⟩
      intro w6 h6
      have h6 : Put w5 g (.cells (splice cur (0 + i * 9) l[j].cells).toArray 35 (0, 0)) w6 := h6
      have ho6 := hput (0 + i * 9) l[j].cells w6 (by show 0 + i * 9 + 9 ≤ _; omega) h6
      have e0 : 0 + i * 9 = i * 9 := by omega
      rw [e0] at ho6
      have hset : splice (R.flatMap Waiv.cells) (i * 9) l[j].cells = (R.set i l[j]).flatMap Waiv.cells := flat_set Waiv.len (by omega) _
      rw [hset] at ho6
      have nexti : IntKind.i64.wrap ((i : Int) + 1) = ((i + 1 : Nat) : Int) := fit ⟨by omega, by omega⟩
      refine ⟨_, nexti, ?_⟩
      refine ⟨_, next, ?_⟩
      refine ⟨(j + 1, i + 1, R.set i l[j]), ⟨rfl, rfl, rfl, rfl, trivial⟩, ⟨?_, by show i + 1 < j + 1; omega, hlt, by show (R.set i l[j]).length = _; rw [List.length_set, hRl], ho6, ?_, ?_, below_put b5 h6 hgB⟩, by show l.length - (j + 1) < l.length - j; omega⟩
      · show i + 1 = ((l.take (j + 1)).filter fun x => !p x).length
        rw [hk, List.length_append, ← hi]; rfl
      · show (R.set i l[j]).take (i + 1) = ((l.take (j + 1)).filter fun x => !p x)
        have hil : i < (R.set i l[j]).length := by rw [List.length_set]; omega
        rw [hk, List.take_succ_eq_append_getElem hil, List.take_set_of_le (Nat.le_refl _), htake]
        congr 1
        simp
      · intro k hk1
        show (R.set i l[j])[k]? = l[k]?
        have hk1 : j + 1 ≤ k := hk1
        rw [List.getElem?_set_ne (by omega)]
        exact hrest k (by omega)
    · have h2 : p l[j] = true := by simpa using h2
      rw [h2, if_pos rfl, List.append_nil] at hk
      refine ⟨_, next, ?_⟩
      exact ⟨(j + 1, i, R), ⟨rfl, rfl, rfl, rfl, trivial⟩, ⟨by show i = ((l.take (j + 1)).filter fun x => !p x).length; rw [hk]; exact hi, by show i < j + 1; omega, hlt, hRl, ho5, by show R.take i = ((l.take (j + 1)).filter fun x => !p x); rw [hk]; exact htake, fun k hk1 => hrest k (by have : j + 1 ≤ k := hk1; omega), b5⟩, by show l.length - (j + 1) < l.length - j; omega⟩
  · have : j = l.length := by have : ¬ (j : Int) < (l.length : Nat) := hge; omega
    subst this
    rw [List.take_length] at hi htake
    obtain ⟨cur, hg, hgB, hcl, hccap, hncap, hdl, hct, hput⟩ := ownsRow_open ho2
    refine ⟨i, l.length, rfl, rfl, by omega, by omega, ?_⟩
    have hA : (if cap = i then (some (⟨g, 0, none⟩ : Addr)) else (some (⟨g, 0, none⟩ : Addr)).map (·.add (i * 9))) = some ⟨g, 0 + i * 9, none⟩ := by
      rw [if_neg (by omega)]
      simp [add_spot]
    refine clearRow (esz := 9) C_ok rfl rfl rfl rfl rfl rfl rfl (by decide) hA (by omega) hg (by omega) ?_
    intro zs w3 hzs h3
    have ho3 := hput (0 + i * 9) zs w3 (by rw [hzs]; omega) h3
    refine ⟨0, i, rfl, rfl, Nat.zero_le _, by omega, ?_⟩
    have e : (if cap = 0 then (some ⟨g, 0, none⟩ : Option Addr) else (some (⟨g, 0, none⟩ : Addr)).map (·.add (0 * 9))) = some ⟨g, 0, none⟩ := by
      split <;> rfl
    have hcut := ownsRow_cut ho3 (k := i) (by omega)
    have e0 : 0 + i * 9 = i * 9 := by omega
    have hft : (R.flatMap Waiv.cells).take (i * 9) = (R.take i).flatMap Waiv.cells := flat_take Waiv.len (by omega)
    rw [e0, splice_take_at (by rw [flat_length Waiv.len]; omega), hft, htake] at hcut
    refine ⟨?_, below_put b2 h3 hgB⟩
    show w3.ownsRow B 35 9 (.slice (if cap = 0 then (some ⟨g, 0, none⟩ : Option Addr) else (some (⟨g, 0, none⟩ : Addr)).map (·.add (0 * 9))) i cap) (l.filter fun x => !p x).length _
    rw [e, ← hi]
    exact hcut

theorem IndexFuncG_spec {w : World} {A : Option Addr} {l : List Gift} {c gd : Nat} {cb : Array Value} {p : Gift → Bool} (hr : Reads w A (l.flatMap Gift.cells)) (hl : l.length ≤ 2 ^ 20) (hgd : C.can gd = true)
    (hdel : ∀ (x : Gift) (w' : World), Ext w w' → CallsV C.P gd (#[] ++ [x.val].toArray ++ cb) w' fun v w'' => v = .bool (p x) ∧ Ext w' w'') :
    CallsV C.P 126 #[.slice A l.length c, .func (.func gd) #[] cb] w fun v w' => ((v = .int .i64 (-1) ∧ ∀ x ∈ l, p x = false) ∨ ∃ i : Nat, v = .int .i64 (i : Nat) ∧ ∃ h : i < l.length, p l[i] = true ∧ ∀ j (hj : j < l.length), j < i → p l[j] = false) ∧ Ext w w' := by
  refine callsV_of C_ok (args := [_, _]) (plans := []) Tryz.func126 rfl Tryz.ntmps126 (by kernel_rfl) (Nat.le_of_ble_eq_true rfl) ?_
  refine loopE C_ok (fun (i : Nat) => [(0, .slice A l.length c), (1, .func (.func gd) #[] cb), (7, .int .i64 l.length), (8, .int .i64 i)])
    (fun i w' => Ext w w' ∧ i ≤ l.length ∧ ∀ j (hj : j < l.length), j < i → p l[j] = false) (fun i => l.length - i) 0 ⟨rfl, rfl, rfl, rfl, trivial⟩
    ⟨Ext.refl _, Nat.zero_le _, fun j _ hj => absurd hj (Nat.not_lt_zero _)⟩ ?_
  rintro i w1 ⟨e1, hi, hall⟩
  refine brE_dec (fun hlt => ?_) (fun hge => ?_)
  · have hlt : i < l.length := by have : (i : Int) < (l.length : Nat) := hlt; omega
    obtain ⟨b, o, hA, hc⟩ := Reads.elem Gift.len (by omega) (hr.ext e1) hlt
    refine ⟨i, b, o, rfl, hlt, hA, ?_⟩
    refine ⟨l[i].cells, rfl, hc, ?_⟩
    refine brE_true hgd ?_
    refine (hdel l[i] w1 e1).mono ?_
    rintro v w2 ⟨rfl, e2⟩
    refine brE_mk (fun h2 => ?_) (fun h2 => ?_)
    · exact ⟨.inr ⟨i, rfl, hlt, h2, hall⟩, e1.trans e2⟩
    · refine ⟨((i + 1 : Nat) : Int), fit ⟨by omega, by omega⟩, ?_⟩
      refine ⟨i + 1, ⟨rfl, rfl, rfl, rfl, trivial⟩, ⟨e1.trans e2, hlt, fun j hj hji => ?_⟩, by omega⟩
      rcases Nat.lt_or_ge j i with h | h
      · exact hall j hj h
      · obtain rfl : j = i := by omega
        exact h2
  · have : i = l.length := by have : ¬ (i : Int) < (l.length : Nat) := hge; omega
    subst this
    refine ⟨.inl ⟨rfl, fun x hx => ?_⟩, e1⟩
    obtain ⟨j, hj, rfl⟩ := List.getElem_of_mem hx
    exact hall j hj hj

set_option maxRecDepth 100000 in
theorem DeleteFuncG_spec {B : Nat} {w : World} {v : Value} {l : List Gift} {gd : Nat} {cb : Array Value} {p : Gift → Bool} (ho : NewL Gift.cells 37 10 B w v l) (hB : B ≤ w.heap.size) (hl : l.length ≤ 2 ^ 20) (hgd : C.can gd = true)
    (hdel : ∀ (x : Gift) (w' : World), Below B w w' → CallsV C.P gd (#[] ++ [x.val].toArray ++ cb) w' fun v w'' => v = .bool (p x) ∧ Ext w' w'') :
    CallsV C.P 81 #[v, .func (.func gd) #[] cb] w fun v' w' => NewL Gift.cells 37 10 B w' v' (l.filter fun x => !p x) ∧ Below B w w' := by
  obtain ⟨A, cap, rfl, hR, hlc⟩ := reads_of_owns ho
  refine callsV_of C_ok (args := [_, _]) (plans := []) Tryz.func81 rfl Tryz.ntmps81 (by kernel_rfl) (Nat.le_of_ble_eq_true rfl) ?_
  refine (IndexFuncG_spec hR hl hgd fun x w' e => hdel x w' (e.mono hB)).mono ?_
  rintro v w1 ⟨hi | ⟨i0, rfl, hi0, hsm, hfirst⟩, e1⟩
  · obtain ⟨rfl, hall⟩ := hi
    have e : (l.filter fun x => !p x) = l := List.filter_eq_self.2 fun x hx => by rw [hall x hx]; rfl
    rw [e]
    exact ⟨ho.ext e1, e1.mono hB⟩
  refine ⟨((i0 + 1 : Nat) : Int), fit ⟨by omega, by omega⟩, ?_⟩
  have hA : ∃ g, A = some ⟨g, 0, none⟩ := by
    obtain ⟨_, ⟨hv, h0⟩ | ⟨g, cap', cur, hv, _⟩⟩ := ho
    · omega
    · simp at hv; exact ⟨g, hv.1⟩
  obtain ⟨g, rfl⟩ := hA
  have kp0 := keep_first hi0 hsm hfirst
  have ho1 : w1.ownsRow B 37 10 (.slice (some ⟨g, 0, none⟩) l.length cap) l.length (l.flatMap Gift.cells) := ho.ext e1
  refine loopE C_ok (fun (s : Nat × Nat × List Gift) => [(0, .slice (some ⟨g, 0, none⟩) l.length cap), (1, .func (.func gd) #[] cb), (5, .int .i64 s.2.1), (6, .int .i64 s.1)])
    (fun s w' => s.2.1 = ((l.take s.1).filter fun x => !p x).length ∧ s.2.1 < s.1 ∧ s.1 ≤ l.length ∧ s.2.2.length = l.length ∧ w'.ownsRow B 37 10 (.slice (some ⟨g, 0, none⟩) l.length cap) l.length (s.2.2.flatMap Gift.cells) ∧ s.2.2.take s.2.1 = ((l.take s.1).filter fun x => !p x) ∧ (∀ k, s.1 ≤ k → s.2.2[k]? = l[k]?) ∧ Below B w w')
    (fun s => l.length - s.1) (i0 + 1, i0, l) ⟨rfl, rfl, rfl, rfl, trivial⟩
    ⟨by show i0 = _; rw [kp0, List.length_take]; omega, Nat.lt_succ_self _, hi0, rfl, ho1, kp0.symm, fun _ _ => rfl, e1.mono hB⟩ ?_
  rintro ⟨j, i, R⟩ w2 ⟨hi', hij', hj', hRl', ho2', htake', hrest', b2⟩
  have hi : i = ((l.take j).filter fun x => !p x).length := hi'
  have hij : i < j := hij'
  have hj : j ≤ l.length := hj'
  have hRl : R.length = l.length := hRl'
  have ho2 : w2.ownsRow B 37 10 (.slice (some ⟨g, 0, none⟩) l.length cap) l.length (R.flatMap Gift.cells) := ho2'
  have htake : R.take i = ((l.take j).filter fun x => !p x) := htake'
  have hrest : ∀ k, j ≤ k → R[k]? = l[k]? := hrest'
  clear hRl' hi' hij' hj' ho2' hrest' htake'
  refine brE_dec (fun hlt => ?_) (fun hge => ?_)
  · have hlt : j < l.length := by have : (j : Int) < (l.length : Nat) := hlt; omega
    have next : IntKind.i64.wrap ((j : Int) + 1) = ((j + 1 : Nat) : Int) := fit ⟨by omega, by omega⟩
    have hRj : R[j]'(by omega) = l[j] := by
      have := hrest j (Nat.le_refl _)
      rw [List.getElem?_eq_getElem hlt, List.getElem?_eq_getElem (by omega)] at this
      exact Option.some.inj this
    have hreads : Reads w2 (some ⟨g, 0, none⟩) (R.flatMap Gift.cells) := by
      obtain ⟨A', c', e, h, _⟩ := reads_of_owns ho2
      cases e; exact h
    obtain ⟨b1, o1, hA1, hc1⟩ := Reads.elem Gift.len (by omega) hreads (i := j) (by omega)
    cases hA1
    rw [hRj] at hc1
    refine ⟨j, g, 0, rfl, hlt, rfl, ?_⟩
    refine ⟨l[j].cells, rfl, hc1, ?_⟩
    intro g7 w3 h3
    refine ⟨rfl, _, _, h3.here, Nat.le_of_ble_eq_true rfl, rfl, ?_⟩
    intro w4 h4
    have h4 : Put w3 g7 (.cells l[j].cells.toArray 37 (0, 0)) w4 := h4
    have e24 : Ext w2 w4 := h4.ext_of h3.ext (by rw [h3.new]; exact Nat.le_refl _)
    have hBw2 : B ≤ w2.heap.size := Nat.le_trans hB b2.size
    have b4 : Below B w w4 := b2.trans (e24.mono hBw2)
    refine ⟨l[j].cells, rfl, Rd.of_block h4.here, ?_⟩
    refine brE_true hgd ?_
    refine (hdel l[j] w4 b4).mono ?_
    rintro v w5 ⟨rfl, e5⟩
    have e25 := e24.trans e5
    have b5 : Below B w w5 := b2.trans (e25.mono hBw2)
    have ho5 := ownsRow_ext ho2 e25
    have hk := keep_at (p := p) hlt
    refine brE_mk (fun h2 => ?_) (fun h2 => ?_)
    · have h2 : p l[j] = false := by simpa using h2
      rw [h2, if_neg (by decide)] at hk
      obtain ⟨cur, hg, hgB, hcl, hccap, hncap, hdl, hct, hput⟩ := ownsRow_open ho5
      refine ⟨l[j].cells, rfl, Rd.of_block (e5.heap h4.here), ?_⟩
      refine ⟨i, g, 0, rfl, (by omega : i < l.length), rfl, ?_⟩
      refine ⟨rfl, _, _, hg, by show 0 + i * 10 + 10 ≤ cur.length; omega, rfl, ?_⟩
      intro w6 h6
      have h6 : Put w5 g (.cells (splice cur (0 + i * 10) l[j].cells).toArray 37 (0, 0)) w6 := h6
      have ho6 := hput (0 + i * 10) l[j].cells w6 (by show 0 + i * 10 + 10 ≤ _; omega) h6
      have e0 : 0 + i * 10 = i * 10 := by omega
      rw [e0] at ho6
      have hset : splice (R.flatMap Gift.cells) (i * 10) l[j].cells = (R.set i l[j]).flatMap Gift.cells := flat_set Gift.len (by omega) _
      rw [hset] at ho6
      have nexti : IntKind.i64.wrap ((i : Int) + 1) = ((i + 1 : Nat) : Int) := fit ⟨by omega, by omega⟩
      refine ⟨_, nexti, ?_⟩
      refine ⟨_, next, ?_⟩
      refine ⟨(j + 1, i + 1, R.set i l[j]), ⟨rfl, rfl, rfl, rfl, trivial⟩, ⟨?_, by show i + 1 < j + 1; omega, hlt, by show (R.set i l[j]).length = _; rw [List.length_set, hRl], ho6, ?_, ?_, below_put b5 h6 hgB⟩, by show l.length - (j + 1) < l.length - j; omega⟩
      · show i + 1 = ((l.take (j + 1)).filter fun x => !p x).length
        rw [hk, List.length_append, ← hi]; rfl
      · show (R.set i l[j]).take (i + 1) = ((l.take (j + 1)).filter fun x => !p x)
        have hil : i < (R.set i l[j]).length := by rw [List.length_set]; omega
        rw [hk, List.take_succ_eq_append_getElem hil, List.take_set_of_le (Nat.le_refl _), htake]
        congr 1
        simp
      · intro k hk1
        show (R.set i l[j])[k]? = l[k]?
        have hk1 : j + 1 ≤ k := hk1
        rw [List.getElem?_set_ne (by omega)]
        exact hrest k (by omega)
    · have h2 : p l[j] = true := by simpa using h2
      rw [h2, if_pos rfl, List.append_nil] at hk
      refine ⟨_, next, ?_⟩
      exact ⟨(j + 1, i, R), ⟨rfl, rfl, rfl, rfl, trivial⟩, ⟨by show i = ((l.take (j + 1)).filter fun x => !p x).length; rw [hk]; exact hi, by show i < j + 1; omega, hlt, hRl, ho5, by show R.take i = ((l.take (j + 1)).filter fun x => !p x); rw [hk]; exact htake, fun k hk1 => hrest k (by have : j + 1 ≤ k := hk1; omega), b5⟩, by show l.length - (j + 1) < l.length - j; omega⟩
  · have : j = l.length := by have : ¬ (j : Int) < (l.length : Nat) := hge; omega
    subst this
    rw [List.take_length] at hi htake
    obtain ⟨cur, hg, hgB, hcl, hccap, hncap, hdl, hct, hput⟩ := ownsRow_open ho2
    refine ⟨i, l.length, rfl, rfl, by omega, by omega, ?_⟩
    have hA : (if cap = i then (some (⟨g, 0, none⟩ : Addr)) else (some (⟨g, 0, none⟩ : Addr)).map (·.add (i * 10))) = some ⟨g, 0 + i * 10, none⟩ := by
      rw [if_neg (by omega)]
      simp [add_spot]
    refine clearRow (esz := 10) C_ok rfl rfl rfl rfl rfl rfl rfl (by decide) hA (by omega) hg (by omega) ?_
    intro zs w3 hzs h3
    have ho3 := hput (0 + i * 10) zs w3 (by rw [hzs]; omega) h3
    refine ⟨0, i, rfl, rfl, Nat.zero_le _, by omega, ?_⟩
    have e : (if cap = 0 then (some ⟨g, 0, none⟩ : Option Addr) else (some (⟨g, 0, none⟩ : Addr)).map (·.add (0 * 10))) = some ⟨g, 0, none⟩ := by
      split <;> rfl
    have hcut := ownsRow_cut ho3 (k := i) (by omega)
    have e0 : 0 + i * 10 = i * 10 := by omega
    have hft : (R.flatMap Gift.cells).take (i * 10) = (R.take i).flatMap Gift.cells := flat_take Gift.len (by omega)
    rw [e0, splice_take_at (by rw [flat_length Gift.len]; omega), hft, htake] at hcut
    refine ⟨?_, below_put b2 h3 hgB⟩
    show w3.ownsRow B 37 10 (.slice (if cap = 0 then (some ⟨g, 0, none⟩ : Option Addr) else (some (⟨g, 0, none⟩ : Addr)).map (·.add (0 * 10))) i cap) (l.filter fun x => !p x).length _
    rw [e, ← hi]
    exact hcut

theorem ContainsFuncW_spec {w : World} {A : Option Addr} {l : List Waiv} {c gd : Nat} {cb : Array Value} {p : Waiv → Bool} (hr : Reads w A (l.flatMap Waiv.cells)) (hl : l.length ≤ 2 ^ 20) (hgd : C.can gd = true)
    (hdel : ∀ (x : Waiv) (w' : World), Ext w w' → CallsV C.P gd (#[] ++ [x.val].toArray ++ cb) w' fun v w'' => v = .bool (p x) ∧ Ext w' w'') :
    CallsV C.P 84 #[.slice A l.length c, .func (.func gd) #[] cb] w fun v w' => v = .bool (l.any p) ∧ Ext w w' := by
  refine callsV_of C_ok (args := [_, _]) (plans := []) Tryz.func84 rfl Tryz.ntmps84 (by kernel_rfl) (Nat.le_of_ble_eq_true rfl) ?_
  refine (IndexFuncW_spec hr hl hgd hdel).mono ?_
  rintro v w1 ⟨⟨rfl, h⟩ | ⟨i, rfl, hi, hp, _⟩, e1⟩
  · have e : l.any p = false := by rw [List.any_eq_false]; intro x hx; rw [h x hx]; decide
    rw [e]; exact ⟨rfl, e1⟩
  · have e : l.any p = true := List.any_eq_true.2 ⟨_, List.getElem_mem hi, hp⟩
    rw [e]
    refine ⟨?_, e1⟩
    show Value.bool (decide ((0 : Int) ≤ (i : Nat))) = _
    rw [decide_eq_true (by omega)]

theorem underEs : Tryz.prog.underlying 28 = some (.slice 39) := by kernel_rfl
theorem eqNilE (x y : Operand) (A : Option Addr) (n c : Nat) : EqIs C.P .eql 28 x y (.slice A n c) (.slice none 0 0) A.isNone := by
  intro w
  have hu : C.P.underlying 28 = some (.slice 39) := underEs
  have h1 : (eqGuard .eql 28 x y (.slice A n c) (.slice none 0 0)).run C.P w = .ok () w := by simp [eqGuard]
  rw [Sem.run_bind, h1]
  simp only [Result.andThen_ok]
  exact Lib.run_eql_slice_nil w _ _ A n c _ _ hu

theorem CloneE_spec {w : World} {A : Option Addr} {l : List Entry} {c : Nat} (h : Reads w A (l.flatMap Entry.cells)) (hl : l.length ≤ 2 ^ 20) :
    CallsV C.P 75 #[.slice A l.length c] w fun v w' => NewL Entry.cells 39 24 w.heap.size w' v l ∧ Ext w w' := by
  refine callsV_of C_ok (args := [_]) (plans := []) Tryz.func75 rfl Tryz.ntmps75 (by kernel_rfl) (Nat.le_of_ble_eq_true rfl) ?_
  refine ⟨_, eqNilE _ _ _ _ _, ?_⟩
  refine brE_mk (fun hn => ?_) (fun hn => ?_)
  · have hl0 : l = [] := by
      rcases h with h | ⟨b, o, hA, _⟩
      · have := congrArg List.length h
        rw [flat_length Entry.len] at this
        have : l.length * 24 = 0 := this
        exact List.length_eq_zero_iff.1 (by omega)
      · rw [hA] at hn; cases hn
    subst hl0
    exact ⟨newL_nil, Ext.refl _⟩
  · intro g w1 h1
    have ho : w1.ownsRow w.heap.size 39 24 (.slice (some ⟨g, 0, none⟩) 0 0) 0 [] := owns_block (cs := []) h1.here (by rw [h1.new]; exact Nat.le_refl _) rfl (Nat.zero_le _)
    have hd : l.flatMap Entry.cells = [] ∨ ∃ b o, A = some ⟨b, o, none⟩ ∧ Rd w1 b o (l.flatMap Entry.cells) := h.ext h1.ext
    have hs : A.isSome = true := by cases A with
      | none => cases hn
      | some a => rfl
    have h1c : (l.flatMap Entry.cells).all (·.oneCell') = true := by
      rw [List.all_eq_true]
      intro v hv
      obtain ⟨x, _, hx⟩ := List.mem_flatMap.1 hv
      simp [Entry.cells] at hx
      rcases hx with rfl | rfl | rfl | rfl | rfl | rfl | rfl | rfl | rfl | rfl | rfl | rfl | rfl | rfl | rfl | rfl | rfl | rfl | rfl | rfl | rfl | rfl | rfl | rfl <;> rfl
    refine ⟨rfl, rfl, rfl, w.heap.size, 0, [], l.flatMap Entry.cells, ho, h1.ext.size, Nat.le_of_ble_eq_true rfl, rfl, flat_length Entry.len l, hd, by rw [hs]; rfl, h1c, by omega, by simp only [maxLen]; omega, ?_⟩
    intro v2 w2 ho2 hg2 _
    refine ⟨?_, app_ext h1.ext ho hg2⟩
    show w2.ownsRow _ _ _ v2 _ _
    rw [Nat.zero_add, List.nil_append] at ho2
    exact ho2

theorem underDs : Tryz.prog.underlying 93 = some (.slice 74) := by kernel_rfl
theorem eqNilD (x y : Operand) (A : Option Addr) (n c : Nat) : EqIs C.P .eql 93 x y (.slice A n c) (.slice none 0 0) A.isNone := by
  intro w
  have hu : C.P.underlying 93 = some (.slice 74) := underDs
  have h1 : (eqGuard .eql 93 x y (.slice A n c) (.slice none 0 0)).run C.P w = .ok () w := by simp [eqGuard]
  rw [Sem.run_bind, h1]
  simp only [Result.andThen_ok]
  exact Lib.run_eql_slice_nil w _ _ A n c _ _ hu

theorem CloneD_spec {w : World} {A : Option Addr} {l : List Due} {c : Nat} (h : Reads w A (l.flatMap Due.cells)) (hl : l.length ≤ 2 ^ 20) :
    CallsV C.P 172 #[.slice A l.length c] w fun v w' => NewL Due.cells 74 3 w.heap.size w' v l ∧ Ext w w' := by
  refine callsV_of C_ok (args := [_]) (plans := []) Tryz.func172 rfl Tryz.ntmps172 (by kernel_rfl) (Nat.le_of_ble_eq_true rfl) ?_
  refine ⟨_, eqNilD _ _ _ _ _, ?_⟩
  refine brE_mk (fun hn => ?_) (fun hn => ?_)
  · have hl0 : l = [] := by
      rcases h with h | ⟨b, o, hA, _⟩
      · have := congrArg List.length h
        rw [flat_length Due.len] at this
        have : l.length * 3 = 0 := this
        exact List.length_eq_zero_iff.1 (by omega)
      · rw [hA] at hn; cases hn
    subst hl0
    exact ⟨newL_nil, Ext.refl _⟩
  · intro g w1 h1
    have ho : w1.ownsRow w.heap.size 74 3 (.slice (some ⟨g, 0, none⟩) 0 0) 0 [] := owns_block (cs := []) h1.here (by rw [h1.new]; exact Nat.le_refl _) rfl (Nat.zero_le _)
    have hd : l.flatMap Due.cells = [] ∨ ∃ b o, A = some ⟨b, o, none⟩ ∧ Rd w1 b o (l.flatMap Due.cells) := h.ext h1.ext
    have hs : A.isSome = true := by cases A with
      | none => cases hn
      | some a => rfl
    have h1c : (l.flatMap Due.cells).all (·.oneCell') = true := by
      rw [List.all_eq_true]
      intro v hv
      obtain ⟨x, _, hx⟩ := List.mem_flatMap.1 hv
      simp [Due.cells] at hx
      rcases hx with rfl | rfl | rfl <;> rfl
    refine ⟨rfl, rfl, rfl, w.heap.size, 0, [], l.flatMap Due.cells, ho, h1.ext.size, Nat.le_of_ble_eq_true rfl, rfl, flat_length Due.len l, hd, by rw [hs]; rfl, h1c, by omega, by simp only [maxLen]; omega, ?_⟩
    intro v2 w2 ho2 hg2 _
    refine ⟨?_, app_ext h1.ext ho hg2⟩
    show w2.ownsRow _ _ _ v2 _ _
    rw [Nat.zero_add, List.nil_append] at ho2
    exact ho2

end Go.Proofs.YtcnbpfecgokhiaaGreatDoor
