/- a part of the proof: steps, walks and plain laws that the law below stands on; no condition. -/
import Derived.Test.YtahgjidcaeieaaaGreatDoorLAa
import Derived.Test.YtahgjidcaeieaaaGreatDoorLAb
import Derived.Test.YtahgjidcaeieaaaGreatDoorLAc
import Derived.Test.YtahgjidcaeieaaaGreatDoorLAd
import Derived.Test.YtahgjidcaeieaaaGreatDoorLAe
import Derived.Scope
import Derived.Laws.StructEq
import Derived.Lib.AtoiAllCases
import Derived.Lib.AtoiTie
import Derived.Lib.ItoaLen
import Derived.Lib.Join
import Derived.Test.YtahgjidcaeieaaaGreatDoorProg
import Derived.Shelf.SortM.Plain
import Derived.Shelf.SortM.SortNone
import Derived.KernelRfl
import Derived.Shelf.SlSortCmp.NoneTotal
set_option linter.unusedVariables false
set_option linter.unusedSimpArgs false
set_option linter.unnecessarySimpa false
set_option linter.unusedSectionVars false
namespace Go.Proofs.YtahgjidcaeieaaaGreatDoor
open Go.Eng Go.RowKit
theorem ownsRow_grown {w w' : World} {base e size n : Nat} {v : Value} {xs : List Value} {row : Option Nat} (h : w.ownsRow base e size v n xs) (hg : w.grownBy w' row) (hne : v.ownBlock ≠ row) : w'.ownsRow base e size v n xs := by
  obtain ⟨hl, hv | ⟨g', cap, cur, hv, hb, hg', h1⟩⟩ := h
  · exact ⟨hl, .inl hv⟩
  · refine ⟨hl, .inr ⟨g', cap, cur, hv, hb, ?_, h1⟩⟩
    rw [hg.block g' (lt_of_heap hg') (fun e => hne (by rw [hv, ← e]; rfl))]
    exact hg'
theorem rev_get {l : List Fact} {k : Nat} (hk : k < l.length) : l.reverse[k]? = l[l.length - 1 - k]? := by
  rw [List.getElem?_reverse hk]
set_option maxRecDepth 100000 in
theorem ReverseF_spec {B : Nat} {w : World} {v : Value} {l : List Fact} (ho : NewF B w v l) (hl : l.length ≤ 2 ^ 20) :
    CallsV C.P 170 #[v] w fun v' w' => v' = .tuple #[] ∧ NewF B w' v l.reverse ∧ Below B w w' := by
  obtain ⟨A, cap, rfl, hR, hlc⟩ := ho.slice
  refine callsV_of C_ok (args := [_]) (plans := plans170) Tryz.func170 rfl Tryz.ntmps170 (by kernel_rfl) (Nat.le_of_ble_eq_true rfl) ?_
  refine ⟨(l.length : Int) - 1, fit ⟨by omega, by omega⟩, ?_⟩
  refine loopE C_ok (fun (s : Nat × List Fact) => [(0, .slice A l.length cap), (2, .int .i64 s.1), (3, .int .i64 ((l.length : Int) - 1 - s.1))])
    (fun s w' => 2 * s.1 ≤ l.length ∧ s.2.length = l.length ∧ w'.ownsRow B 90 9 (.slice A l.length cap) l.length (fcells s.2) ∧ (∀ k, k < s.1 → s.2[k]? = l.reverse[k]?) ∧ (∀ k, l.length - s.1 ≤ k → s.2[k]? = l.reverse[k]?) ∧ (∀ k, s.1 ≤ k → k < l.length - s.1 → s.2[k]? = l[k]?) ∧ Below B w w')
    (fun s => l.length - s.1) (0, l) ⟨rfl, rfl, congrArg (fun z : Int => some (Value.int .i64 z)) (by omega : (l.length : Int) - 1 = (l.length : Int) - 1 - ((0 : Nat) : Int)), trivial⟩ ⟨Nat.zero_le _, rfl, ho, fun k h => absurd h (Nat.not_lt_zero _), fun k h => by rw [List.getElem?_eq_none (by simpa using h), List.getElem?_eq_none (by simpa using h)], fun _ _ _ => rfl, Below.refl _ _⟩ ?_
  rintro ⟨i, R⟩ w1 ⟨hi2', hRl', ho1', hlo', hhi', hmid', b1⟩
  have hi2 : 2 * i ≤ l.length := hi2'
  have hRl : R.length = l.length := hRl'
  have ho1 : w1.ownsRow B 90 9 (.slice A l.length cap) l.length (fcells R) := ho1'
  have hlo : ∀ k, k < i → R[k]? = l.reverse[k]? := hlo'
  have hhi : ∀ k, l.length - i ≤ k → R[k]? = l.reverse[k]? := hhi'
  have hmid : ∀ k, i ≤ k → k < l.length - i → R[k]? = l[k]? := hmid'
  clear hRl' hhi' hi2' hlo' hmid' ho1'
  refine brE_dec (fun hlt => ?_) (fun hge => ?_)
  · have hlt : (i : Int) < (l.length : Int) - 1 - i := hlt
    obtain ⟨j, hj⟩ : ∃ j : Nat, j = l.length - 1 - i := ⟨_, rfl⟩
    have hij : i < j := by omega
    have hjl : j < l.length := by omega
    have hA : ∃ g, A = some ⟨g, 0, none⟩ := by
      obtain ⟨_, ⟨hv, h0⟩ | ⟨g, cap', cur, hv, _⟩⟩ := ho
      · omega
      · simp at hv; exact ⟨g, hv.1⟩
    obtain ⟨g, rfl⟩ := hA
    have hreads : Reads w1 (some ⟨g, 0, none⟩) (fcells R) := by
      obtain ⟨A', c', e, h, _⟩ := reads_of_owns ho1
      cases e; exact h
    have hRi : R[i]'(by omega) = l[i]'(by omega) := by
      have := hmid i (Nat.le_refl _) (by omega)
      rw [List.getElem?_eq_getElem (by omega), List.getElem?_eq_getElem (by omega)] at this
      exact Option.some.inj this
    have hRj : R[j]'(by omega) = l[j]'hjl := by
      have := hmid j (by omega) (by omega)
      rw [List.getElem?_eq_getElem (by omega), List.getElem?_eq_getElem (by omega)] at this
      exact Option.some.inj this
    obtain ⟨b2, o2, hA2, hc2⟩ := Reads.fact hreads (i := j) (by omega)
    obtain ⟨b3, o3, hA3, hc3⟩ := Reads.fact hreads (i := i) (by omega)
    cases hA2
    cases hA3
    rw [hRj] at hc2
    rw [hRi] at hc3
    obtain ⟨cur, hg, hgB, hcl, hccap, hncap, hdl, hct, hput⟩ := ownsRow_open ho1
    refine ⟨j, g, 0, by omega, hjl, rfl, ?_⟩
    refine ⟨l[j].cells, rfl, hc2, ?_⟩
    refine ⟨i, g, 0, rfl, (by omega : i < l.length), rfl, ?_⟩
    refine ⟨l[i].cells, rfl, hc3, ?_⟩
    refine ⟨i, g, 0, rfl, (by omega : i < l.length), rfl, ?_⟩
    refine ⟨rfl, _, _, hg, by show 0 + i * 9 + 9 ≤ cur.length; omega, rfl, ?_⟩
    intro w4 h4
    have h4 : Put w1 g (.cells (splice cur (0 + i * 9) l[j].cells).toArray 90 (0, 0)) w4 := h4
    have ho4 := hput (0 + i * 9) l[j].cells w4 (by show 0 + i * 9 + 9 ≤ _; omega) h4
    have e0 : 0 + i * 9 = i * 9 := by omega
    have hset : splice (fcells R) (i * 9) l[j].cells = fcells (R.set i l[j]) := flat_set Fact.len (by omega) _
    rw [e0, hset] at ho4
    obtain ⟨cur4, hg4, hgB4, hcl4, hccap4, hncap4, hdl4, hct4, hput4⟩ := ownsRow_open ho4
    refine ⟨j, g, 0, by omega, hjl, rfl, ?_⟩
    refine ⟨rfl, _, _, hg4, by show 0 + j * 9 + 9 ≤ cur4.length; omega, rfl, ?_⟩
    intro w5 h5
    have h5 : Put w4 g (.cells (splice cur4 (0 + j * 9) l[i].cells).toArray 90 (0, 0)) w5 := h5
    have ho5 := hput4 (0 + j * 9) l[i].cells w5 (by show 0 + j * 9 + 9 ≤ _; omega) h5
    have e1 : 0 + j * 9 = j * 9 := by omega
    have hset2 : splice (fcells (R.set i l[j])) (j * 9) l[i].cells = fcells ((R.set i l[j]).set j l[i]) := flat_set Fact.len (by rw [List.length_set]; omega) _
    rw [e1, hset2] at ho5
    refine ⟨((i + 1 : Nat) : Int), fit ⟨by omega, by omega⟩, ?_⟩
    refine ⟨(l.length : Int) - 1 - ((i + 1 : Nat) : Int), by rw [fit ⟨by omega, by omega⟩]; omega, ?_⟩
    have get : ∀ k, ((R.set i l[j]).set j l[i])[k]? = if k = j then some l[i] else if k = i then some l[j] else R[k]? := by
      intro k
      rw [List.getElem?_set, List.length_set]
      by_cases h1 : j = k
      · subst h1; rw [if_pos rfl, if_pos rfl, if_pos (by omega)]
      · rw [if_neg h1, if_neg (fun e => h1 e.symm), List.getElem?_set]
        by_cases h2 : i = k
        · subst h2; rw [if_pos rfl, if_pos rfl, if_pos (by omega)]
        · rw [if_neg h2, if_neg (fun e => h2 e.symm)]
    refine ⟨(i + 1, (R.set i l[j]).set j l[i]), ⟨rfl, rfl, rfl, trivial⟩, ⟨by show 2 * (i + 1) ≤ l.length; omega, by show ((R.set i l[j]).set j l[i]).length = l.length; rw [List.length_set, List.length_set, hRl], ho5, ?_, ?_, ?_, below_put (below_put b1 h4 hgB) h5 hgB⟩, by show l.length - (i + 1) < l.length - i; omega⟩
    · intro k hk
      have hk : k < i + 1 := hk
      show ((R.set i l[j]).set j l[i])[k]? = _
      rw [get, if_neg (by omega)]
      by_cases hki : k = i
      · subst hki
        rw [if_pos rfl, rev_get (by omega), ← hj, List.getElem?_eq_getElem hjl]
      · rw [if_neg hki]; exact hlo k (by omega)
    · intro k hk
      have hk : l.length - (i + 1) ≤ k := hk
      show ((R.set i l[j]).set j l[i])[k]? = _
      rw [get]
      by_cases hkj : k = j
      · subst hkj
        rw [if_pos rfl, rev_get (by omega), show l.length - 1 - k = i by omega, List.getElem?_eq_getElem (by omega)]
      · rw [if_neg hkj, if_neg (by omega)]; exact hhi k (by omega)
    · intro k hk1 hk2
      have hk1 : i + 1 ≤ k := hk1
      have hk2 : k < l.length - (i + 1) := hk2
      show ((R.set i l[j]).set j l[i])[k]? = _
      rw [get, if_neg (by omega), if_neg (by omega)]
      exact hmid k (by omega) (by omega)
  · have hge : ¬ (i : Int) < (l.length : Int) - 1 - i := hge
    have : R = l.reverse := by
      apply List.ext_getElem?
      intro k
      by_cases h1 : k < i
      · exact hlo k h1
      · by_cases h2 : l.length - i ≤ k
        · exact hhi k h2
        · rw [hmid k (by omega) (by omega), rev_get (by omega), show l.length - 1 - k = k by omega]
    subst this
    refine ⟨rfl, ?_, b1⟩
    show w1.ownsRow _ _ _ _ l.reverse.length _
    rw [List.length_reverse]
    exact ho1
def VoidIs (w : World) (g : Nat) (acc : List Fact) : Prop := ∃ f, MapIs C.P 3 w g f ∧ ∀ q : Int, (f (.int .i64 q)).getD (.bool false) = .bool (voidedBy acc q)
theorem VoidIs.ext {w w' : World} {g : Nat} {acc : List Fact} (h : VoidIs w g acc) (e : Ext w w') : VoidIs w' g acc := let ⟨f, h1, h2⟩ := h; ⟨f, h1.ext e, h2⟩
theorem VoidIs.lt {w : World} {g : Nat} {acc : List Fact} (h : VoidIs w g acc) : ∃ es clk, w.heap[g]? = some (.map es clk) := let ⟨_, ⟨es, clk, hb, _⟩, _⟩ := h; ⟨es, clk, hb⟩
theorem voidedBy_snoc (acc : List Fact) (x : Fact) (q : Int) : voidedBy (acc ++ [x]) q = (voidedBy acc q || decide (x.kind = 11 ∧ x.what = q)) := by
  unfold voidedBy; rw [List.any_append]; simp
theorem Counting1_spec {w : World} {x : Fact} {g6 gm T : Nat} {acc : List Fact} (hx : x.Nums) (hc : w.heap[g6]? = some (.cells #[.map (some gm)] T (0, 0))) (hv : VoidIs w gm acc) :
    CallsV C.P 169 (#[] ++ [x.val].toArray ++ #[.pointer (some ⟨g6, 0, none⟩)]) w fun v w' => v = .bool (!voidedBy acc x.id) ∧ w.grownBy w' (some gm) ∧ VoidIs w' gm (if voidedBy acc x.id = true then acc else acc ++ [x]) := by
  refine callsV_of C_ok (args := [_, _]) (plans := []) Tryz.func169 rfl Tryz.ntmps169 (by kernel_rfl) (Nat.le_of_ble_eq_true rfl) ?_
  intro g2 w1 h1
  have M1 := (Mem.start w).alloc h1
  have hc1 := h1.ext.heap hc
  have hv1 := hv.ext h1.ext
  obtain ⟨f, hf, hfv⟩ := hv1
  refine ⟨_, cell_of_block hc1 rfl, ?_⟩
  refine ⟨_, M1.cell 0 rfl rfl, ?_⟩
  refine ⟨.bool (voidedBy acc x.id), mapGet1 C_ok (te := ty4) (x := .int .i64 x.id) (intKey hx.id) hf intK rfl rfl rfl rfl rfl rfl (hfv _), ?_⟩
  refine brE_mk (fun hb => ?_) (fun hb => ?_)
  · rw [hb, if_pos rfl]
    exact ⟨rfl, ext_grownBy h1.ext _, ⟨f, hf, hfv⟩⟩
  rw [hb, if_neg (by decide)]
  refine ⟨_, M1.cell 0 rfl rfl, ?_⟩
  refine brE_dec (fun hk => ?_) (fun hk => ?_)
  · have hk : x.kind = 11 := hk
    refine ⟨_, cell_of_block hc1 rfl, ?_⟩
    refine ⟨_, M1.cell 0 rfl rfl, ?_⟩
    refine mapPut C_ok rfl rfl (x := .int .i64 x.what) rfl rfl rfl rfl intK (intKey hx.what) hf ?_
    intro o' w2 h2 hf2
    refine ⟨rfl, grownBy_trans (ext_grownBy h1.ext _) h2.grownBy, ⟨_, hf2, fun q => ?_⟩⟩
    rw [voidedBy_snoc]
    unfold updV
    by_cases e : q = x.what
    · subst e; rw [if_pos rfl]; simp [hk]
    · rw [if_neg (fun h => e (by injection h)), hfv]
      have : decide (x.kind = 11 ∧ x.what = q) = false := decide_eq_false fun h => e h.2.symm
      rw [this, Bool.or_false]
  · have hk : ¬ x.kind = 11 := hk
    refine ⟨rfl, ext_grownBy h1.ext _, ⟨f, hf, fun q => ?_⟩⟩
    rw [voidedBy_snoc, hfv]
    have : decide (x.kind = 11 ∧ x.what = q) = false := decide_eq_false fun h => hk h.1
    rw [this, Bool.or_false]
set_option maxRecDepth 100000 in
theorem Counting_spec {w : World} {A : Option Addr} {l : List Fact} {c : Nat} (h : HF w A l c) (hl : l.length ≤ 2 ^ 20) (k : Int) :
    CallsV C.P 160 #[.slice A l.length c, .int .i64 k] w fun v w' => NewF w.heap.size w' v (countL k l) ∧ Ext w w' := by
  refine callsV_of C_ok (args := [_, _]) (plans := []) Tryz.func160 rfl Tryz.ntmps160 (by kernel_rfl) (Nat.le_of_ble_eq_true rfl) ?_
  refine (Known_spec h hl k).mono ?_
  rintro v w1 ⟨hK, e1⟩
  have hkl := knownL_length k l
  have hsub := knownL_sub (k := k) (l := l)
  have hcount : countL k l = (backL [] (knownL k l).reverse).reverse := rfl
  rw [hcount]
  clear hcount
  generalize knownL k l = K at *
  obtain ⟨AK, cK, rfl, hrK, _⟩ := hK.slice
  intro gm w2 h2
  have M2 := (Mem.start w1).alloc h2
  intro g6 w3 h3
  have M3 := M2.alloc h3
  refine ⟨rfl, _, _, M3.get 0 rfl, Nat.le_of_ble_eq_true rfl, rfl, ?_⟩
  intro w4 h4
  have M4 : Mem w1 w4 [(g6, .cells #[.map (some gm)] 175 (0, 0)), (gm, .map #[] 0)] := M3.put 0 rfl h4
  have hgm := M4.new 1 rfl
  have hg6 := M4.new 0 rfl
  have hne : gm ≠ g6 := by
    have := M4.nodup
    simp at this
    exact fun e => this e.symm
  refine ⟨[], [.pointer (some ⟨g6, 0, none⟩)], rfl, rfl, ?_⟩
  refine ⟨(K.length : Int) - 1, fit ⟨by omega, by omega⟩, ?_⟩
  refine loopE C_ok (fun (s : Nat × Value × List Fact) => [(5, .slice AK K.length cK), (7, .func (.func 169) #[] #[.pointer (some ⟨g6, 0, none⟩)]), (8, s.2.1), (9, .int .i64 ((s.1 : Int) - 1))])
    (fun s w' => s.1 ≤ K.length ∧ Mem w1 w' [(g6, .cells #[.map (some gm)] 175 (0, 0))] ∧ VoidIs w' gm s.2.2 ∧ NewF w1.heap.size w' s.2.1 s.2.2 ∧ backL [] K.reverse = backL s.2.2 (K.take s.1).reverse ∧ s.2.2.length + s.1 ≤ K.length) (fun s => s.1) (K.length, .slice none 0 0, [])
    ⟨rfl, rfl, rfl, rfl, trivial⟩ ⟨Nat.le_refl _, M4.sub (List.Sublist.cons_cons _ (List.nil_sublist _)), ⟨_, MapIs.empty (M4.get 1 rfl), fun q => rfl⟩, newF_nil _ _, by rw [List.take_length], by simp⟩ ?_
  rintro ⟨n, v, acc⟩ w5 ⟨hn', M5, hv5', ho', hb', hal'⟩
  have hn : n ≤ K.length := hn'
  have ho : NewF w1.heap.size w5 v acc := ho'
  have hv5 : VoidIs w5 gm acc := hv5'
  have hb : backL [] K.reverse = backL acc (K.take n).reverse := hb'
  have hal : acc.length + n ≤ K.length := hal'
  clear hal' hb' hn' ho' hv5'
  refine brE_dec (fun hge => ?_) (fun hlt => ?_)
  · have hge : (n : Int) - 1 ≥ 0 := hge
    obtain ⟨m, rfl⟩ : ∃ m, n = m + 1 := ⟨n - 1, by omega⟩
    have hm : m < K.length := by omega
    rw [backL_step hm] at hb
    have next : IntKind.i64.wrap ((((m + 1 : Nat) : Int) - 1) - 1) = (m : Int) - 1 := by rw [fit ⟨by omega, by omega⟩]; omega
    obtain ⟨b2, o2, hA2, hc2⟩ := Reads.fact (hrK.ext M5.ext) hm
    refine ⟨m, b2, o2, by omega, hm, hA2, ?_⟩
    refine ⟨K[m].cells, rfl, hc2, ?_⟩
    obtain ⟨es, clk, hmap5⟩ := hv5.lt
    refine (Counting1_spec (h.nums _ (hsub _ (List.getElem_mem hm))) (M5.get 0 rfl) hv5).mono ?_
    rintro v6 w6 ⟨rfl, hg56, hv6⟩
    have M6 : Mem w1 w6 [(g6, .cells #[.map (some gm)] 175 (0, 0))] := M5.grown hg56 (fun q hq => by cases hq; exact hgm) (fun p hp => by simp at hp; subst hp; exact fun e => hne (by injection e with e; exact e.symm))
    have ho6 : NewF w1.heap.size w6 v acc := ownsRow_grown ho hg56 (fun e => own_ne ho hmap5 (fun c fr e => by cases e) e.symm)
    refine brE_mk (fun hbf => ?_) (fun hbt => ?_)
    · have hbf : voidedBy acc K[m].id = false := by simpa using hbf
      rw [hbf, if_neg (by decide)] at hb hv6
      obtain ⟨b3, o3, hA3, hc3⟩ := Reads.fact (hrK.ext M6.ext) hm
      refine ⟨m, b3, o3, by omega, hm, hA3, ?_⟩
      refine ⟨K[m].cells, rfl, hc3, ?_⟩
      intro g w7 h7
      have M7 := M6.alloc h7
      have ho7 : w7.ownsRow w1.heap.size 90 9 v acc.length (fcells acc) := ownsRow_ext ho6 h7.ext
      have hv7 := hv6.ext h7.ext
      obtain ⟨es7, clk7, hmap7⟩ := hv7.lt
      refine ⟨rfl, rfl, rfl, w1.heap.size, _, _, K[m].cells, ho7, M7.ext.size, Nat.le_of_ble_eq_true rfl, rfl, rfl, .inr ⟨g, 0, rfl, Rd.of_block h7.here⟩, rfl, rfl, by omega, by simp only [maxLen]; omega, ?_⟩
      intro v8 w8 ho8 hg8 _
      have M8 : Mem w1 w8 [(g6, .cells #[.map (some gm)] 175 (0, 0))] := M7.tail.grown hg8 (fun q hq => (ho7.lt q hq).1) (fun p hp => by
        simp at hp; subst hp
        exact own_ne ho7 (M7.get 1 rfl) (fun c fr e => by cases e))
      have hv8 : VoidIs w8 gm (acc ++ [K[m]]) := by
        obtain ⟨f, hf, hfv⟩ := hv7
        exact ⟨f, hf.same (hg8.block gm (lt_of_heap hmap7) (own_ne ho7 hmap7 (fun c fr e => by cases e))), hfv⟩
      refine ⟨_, next, ?_⟩
      refine ⟨(m, v8, acc ++ [K[m]]), ⟨rfl, rfl, rfl, rfl, trivial⟩, ⟨by show m ≤ K.length; omega, M8, hv8, ?_, hb, by show (acc ++ [K[m]]).length + m ≤ K.length; simp; omega⟩, by show m < m + 1; omega⟩
      show w8.ownsRow _ _ _ v8 (acc ++ [K[m]]).length (fcells (acc ++ [K[m]]))
      rw [fcells_append, fcells_one, List.length_append]
      exact ho8
    · have hbt : voidedBy acc K[m].id = true := by simpa using hbt
      rw [hbt, if_pos rfl] at hb hv6
      refine ⟨_, next, ?_⟩
      exact ⟨(m, v, acc), ⟨rfl, rfl, rfl, rfl, trivial⟩, ⟨by show m ≤ K.length; omega, M6, hv6, ho6, hb, by show acc.length + m ≤ K.length; omega⟩, by show m < m + 1; omega⟩
  · have : n = 0 := by have : ¬ (n : Int) - 1 ≥ 0 := hlt; omega
    subst this
    have hb : backL [] K.reverse = acc := hb
    rw [hb]
    refine (ReverseF_spec ho (by omega)).mono ?_
    rintro v6 w6 ⟨rfl, ho6, b6⟩
    exact ⟨ho6.base e1.size, e1.trans (Below.trans M5.ext b6)⟩
end Go.Proofs.YtahgjidcaeieaaaGreatDoor
namespace Go.Proofs.YtahgjidcaeieaaaGreatDoor
open Go.Eng Go.RowKit
theorem At1_spec {w : World} {x : Fact} {g5 : Nat} {day : Int} (hc : w.heap[g5]? = some (.cells #[.int .i64 day] 3 (0, 0))) :
    CallsV C.P 161 (#[] ++ [x.val].toArray ++ #[.pointer (some ⟨g5, 0, none⟩)]) w fun v w' => v = .bool (decide (x.kind = 11) || !holdsB day x) ∧ Ext w w' := by
  refine callsV_of C_ok (args := [_, _]) (plans := []) Tryz.func161 rfl Tryz.ntmps161 (by kernel_rfl) (Nat.le_of_ble_eq_true rfl) ?_
  intro g2 w1 h1
  have M1 := (Mem.start w).alloc h1
  refine ⟨_, M1.cell 0 rfl rfl, ?_⟩
  refine brE_dec (fun hk => ?_) (fun hk => ?_)
  · have hk : x.kind = 11 := hk
    exact ⟨by rw [decide_eq_true hk]; rfl, M1.ext⟩
  · have hk : ¬ x.kind = 11 := hk
    refine ⟨x.cells, rfl, M1.rd 0 rfl, ?_⟩
    refine ⟨_, cell_of_block (h1.ext.heap hc) rfl, ?_⟩
    refine (Holds_spec x day w1).mono ?_
    rintro v w2 ⟨rfl, e2⟩
    exact ⟨by rw [decide_eq_false hk]; rfl, M1.ext.trans e2⟩
theorem At_spec {w : World} {A : Option Addr} {l : List Fact} {c : Nat} (h : HF w A l c) (hl : l.length ≤ 2 ^ 20) (k day : Int) :
    CallsV C.P 137 #[.slice A l.length c, .int .i64 k, .int .i64 day] w fun v w' => NewF w.heap.size w' v (atL k day l) ∧ Ext w w' := by
  refine callsV_of C_ok (args := [_, _, _]) (plans := []) Tryz.func137 rfl Tryz.ntmps137 (by kernel_rfl) (Nat.le_of_ble_eq_true rfl) ?_
  intro g5 w1 h1
  have M1 := (Mem.start w).alloc h1
  refine (Counting_spec (h.ext M1.ext) hl k).mono ?_
  rintro v w2 ⟨ho, e2⟩
  have hcl := countL_length k l
  refine ⟨[], [.pointer (some ⟨g5, 0, none⟩)], rfl, rfl, ?_⟩
  have hc2 : w2.heap[g5]? = some (.cells #[.int .i64 day] 3 (0, 0)) := e2.heap h1.here
  have hlt : g5 < w1.heap.size := lt_of_heap h1.here
  refine (DeleteFuncF_spec (p := fun x => decide (x.kind = 11) || !holdsB day x) ho e2.size (by omega) rfl (fun x w' b => At1_spec (by rw [b.block g5 hlt]; exact hc2))).mono ?_
  rintro v' w3 ⟨ho3, b3⟩
  refine ⟨?_, M1.ext.trans (Below.trans e2 b3)⟩
  have e : ((countL k l).filter fun x => !(decide (x.kind = 11) || !holdsB day x)) = atL k day l := by
    unfold atL
    congr 1
    funext x
    rw [Bool.not_or, Bool.not_not]
  rw [← e]
  exact ho3.base M1.ext.size
end Go.Proofs.YtahgjidcaeieaaaGreatDoor
namespace Go.Proofs.YtahgjidcaeieaaaGreatDoor
open Go.Eng Go.RowKit
def ptrs (g : Nat) (os : List Nat) : List Value := os.map fun o => Value.pointer (some ⟨g, o, none⟩)
def OffsPost (g : Nat) (os : List Nat) (w : World) (v : Value) (w' : World) : Prop := (∃ h, v = .slice (some ⟨h, 0, none⟩) os.length os.length ∧ w'.heap[h]? = some (.cells (ptrs g os).toArray 79 (0, 0)) ∧ w.heap.size ≤ h) ∧ Ext w w'
theorem forms1_spec (g : Nat) (w : World) : CallsV C.P 141 (#[] ++ [.pointer (some ⟨g, 0, none⟩)].toArray ++ #[]) w (OffsPost g [3, 4, 5, 6, 7] w) := by
  refine callsV_of C_ok (args := [_]) (plans := plans141) Tryz.func141 rfl Tryz.ntmps141 (by kernel_rfl) (Nat.le_of_ble_eq_true rfl) ?_
  intro h w1 h1
  exact ⟨⟨h, rfl, h1.here, by rw [h1.new]; exact Nat.le_refl _⟩, h1.ext⟩
theorem forms2_spec (g : Nat) (w : World) : CallsV C.P 142 (#[] ++ [.pointer (some ⟨g, 0, none⟩)].toArray ++ #[]) w (OffsPost g [3, 5, 6, 7] w) := by
  refine callsV_of C_ok (args := [_]) (plans := plans142) Tryz.func142 rfl Tryz.ntmps142 (by kernel_rfl) (Nat.le_of_ble_eq_true rfl) ?_
  intro h w1 h1
  exact ⟨⟨h, rfl, h1.here, by rw [h1.new]; exact Nat.le_refl _⟩, h1.ext⟩
theorem forms7_spec (g : Nat) (w : World) : CallsV C.P 150 (#[] ++ [.pointer (some ⟨g, 0, none⟩)].toArray ++ #[]) w (OffsPost g [3, 4, 6, 7] w) := by
  refine callsV_of C_ok (args := [_]) (plans := plans150) Tryz.func150 rfl Tryz.ntmps150 (by kernel_rfl) (Nat.le_of_ble_eq_true rfl) ?_
  intro h w1 h1
  exact ⟨⟨h, rfl, h1.here, by rw [h1.new]; exact Nat.le_refl _⟩, h1.ext⟩
theorem forms9_spec (g : Nat) (w : World) : CallsV C.P 152 (#[] ++ [.pointer (some ⟨g, 0, none⟩)].toArray ++ #[]) w (OffsPost g [3, 6, 7] w) := by
  refine callsV_of C_ok (args := [_]) (plans := plans152) Tryz.func152 rfl Tryz.ntmps152 (by kernel_rfl) (Nat.le_of_ble_eq_true rfl) ?_
  intro h w1 h1
  exact ⟨⟨h, rfl, h1.here, by rw [h1.new]; exact Nat.le_refl _⟩, h1.ext⟩
theorem forms12_spec (g : Nat) (w : World) : CallsV C.P 155 (#[] ++ [.pointer (some ⟨g, 0, none⟩)].toArray ++ #[]) w (OffsPost g [3, 6] w) := by
  refine callsV_of C_ok (args := [_]) (plans := plans155) Tryz.func155 rfl Tryz.ntmps155 (by kernel_rfl) (Nat.le_of_ble_eq_true rfl) ?_
  intro h w1 h1
  exact ⟨⟨h, rfl, h1.here, by rw [h1.new]; exact Nat.le_refl _⟩, h1.ext⟩
theorem forms14_spec (g : Nat) (w : World) : CallsV C.P 157 (#[] ++ [.pointer (some ⟨g, 0, none⟩)].toArray ++ #[]) w (OffsPost g [4] w) := by
  refine callsV_of C_ok (args := [_]) (plans := []) Tryz.func157 rfl Tryz.ntmps157 (by kernel_rfl) (Nat.le_of_ble_eq_true rfl) ?_
  intro h w1 h1
  exact ⟨⟨h, rfl, h1.here, by rw [h1.new]; exact Nat.le_refl _⟩, h1.ext⟩
theorem none_spec (x : Fact) (w : World) : CallsV C.P 147 (#[] ++ [x.val].toArray ++ #[]) w fun v w' => NewInts w.heap.size w' v [] ∧ Ext w w' := by
  refine callsV_of C_ok (args := [_]) (plans := []) Tryz.func147 rfl Tryz.ntmps147 (by kernel_rfl) (Nat.le_of_ble_eq_true rfl) ?_
  intro g w1 h1
  exact ⟨newInts_nil _ _, h1.ext⟩
theorem what_spec (x : Fact) (w : World) : CallsV C.P 148 (#[] ++ [x.val].toArray ++ #[]) w fun v w' => NewInts w.heap.size w' v [x.what] ∧ Ext w w' := by
  refine callsV_of C_ok (args := [_]) (plans := []) Tryz.func148 rfl Tryz.ntmps148 (by kernel_rfl) (Nat.le_of_ble_eq_true rfl) ?_
  intro g w1 h1
  have M1 := (Mem.start w).alloc h1
  refine ⟨_, M1.cell 0 rfl rfl, ?_⟩
  intro g2 w2 h2
  have M2 := M1.alloc h2
  exact ⟨owns_block (cs := ints [x.what]) (M2.get 0 rfl) (M2.new 0 rfl) rfl (Nat.le_of_ble_eq_true rfl), M2.ext⟩
theorem forms11_spec (x : Fact) (w : World) : CallsV C.P 154 (#[] ++ [x.val].toArray ++ #[]) w fun v w' => NewInts w.heap.size w' v [x.who] ∧ Ext w w' := by
  refine callsV_of C_ok (args := [_]) (plans := []) Tryz.func154 rfl Tryz.ntmps154 (by kernel_rfl) (Nat.le_of_ble_eq_true rfl) ?_
  intro g w1 h1
  have M1 := (Mem.start w).alloc h1
  refine ⟨_, M1.cell 0 rfl rfl, ?_⟩
  intro g2 w2 h2
  have M2 := M1.alloc h2
  exact ⟨owns_block (cs := ints [x.who]) (M2.get 0 rfl) (M2.new 0 rfl) rfl (Nat.le_of_ble_eq_true rfl), M2.ext⟩
theorem forms6_spec (x : Fact) (w : World) : CallsV C.P 149 (#[] ++ [x.val].toArray ++ #[]) w fun v w' => NewInts w.heap.size w' v [x.who, x.what] ∧ Ext w w' := by
  refine callsV_of C_ok (args := [_]) (plans := []) Tryz.func149 rfl Tryz.ntmps149 (by kernel_rfl) (Nat.le_of_ble_eq_true rfl) ?_
  intro g w1 h1
  have M1 := (Mem.start w).alloc h1
  refine ⟨_, M1.cell 0 rfl rfl, ?_⟩
  refine ⟨_, M1.cell 0 rfl rfl, ?_⟩
  intro g2 w2 h2
  have M2 := M1.alloc h2
  exact ⟨owns_block (cs := ints [x.who, x.what]) (M2.get 0 rfl) (M2.new 0 rfl) rfl (Nat.le_of_ble_eq_true rfl), M2.ext⟩
theorem classed_spec (x : Fact) (w : World) {g : Nat} {m : Int} (hc : w.heap[g]? = some (.cells #[.int .i64 m] 3 (0, 0))) :
    CallsV C.P 144 (#[] ++ [x.val].toArray ++ #[.pointer (some ⟨g, 0, none⟩)]) w fun v w' => v = .bool (idB x.who && idB x.what && decide (1 ≤ x.other ∧ x.other ≤ m)) ∧ Ext w w' := by
  refine callsV_of C_ok (args := [_, _]) (plans := []) Tryz.func144 rfl Tryz.ntmps144 (by kernel_rfl) (Nat.le_of_ble_eq_true rfl) ?_
  intro g2 w1 h1
  have M1 := (Mem.start w).alloc h1
  refine ⟨_, M1.cell 0 rfl rfl, ?_⟩
  refine (id_spec x.who w1).mono ?_
  rintro v w2 ⟨rfl, rfl⟩
  refine brE_mk (fun a1 => ?_) (fun a1 => ?_)
  case' refine_2 => exact ⟨by rw [a1]; rfl, M1.ext⟩
  refine ⟨_, M1.cell 0 rfl rfl, ?_⟩
  refine (id_spec x.what w2).mono ?_
  rintro v w3 ⟨rfl, rfl⟩
  refine brE_mk (fun a2 => ?_) (fun a2 => ?_)
  case' refine_2 => exact ⟨by rw [a1, a2]; rfl, M1.ext⟩
  refine ⟨_, M1.cell 0 rfl rfl, ?_⟩
  rw [a1, a2]
  refine brE_dec (fun a3 => ?_) (fun a3 => ?_)
  case' refine_2 =>
    have a3 : ¬ x.other ≥ 1 := a3
    exact ⟨by rw [decide_eq_false (fun h : 1 ≤ x.other ∧ x.other ≤ m => a3 h.1)]; rfl, M1.ext⟩
  have a3 : x.other ≥ 1 := a3
  refine ⟨_, M1.cell 0 rfl rfl, ?_⟩
  refine ⟨_, cell_of_block (h1.ext.heap hc) rfl, ?_⟩
  refine ⟨congrArg Value.bool ?_, M1.ext⟩
  rw [Bool.eq_iff_iff]
  simp only [Bool.true_and, decide_eq_true_eq]
  omega
theorem forms4_spec (x : Fact) (w : World) : CallsV C.P 145 (#[] ++ [x.val].toArray ++ #[]) w fun v w' => v = .bool (idB x.who && idB x.other && !decide (x.who = x.other)) ∧ Ext w w' := by
  refine callsV_of C_ok (args := [_]) (plans := []) Tryz.func145 rfl Tryz.ntmps145 (by kernel_rfl) (Nat.le_of_ble_eq_true rfl) ?_
  intro g2 w1 h1
  have M1 := (Mem.start w).alloc h1
  refine ⟨_, M1.cell 0 rfl rfl, ?_⟩
  refine (id_spec x.who w1).mono ?_
  rintro v w2 ⟨rfl, rfl⟩
  refine brE_mk (fun a1 => ?_) (fun a1 => ?_)
  case' refine_2 => exact ⟨by rw [a1]; rfl, M1.ext⟩
  refine ⟨_, M1.cell 0 rfl rfl, ?_⟩
  refine (id_spec x.other w2).mono ?_
  rintro v w3 ⟨rfl, rfl⟩
  refine brE_mk (fun a2 => ?_) (fun a2 => ?_)
  case' refine_2 => exact ⟨by rw [a1, a2]; rfl, M1.ext⟩
  refine ⟨_, M1.cell 0 rfl rfl, ?_⟩
  refine ⟨_, M1.cell 0 rfl rfl, ?_⟩
  exact ⟨by rw [a1, a2]; rfl, M1.ext⟩
theorem forms5_spec (x : Fact) (w : World) : CallsV C.P 146 (#[] ++ [x.val].toArray ++ #[]) w fun v w' => v = .bool (idB x.who && decide (1 ≤ x.other ∧ x.other ≤ 3)) ∧ Ext w w' := by
  refine callsV_of C_ok (args := [_]) (plans := []) Tryz.func146 rfl Tryz.ntmps146 (by kernel_rfl) (Nat.le_of_ble_eq_true rfl) ?_
  intro g2 w1 h1
  have M1 := (Mem.start w).alloc h1
  refine ⟨_, M1.cell 0 rfl rfl, ?_⟩
  refine (id_spec x.who w1).mono ?_
  rintro v w2 ⟨rfl, rfl⟩
  refine brE_mk (fun a1 => ?_) (fun a1 => ?_)
  case' refine_2 => exact ⟨by rw [a1]; rfl, M1.ext⟩
  refine ⟨_, M1.cell 0 rfl rfl, ?_⟩
  rw [a1]
  refine brE_dec (fun a3 => ?_) (fun a3 => ?_)
  case' refine_2 =>
    have a3 : ¬ x.other ≥ 1 := a3
    exact ⟨by rw [decide_eq_false (fun h : 1 ≤ x.other ∧ x.other ≤ 3 => a3 h.1)]; rfl, M1.ext⟩
  have a3 : x.other ≥ 1 := a3
  refine ⟨_, M1.cell 0 rfl rfl, ?_⟩
  refine ⟨congrArg Value.bool ?_, M1.ext⟩
  rw [Bool.eq_iff_iff]
  simp only [Bool.true_and, decide_eq_true_eq]
  omega
theorem forms8_spec (x : Fact) (w : World) : CallsV C.P 151 (#[] ++ [x.val].toArray ++ #[]) w fun v w' => v = .bool (idB x.who && idB x.what) ∧ Ext w w' := by
  refine callsV_of C_ok (args := [_]) (plans := []) Tryz.func151 rfl Tryz.ntmps151 (by kernel_rfl) (Nat.le_of_ble_eq_true rfl) ?_
  intro g2 w1 h1
  have M1 := (Mem.start w).alloc h1
  refine ⟨_, M1.cell 0 rfl rfl, ?_⟩
  refine (id_spec x.who w1).mono ?_
  rintro v w2 ⟨rfl, rfl⟩
  refine brE_mk (fun a1 => ?_) (fun a1 => ?_)
  case' refine_2 => exact ⟨by rw [a1]; rfl, M1.ext⟩
  refine ⟨_, M1.cell 0 rfl rfl, ?_⟩
  refine (id_spec x.what w2).mono ?_
  rintro v w3 ⟨rfl, rfl⟩
  exact ⟨by rw [a1]; rfl, M1.ext⟩
theorem forms10_spec (x : Fact) (w : World) : CallsV C.P 153 (#[] ++ [x.val].toArray ++ #[]) w fun v w' => v = .bool (idB x.who) ∧ Ext w w' := by
  refine callsV_of C_ok (args := [_]) (plans := []) Tryz.func153 rfl Tryz.ntmps153 (by kernel_rfl) (Nat.le_of_ble_eq_true rfl) ?_
  intro g2 w1 h1
  have M1 := (Mem.start w).alloc h1
  refine ⟨_, M1.cell 0 rfl rfl, ?_⟩
  refine (id_spec x.who w1).mono ?_
  rintro v w2 ⟨rfl, rfl⟩
  exact ⟨rfl, M1.ext⟩
theorem forms13_spec (x : Fact) (w : World) : CallsV C.P 156 (#[] ++ [x.val].toArray ++ #[]) w fun v w' => v = .bool (idB x.who) ∧ Ext w w' := by
  refine callsV_of C_ok (args := [_]) (plans := []) Tryz.func156 rfl Tryz.ntmps156 (by kernel_rfl) (Nat.le_of_ble_eq_true rfl) ?_
  intro g2 w1 h1
  have M1 := (Mem.start w).alloc h1
  refine ⟨_, M1.cell 0 rfl rfl, ?_⟩
  refine (id_spec x.who w1).mono ?_
  rintro v w2 ⟨rfl, rfl⟩
  exact ⟨rfl, M1.ext⟩
theorem forms15_spec (x : Fact) (w : World) : CallsV C.P 158 (#[] ++ [x.val].toArray ++ #[]) w fun v w' => v = .bool (idB x.what && !decide (x.what = x.id)) ∧ Ext w w' := by
  refine callsV_of C_ok (args := [_]) (plans := []) Tryz.func158 rfl Tryz.ntmps158 (by kernel_rfl) (Nat.le_of_ble_eq_true rfl) ?_
  intro g2 w1 h1
  have M1 := (Mem.start w).alloc h1
  refine ⟨_, M1.cell 0 rfl rfl, ?_⟩
  refine (id_spec x.what w1).mono ?_
  rintro v w2 ⟨rfl, rfl⟩
  refine brE_mk (fun a1 => ?_) (fun a1 => ?_)
  case' refine_2 => exact ⟨by rw [a1]; rfl, M1.ext⟩
  refine ⟨_, M1.cell 0 rfl rfl, ?_⟩
  refine ⟨_, M1.cell 0 rfl rfl, ?_⟩
  exact ⟨by rw [a1]; rfl, M1.ext⟩
end Go.Proofs.YtahgjidcaeieaaaGreatDoor
namespace Go.Proofs.YtahgjidcaeieaaaGreatDoor
open Go.Eng Go.RowKit
theorem forms3_spec (m : Int) (w : World) : CallsV C.P 143 (#[] ++ [.int .i64 m].toArray ++ #[]) w fun v w' => (∃ g, v = .func (.func 144) #[] #[.pointer (some ⟨g, 0, none⟩)] ∧ w'.heap[g]? = some (.cells #[.int .i64 m] 3 (0, 0))) ∧ Ext w w' := by
  refine callsV_of C_ok (args := [_]) (plans := []) Tryz.func143 rfl Tryz.ntmps143 (by kernel_rfl) (Nat.le_of_ble_eq_true rfl) ?_
  intro g w1 h1
  refine ⟨[], [.pointer (some ⟨g, 0, none⟩)], rfl, rfl, ?_⟩
  exact ⟨⟨g, rfl, h1.here⟩, h1.ext⟩
def form88 (wd : ByteArray) (a b c : Value) (n : Bool) : List Value := [.string wd, a, b, c, .bool n]
def fv (f : Nat) : Value := .func (.func f) #[] #[]
def clV (g : Nat) : Value := .func (.func 144) #[] #[.pointer (some ⟨g, 0, none⟩)]
def wordA (k : Nat) : ByteArray := match k with
  | 1 => ⟨#[110, 97, 109, 101]⟩
  | 2 => ⟨#[111, 102, 102, 105, 99, 101]⟩
  | 3 => ⟨#[97, 99, 116, 105, 110, 103]⟩
  | 4 => ⟨#[114, 101, 99, 111, 103, 110, 105, 115, 101]⟩
  | 5 => ⟨#[99, 114, 101, 100, 101, 110, 116, 105, 97, 108, 115]⟩
  | 6 => ⟨#[109, 97, 114, 114, 105, 101, 100]⟩
  | 7 => ⟨#[109, 111, 117, 114, 110, 105, 110, 103]⟩
  | 8 => ⟨#[118, 105, 115, 105, 116]⟩
  | 9 => ⟨#[100, 101, 112, 117, 116, 121]⟩
  | 10 => ⟨#[100, 101, 97, 116, 104]⟩
  | 11 => ⟨#[118, 111, 105, 100]⟩
  | _ => ⟨#[]⟩
def formK (p2 p3 p4 p8 : Nat) (k : Nat) : List Value := match k with
  | 1 => form88 (wordA 1) (fv 142) (fv 146) (fv 147) true
  | 2 => form88 (wordA 2) (fv 141) (clV p2) (fv 148) false
  | 3 => form88 (wordA 3) (fv 141) (clV p3) (fv 148) false
  | 4 => form88 (wordA 4) (fv 141) (clV p4) (fv 149) false
  | 5 => form88 (wordA 5) (fv 150) (fv 151) (fv 148) false
  | 6 => form88 (wordA 6) (fv 142) (fv 145) (fv 147) false
  | 7 => form88 (wordA 7) (fv 152) (fv 153) (fv 154) false
  | 8 => form88 (wordA 8) (fv 141) (clV p8) (fv 148) false
  | 9 => form88 (wordA 9) (fv 142) (fv 145) (fv 147) false
  | 10 => form88 (wordA 10) (fv 155) (fv 156) (fv 147) false
  | 11 => form88 (wordA 11) (fv 157) (fv 158) (fv 147) false
  | _ => [.string ⟨#[]⟩, .nilFunc, .nilFunc, .nilFunc, .bool false]
def formsL (p2 p3 p4 p8 : Nat) : List Value := (List.range 12).flatMap (formK p2 p3 p4 p8)
theorem put_eq {w w' : World} {g : Nat} {o o' : Obj} (h : Put w g o w') (e : o = o') : Put w g o' w' := e ▸ h
set_option maxRecDepth 100000 in
theorem forms_spec (w : World) : CallsV C.P 136 #[] w fun v w' => (∃ p2 p3 p4 p8, v = .agg (formsL p2 p3 p4 p8).toArray ∧ w'.heap[p2]? = some (.cells #[.int .i64 4] 3 (0, 0)) ∧ w'.heap[p3]? = some (.cells #[.int .i64 4] 3 (0, 0)) ∧ w'.heap[p4]? = some (.cells #[.int .i64 1000000] 3 (0, 0)) ∧ w'.heap[p8]? = some (.cells #[.int .i64 2] 3 (0, 0))) ∧ Ext w w' := by
  refine callsV_of C_ok (args := []) (plans := []) Tryz.func136 rfl Tryz.ntmps136 (by kernel_rfl) (Nat.le_of_ble_eq_true rfl) ?_
  intro g0 w1 h1
  have M1 := (Mem.start w).alloc h1
  refine (forms3_spec 4 w1).mono ?_
  rintro v w2 ⟨⟨p2, rfl, c2⟩, e2⟩
  refine (forms3_spec 4 w2).mono ?_
  rintro v w3 ⟨⟨p3, rfl, c3⟩, e3⟩
  refine (forms3_spec 1000000 w3).mono ?_
  rintro v w4 ⟨⟨p4, rfl, c4⟩, e4⟩
  refine (forms3_spec 2 w4).mono ?_
  rintro v w5 ⟨⟨p8, rfl, c8⟩, e5⟩
  have M5 := (((M1.grow e2).grow e3).grow e4).grow e5
  refine ⟨by kernel_rfl, _, _, M5.get 0 rfl, Nat.le_of_ble_eq_true (by kernel_rfl), by kernel_rfl, ?_⟩
  intro w6 h6
  have h6 := put_eq h6 (o' := .cells (formsL p2 p3 p4 p8).toArray 195 (0, 0)) (by kernel_rfl)
  have M6 := M5.put 0 rfl h6
  have hE : Ext w1 w5 := ((e2.trans e3).trans e4).trans e5
  have hne : ∀ {p : Nat} {m : Int}, w5.heap[p]? = some (.cells #[.int .i64 m] 3 (0, 0)) → p ≠ g0 := fun hp e => by
    subst e
    have := M5.get 0 rfl
    rw [hp] at this
    cases this
  have keep : ∀ {p : Nat} {m : Int}, w5.heap[p]? = some (.cells #[.int .i64 m] 3 (0, 0)) → w6.heap[p]? = some (.cells #[.int .i64 m] 3 (0, 0)) := fun hp => (h6.there _ (hne hp)).trans hp
  refine ⟨formsL p2 p3 p4 p8, by kernel_rfl, Rd.of_block h6.here, ?_⟩
  exact ⟨⟨p2, p3, p4, p8, rfl, keep (e5.heap (e4.heap (e3.heap c2))), keep (e5.heap (e4.heap c3)), keep (e5.heap c4), keep c8⟩, M6.ext⟩
end Go.Proofs.YtahgjidcaeieaaaGreatDoor
namespace Go.Proofs.YtahgjidcaeieaaaGreatDoor
open Go.Eng Go.RowKit
abbrev inRng (n : Nat) : Prop := C.can n = true
def FormOk (w : World) (k : Nat) (v : Value) : Prop :=
  ∃ n1 n2 n3 c2, v = .agg #[.string (wordA k), .func (.func n1) #[] #[], .func (.func n2) #[] c2, .func (.func n3) #[] #[], .bool (Nat.beq k 1)] ∧ inRng n1 ∧ inRng n2 ∧ inRng n3 ∧
    (∀ g w', CallsV C.P n1 (#[] ++ [.pointer (some ⟨g, 0, none⟩)].toArray ++ #[]) w' (OffsPost g (offs k) w')) ∧
    (∀ (x : Fact) w', x.kind = k → Ext w w' → CallsV C.P n2 (#[] ++ [x.val].toArray ++ c2) w' fun r w'' => r = .bool (rightB x) ∧ Ext w' w'') ∧
    (∀ (x : Fact) w', x.kind = k → Ext w w' → CallsV C.P n3 (#[] ++ [x.val].toArray ++ #[]) w' fun r w'' => NewInts w'.heap.size w'' r (speaks x) ∧ Ext w' w'')
theorem form_ok {w : World} {p2 p3 p4 p8 : Nat} (h2 : w.heap[p2]? = some (.cells #[.int .i64 4] 3 (0, 0))) (h3 : w.heap[p3]? = some (.cells #[.int .i64 4] 3 (0, 0))) (h4 : w.heap[p4]? = some (.cells #[.int .i64 1000000] 3 (0, 0))) (h8 : w.heap[p8]? = some (.cells #[.int .i64 2] 3 (0, 0))) {k : Nat} (h1 : 1 ≤ k) (hk : k ≤ 11) :
    FormOk w k (.agg (formK p2 p3 p4 p8 k).toArray) := by
  have cases : k = 1 ∨ k = 2 ∨ k = 3 ∨ k = 4 ∨ k = 5 ∨ k = 6 ∨ k = 7 ∨ k = 8 ∨ k = 9 ∨ k = 10 ∨ k = 11 := by omega
  rcases cases with rfl | rfl | rfl | rfl | rfl | rfl | rfl | rfl | rfl | rfl | rfl
  · exact ⟨_, _, _, _, rfl, rfl, rfl, rfl, fun g w' => forms2_spec g w', fun x w' hk e => by
      have : rightB x = (idB x.who && decide (1 ≤ x.other ∧ x.other ≤ 3)) := by simp [rightB, hk]
      rw [this]; exact forms5_spec x w', fun x w' hk e => by
      have : speaks x = [] := by simp [speaks, hk]
      rw [this]; exact none_spec x w'⟩
  · exact ⟨_, _, _, _, rfl, rfl, rfl, rfl, fun g w' => forms1_spec g w', fun x w' hk e => by
      have : rightB x = (idB x.who && idB x.what && decide (1 ≤ x.other ∧ x.other ≤ 4)) := by simp [rightB, hk]
      rw [this]; exact classed_spec x w' (e.heap h2), fun x w' hk e => by
      have : speaks x = [x.what] := by simp [speaks, hk]
      rw [this]; exact what_spec x w'⟩
  · exact ⟨_, _, _, _, rfl, rfl, rfl, rfl, fun g w' => forms1_spec g w', fun x w' hk e => by
      have : rightB x = (idB x.who && idB x.what && decide (1 ≤ x.other ∧ x.other ≤ 4)) := by simp [rightB, hk]
      rw [this]; exact classed_spec x w' (e.heap h3), fun x w' hk e => by
      have : speaks x = [x.what] := by simp [speaks, hk]
      rw [this]; exact what_spec x w'⟩
  · exact ⟨_, _, _, _, rfl, rfl, rfl, rfl, fun g w' => forms1_spec g w', fun x w' hk e => by
      have : rightB x = (idB x.who && idB x.what && decide (1 ≤ x.other ∧ x.other ≤ 1000000)) := by simp [rightB, hk]
      rw [this]; exact classed_spec x w' (e.heap h4), fun x w' hk e => by
      have : speaks x = [x.who, x.what] := by simp [speaks, hk]
      rw [this]; exact forms6_spec x w'⟩
  · exact ⟨_, _, _, _, rfl, rfl, rfl, rfl, fun g w' => forms7_spec g w', fun x w' hk e => by
      have : rightB x = (idB x.who && idB x.what) := by simp [rightB, hk]
      rw [this]; exact forms8_spec x w', fun x w' hk e => by
      have : speaks x = [x.what] := by simp [speaks, hk]
      rw [this]; exact what_spec x w'⟩
  · exact ⟨_, _, _, _, rfl, rfl, rfl, rfl, fun g w' => forms2_spec g w', fun x w' hk e => by
      have : rightB x = (idB x.who && idB x.other && !decide (x.who = x.other)) := by simp [rightB, hk]
      rw [this]; exact forms4_spec x w', fun x w' hk e => by
      have : speaks x = [] := by simp [speaks, hk]
      rw [this]; exact none_spec x w'⟩
  · exact ⟨_, _, _, _, rfl, rfl, rfl, rfl, fun g w' => forms9_spec g w', fun x w' hk e => by
      have : rightB x = idB x.who := by simp [rightB, hk]
      rw [this]; exact forms10_spec x w', fun x w' hk e => by
      have : speaks x = [x.who] := by simp [speaks, hk]
      rw [this]; exact forms11_spec x w'⟩
  · exact ⟨_, _, _, _, rfl, rfl, rfl, rfl, fun g w' => forms1_spec g w', fun x w' hk e => by
      have : rightB x = (idB x.who && idB x.what && decide (1 ≤ x.other ∧ x.other ≤ 2)) := by simp [rightB, hk]
      rw [this]; exact classed_spec x w' (e.heap h8), fun x w' hk e => by
      have : speaks x = [x.what] := by simp [speaks, hk]
      rw [this]; exact what_spec x w'⟩
  · exact ⟨_, _, _, _, rfl, rfl, rfl, rfl, fun g w' => forms2_spec g w', fun x w' hk e => by
      have : rightB x = (idB x.who && idB x.other && !decide (x.who = x.other)) := by simp [rightB, hk]
      rw [this]; exact forms4_spec x w', fun x w' hk e => by
      have : speaks x = [] := by simp [speaks, hk]
      rw [this]; exact none_spec x w'⟩
  · exact ⟨_, _, _, _, rfl, rfl, rfl, rfl, fun g w' => forms12_spec g w', fun x w' hk e => by
      have : rightB x = idB x.who := by simp [rightB, hk]
      rw [this]; exact forms13_spec x w', fun x w' hk e => by
      have : speaks x = [] := by simp [speaks, hk]
      rw [this]; exact none_spec x w'⟩
  · exact ⟨_, _, _, _, rfl, rfl, rfl, rfl, fun g w' => forms14_spec g w', fun x w' hk e => by
      have : rightB x = (idB x.what && !decide (x.what = x.id)) := by simp [rightB, hk]
      rw [this]; exact forms15_spec x w', fun x w' hk e => by
      have : speaks x = [] := by simp [speaks, hk]
      rw [this]; exact none_spec x w'⟩
end Go.Proofs.YtahgjidcaeieaaaGreatDoor
namespace Go.Proofs.YtahgjidcaeieaaaGreatDoor
open Go.Eng Go.RowKit
theorem formK_len (p2 p3 p4 p8 k : Nat) : (formK p2 p3 p4 p8 k).length = 5 := by unfold formK; split <;> rfl
theorem formK_one (p2 p3 p4 p8 k : Nat) : (formK p2 p3 p4 p8 k).all (·.oneCell') = true := by unfold formK; split <;> rfl
theorem splice_whole {cs vs : List Value} (h : cs.length ≤ vs.length) : splice cs 0 vs = vs := by
  unfold splice
  rw [List.take_zero, List.nil_append, List.drop_eq_nil_of_le (by omega), List.append_nil]
theorem forms_at {p2 p3 p4 p8 : Nat} : ∀ {k : Nat}, 1 ≤ k → k ≤ 11 → (formsL p2 p3 p4 p8).toArray.extract (k * 5) (k * 5 + 5) = (formK p2 p3 p4 p8 k).toArray
  | 0, h, _ => absurd h (by decide)
  | 1, _, _ => by kernel_rfl
  | 2, _, _ => by kernel_rfl
  | 3, _, _ => by kernel_rfl
  | 4, _, _ => by kernel_rfl
  | 5, _, _ => by kernel_rfl
  | 6, _, _ => by kernel_rfl
  | 7, _, _ => by kernel_rfl
  | 8, _, _ => by kernel_rfl
  | 9, _, _ => by kernel_rfl
  | 10, _, _ => by kernel_rfl
  | 11, _, _ => by kernel_rfl
  | n + 12, _, h => absurd h (by omega)
set_option maxRecDepth 100000 in
theorem formOf_spec (k : Nat) (w : World) : CallsV C.P 129 #[.int .u8 k] w fun v w' =>
    (if 1 ≤ k ∧ k ≤ 11 then ∃ cs : List Value, v = .tuple #[.agg cs.toArray, .bool true] ∧ cs.length = 5 ∧ cs.all (·.oneCell') = true ∧ FormOk w' k (.agg cs.toArray) else v = .tuple #[.agg (formK 0 0 0 0 0).toArray, .bool false]) ∧ Ext w w' := by
  refine callsV_of C_ok (args := [_]) (plans := []) Tryz.func129 rfl Tryz.ntmps129 (by kernel_rfl) (Nat.le_of_ble_eq_true rfl) ?_
  intro g2 w1 h1
  have M1 := (Mem.start w).alloc h1
  have no : ¬ (1 ≤ k ∧ k ≤ 11) → ∀ {w' : World}, Put w1 g2 (.cells (formK 0 0 0 0 0).toArray 185 (0, 0)) w' → Ext w w' := fun _ w' h => (M1.put 0 rfl h).ext
  refine brE_dec (fun a1 => ?_) (fun a1 => ?_)
  · have a1 : (k : Int) < 1 := a1
    refine ⟨rfl, _, _, M1.get 0 rfl, Nat.le_of_ble_eq_true rfl, rfl, ?_⟩
    intro w2 h2
    have h2 : Put w1 g2 (.cells (formK 0 0 0 0 0).toArray 185 (0, 0)) w2 := h2
    refine ⟨formK 0 0 0 0 0, rfl, Rd.of_block h2.here, ?_⟩
    refine ⟨?_, no (by omega) h2⟩
    rw [if_neg (by omega)]
  have a1 : ¬ (k : Int) < 1 := a1
  refine brE_dec (fun a2 => ?_) (fun a2 => ?_)
  · have a2 : (k : Int) > 11 := a2
    refine ⟨rfl, _, _, M1.get 0 rfl, Nat.le_of_ble_eq_true rfl, rfl, ?_⟩
    intro w2 h2
    have h2 : Put w1 g2 (.cells (formK 0 0 0 0 0).toArray 185 (0, 0)) w2 := h2
    refine ⟨formK 0 0 0 0 0, rfl, Rd.of_block h2.here, ?_⟩
    refine ⟨?_, no (by omega) h2⟩
    rw [if_neg (by omega)]
  have a2 : ¬ (k : Int) > 11 := a2
  refine (forms_spec w1).mono ?_
  rintro v w2 ⟨⟨p2, p3, p4, p8, rfl, c2, c3, c4, c8⟩, e2⟩
  have M2 := M1.grow e2
  have hx := forms_at (p2 := p2) (p3 := p3) (p4 := p4) (p8 := p8) (k := k) (by omega) (by omega)
  have hlen := formK_len p2 p3 p4 p8 k
  refine ⟨k, rfl, by omega, ?_⟩
  refine ⟨?s, _, _, M2.get 0 rfl, Nat.le_of_ble_eq_true rfl, ?o, ?_⟩
  case s =>
    show ((formsL p2 p3 p4 p8).toArray.extract (k * 5) (k * 5 + 5)).size = 5
    rw [hx]; exact hlen
  case o =>
    show ((formsL p2 p3 p4 p8).toArray.extract (k * 5) (k * 5 + 5)).toList.all (·.oneCell') = true
    rw [hx]; exact formK_one p2 p3 p4 p8 k
  intro w3 h3
  have h3 := put_eq h3 (o' := .cells (formK p2 p3 p4 p8 k).toArray 185 (0, 0)) (by
    show Obj.cells (splice _ 0 ((formsL p2 p3 p4 p8).toArray.extract (k * 5) (k * 5 + 5)).toList).toArray _ _ = _
    rw [hx]
    congr 2
    exact splice_whole (by rw [hlen]; exact Nat.le_of_ble_eq_true rfl))
  have M3 := M2.put 0 rfl h3
  have keep : ∀ {p : Nat} {m : Int}, w2.heap[p]? = some (.cells #[.int .i64 m] 3 (0, 0)) → w3.heap[p]? = some (.cells #[.int .i64 m] 3 (0, 0)) := fun hp => (h3.there _ (fun e => by
    subst e
    have := M2.get 0 rfl
    rw [hp] at this
    cases this)).trans hp
  refine ⟨formK p2 p3 p4 p8 k, hlen, Rd.of_block h3.here, ?_⟩
  refine ⟨?_, M3.ext⟩
  rw [if_pos ⟨by omega, by omega⟩]
  exact ⟨_, rfl, hlen, formK_one _ _ _ _ _, form_ok (keep c2) (keep c3) (keep c4) (keep c8) (by omega) (by omega)⟩
end Go.Proofs.YtahgjidcaeieaaaGreatDoor
namespace Go.Proofs.YtahgjidcaeieaaaGreatDoor
open Go.Eng Go.RowKit
theorem formE_head {x : Fact} (h : headB x = false) : formE x = 1 := by unfold formE; rw [h]; rfl
theorem headB_iff {x : Fact} : headB x = true ↔ (1 ≤ x.kind ∧ x.kind ≤ 11) ∧ idB x.id = true ∧ (0 ≤ x.known ∧ x.known ≤ 100000) ∧ (0 ≤ x.since ∧ x.since ≤ 100000) ∧ (x.til = 0 ∨ x.since < x.til ∧ x.til ≤ 100000) := by
  simp only [headB, Bool.and_eq_true, Bool.or_eq_true, decide_eq_true_eq]
  constructor
  · rintro ⟨⟨⟨⟨a, b⟩, c⟩, d⟩, e⟩; exact ⟨a, b, c, d, e⟩
  · rintro ⟨a, b, c, d, e⟩; exact ⟨⟨⟨⟨a, b⟩, c⟩, d⟩, e⟩
theorem headB_no {x : Fact} (h : headB x = true → False) : headB x = false := by
  cases hh : headB x with
  | false => rfl
  | true => exact (h hh).elim
def zeroAt (x : Fact) : List Nat → List Value := fun os => os.foldl (fun cs o => splice cs o [.int .i64 0]) x.cells
theorem zeroAt_snoc (x : Fact) (os : List Nat) (o : Nat) : zeroAt x (os ++ [o]) = splice (zeroAt x os) o [.int .i64 0] := by simp [zeroAt]
theorem zeroAt_length (x : Fact) : ∀ (os : List Nat), (∀ o ∈ os, o < 9) → (zeroAt x os).length = 9 := by
  suffices h : ∀ (os : List Nat) (cs : List Value), cs.length = 9 → (∀ o ∈ os, o < 9) → (os.foldl (fun cs o => splice cs o [.int .i64 0]) cs).length = 9 from fun os ho => h os _ rfl ho
  intro os
  induction os with
  | nil => intro cs h _; exact h
  | cons o r ih =>
    intro cs h ho
    have := ho o (by simp)
    exact ih _ (by rw [splice_length (by rw [h]; simp; omega)]; exact h) fun o' h' => ho o' (by simp [h'])
def restF (x : Fact) : Fact := ⟨0, 0, 0, if 3 ∈ offs x.kind then 0 else x.who, if 4 ∈ offs x.kind then 0 else x.what, if 5 ∈ offs x.kind then 0 else x.other, if 6 ∈ offs x.kind then 0 else x.since, if 7 ∈ offs x.kind then 0 else x.til, if x.kind = 1 then ⟨#[]⟩ else x.name⟩
theorem restF_zero (x : Fact) : restF x = factZ ↔ restB x = true := by
  unfold restF factZ restB
  simp only [Fact.mk.injEq, Bool.and_eq_true, Bool.or_eq_true, decide_eq_true_eq, true_and]
  have key : ∀ {p : Prop} [Decidable p] {a : Int}, (if p then 0 else a) = 0 ↔ p ∨ a = 0 := fun {p} _ {a} => by
    by_cases h : p <;> simp [h]
  have key2 : ∀ {p : Prop} [Decidable p] {a : ByteArray}, (if p then ⟨#[]⟩ else a) = ⟨#[]⟩ ↔ p ∨ a = ⟨#[]⟩ := fun {p} _ {a} => by
    by_cases h : p <;> simp [h]
  rw [key, key, key, key, key, key2]
  constructor
  · rintro ⟨a, b, c, d, e, f⟩; exact ⟨⟨⟨⟨⟨a, b⟩, c⟩, d⟩, e⟩, f⟩
  · rintro ⟨⟨⟨⟨⟨a, b⟩, c⟩, d⟩, e⟩, f⟩; exact ⟨a, b, c, d, e, f⟩
theorem struck {x : Fact} {k : Nat} (hk : x.kind = (k : Int)) (h1 : 1 ≤ k) (h2 : k ≤ 11) :
    (if k = 1 then splice (splice (splice (splice (zeroAt x (offs k)) 0 [.int .i64 0]) 1 [.int .i64 0]) 2 [.int .u8 0]) 8 [.string ⟨#[]⟩] else splice (splice (splice (zeroAt x (offs k)) 0 [.int .i64 0]) 1 [.int .i64 0]) 2 [.int .u8 0]) = (restF x).cells := by
  have cases : k = 1 ∨ k = 2 ∨ k = 3 ∨ k = 4 ∨ k = 5 ∨ k = 6 ∨ k = 7 ∨ k = 8 ∨ k = 9 ∨ k = 10 ∨ k = 11 := by omega
  obtain ⟨x0, x1, x2, x3, x4, x5, x6, x7, x8⟩ := x
  have hk : x2 = (k : Int) := hk
  subst hk
  rcases cases with rfl | rfl | rfl | rfl | rfl | rfl | rfl | rfl | rfl | rfl | rfl <;> simp [zeroAt, offs, restF, Fact.cells, splice]
end Go.Proofs.YtahgjidcaeieaaaGreatDoor
namespace Go.Proofs.YtahgjidcaeieaaaGreatDoor
open Go.Eng Go.RowKit
theorem ptrs_get {g : Nat} {os : List Nat} {i : Nat} (hi : i < os.length) : (ptrs g os)[i]? = some (.pointer (some ⟨g, os[i], none⟩)) := by
  simp [ptrs, hi]
theorem offs_lt (k : Int) : ∀ o ∈ offs k, o < 9 := by
  intro o ho
  unfold offs at ho
  split at ho
  · simp at ho; omega
  · split at ho
    · simp at ho; omega
    · split at ho
      · simp at ho; omega
      · split at ho
        · simp at ho; omega
        · split at ho
          · simp at ho; omega
          · simp at ho; omega
theorem offs_len (k : Int) : (offs k).length ≤ 5 := by
  unfold offs
  split
  · decide
  · split
    · decide
    · split
      · decide
      · split
        · decide
        · split <;> decide
theorem formE_rest {x : Fact} (h : restB x = true → False) : formE x = 1 := by
  unfold formE
  rw [if_neg]
  intro hh
  simp only [Bool.and_eq_true] at hh
  exact h hh.1.2
theorem formE_right {x : Fact} (h : rightB x = true → False) : formE x = 1 := by
  unfold formE
  rw [if_neg]
  intro hh
  simp only [Bool.and_eq_true] at hh
  exact h hh.2
theorem formE_ok {x : Fact} (h1 : headB x = true) (h2 : restB x = true) (h3 : rightB x = true) : formE x = if x.kind = 1 ∧ nameB x.name.data.toList = false then 4 else 0 := by
  unfold formE
  rw [if_pos (by rw [h1, h2, h3]; rfl)]
set_option maxRecDepth 100000 in
theorem formedF_spec (x : Fact) (hx : x.Nums) (w : World) : CallsV C.P 128 #[x.val] w fun v w' => v = .int .i64 (formE x) ∧ Ext w w' := by
  obtain ⟨k, hk⟩ := Int.eq_ofNat_of_zero_le hx.kind.1
  refine callsV_of C_ok (args := [_]) (plans := []) Tryz.func128 rfl Tryz.ntmps128 (by kernel_rfl) (Nat.le_of_ble_eq_true rfl) ?_
  intro g1 w1 h1
  have M1 := (Mem.start w).alloc h1
  have bad : ∀ {w' : World}, (headB x = true → False) → Ext w w' → Value.int .i64 1 = .int .i64 (formE x) ∧ Ext w w' := fun h e => ⟨by rw [formE_head (headB_no h)], e⟩
  refine ⟨.int .u8 (k : Int), by rw [← hk]; exact M1.cell 0 rfl rfl, ?_⟩
  refine (formOf_spec k w1).mono ?_
  rintro v w2 ⟨hv, e2⟩
  have M2 := M1.grow e2
  by_cases hr : 1 ≤ k ∧ k ≤ 11
  case neg =>
    rw [if_neg hr] at hv
    subst hv
    intro g3 w3 h3
    have M3 := M2.alloc h3
    refine ⟨rfl, _, _, M3.get 0 rfl, Nat.le_of_ble_eq_true rfl, rfl, ?_⟩
    intro w4 h4
    exact bad (fun h => hr (by have := (headB_iff.1 h).1; omega)) (M3.put 0 rfl h4).ext
  rw [if_pos hr] at hv
  obtain ⟨cs, rfl, hlen, hone, hform⟩ := hv
  obtain ⟨n1, n2, n3, c2, heq, r1, r2, r3, a1, a2, a3⟩ := hform
  have hcs : cs = [.string (wordA k), .func (.func n1) #[] #[], .func (.func n2) #[] c2, .func (.func n3) #[] #[], .bool (Nat.beq k 1)] := by
    injection heq with h
    exact congrArg Array.toList h
  subst hcs
  intro g3 w3 h3
  have M3 := M2.alloc h3
  refine ⟨rfl, _, _, M3.get 0 rfl, Nat.le_of_ble_eq_true rfl, hone, ?_⟩
  intro w4 h4
  have M4 : Mem w w4 [(g3, .cells #[.string (wordA k), .func (.func n1) #[] #[], .func (.func n2) #[] c2, .func (.func n3) #[] #[], .bool (Nat.beq k 1)] 185 (0, 0)), (g1, .cells x.cells.toArray 90 (0, 0))] := M3.put 0 rfl h4
  refine ⟨_, M4.cell 1 rfl rfl, ?_⟩
  refine (id_spec x.id w4).mono ?_
  rintro v w5 ⟨rfl, rfl⟩
  refine brE_mk (fun b1 => ?_) (fun b1 => ?_)
  · exact bad (fun h => by rw [(headB_iff.1 h).2.1] at b1; cases b1) M4.ext
  have b1 : idB x.id = true := by simpa using b1
  refine ⟨_, M4.cell 1 rfl rfl, ?_⟩
  refine brE_dec (fun b2 => ?_) (fun b2 => ?_)
  · have b2 : x.known < 0 := b2
    exact bad (fun h => by have := (headB_iff.1 h).2.2.1; omega) M4.ext
  have b2 : ¬ x.known < 0 := b2
  refine ⟨_, M4.cell 1 rfl rfl, ?_⟩
  refine brE_dec (fun b3 => ?_) (fun b3 => ?_)
  · have b3 : x.known > 100000 := b3
    exact bad (fun h => by have := (headB_iff.1 h).2.2.1; omega) M4.ext
  have b3 : ¬ x.known > 100000 := b3
  refine ⟨_, M4.cell 1 rfl rfl, ?_⟩
  refine brE_dec (fun b4 => ?_) (fun b4 => ?_)
  · have b4 : x.since < 0 := b4
    exact bad (fun h => by have := (headB_iff.1 h).2.2.2.1; omega) M4.ext
  have b4 : ¬ x.since < 0 := b4
  refine ⟨_, M4.cell 1 rfl rfl, ?_⟩
  refine brE_dec (fun b5 => ?_) (fun b5 => ?_)
  · have b5 : x.since > 100000 := b5
    exact bad (fun h => by have := (headB_iff.1 h).2.2.2.1; omega) M4.ext
  have b5 : ¬ x.since > 100000 := b5
  refine ⟨_, M4.cell 1 rfl rfl, ?_⟩
  refine brE_ndec (fun b6 => ?A) (fun b6 => ?B)
  case' A =>
    have b6 : ¬ x.til = 0 := b6
    refine ⟨_, M4.cell 1 rfl rfl, ?_⟩
    refine ⟨_, M4.cell 1 rfl rfl, ?_⟩
    refine brE_dec (fun b7 => ?A1) (fun b7 => ?A2)
    case' A1 =>
      have b7 : x.til ≤ x.since := b7
      exact bad (fun h => by have := (headB_iff.1 h).2.2.2.2; omega) M4.ext
    have b7 : ¬ x.til ≤ x.since := b7
    refine ⟨_, M4.cell 1 rfl rfl, ?_⟩
    refine brE_dec (fun b8 => ?A3) (fun b8 => ?A4)
    case' A3 =>
      have b8 : x.til > 100000 := b8
      exact bad (fun h => by have := (headB_iff.1 h).2.2.2.2; omega) M4.ext
    have b8 : ¬ x.til > 100000 := b8
    have hhead : headB x = true := headB_iff.2 ⟨by omega, b1, by omega, by omega, .inr (by omega)⟩
  case' B =>
    have b6 : x.til = 0 := b6
    have hhead : headB x = true := headB_iff.2 ⟨by omega, b1, by omega, by omega, .inl b6⟩
  all_goals
    clear bad
    have N4 : Mem w2 w5 [(g3, .cells #[.string (wordA k), .func (.func n1) #[] #[], .func (.func n2) #[] c2, .func (.func n3) #[] #[], .bool (Nat.beq k 1)] 185 (0, 0))] := ((Mem.start w2).alloc h3).put 0 rfl h4
    have hg1 : w2.heap[g1]? = some (.cells x.cells.toArray 90 (0, 0)) := M2.get 0 rfl
    have e02 := M2.ext
    clear M4 M2 M1
    refine ⟨x.cells, rfl, Rd.of_block (N4.ext.heap hg1), ?_⟩
    intro g5 w6 h6
    have N6 := N4.alloc h6
    refine ⟨rfl, _, _, N6.get 0 rfl, Nat.le_of_ble_eq_true rfl, rfl, ?_⟩
    intro w7 h7
    have h7 : Put w6 g5 (.cells x.cells.toArray 90 (0, 0)) w7 := h7
    have N7 : Mem w2 w7 [(g5, .cells x.cells.toArray 90 (0, 0)), (g3, .cells #[.string (wordA k), .func (.func n1) #[] #[], .func (.func n2) #[] c2, .func (.func n3) #[] #[], .bool (Nat.beq k 1)] 185 (0, 0))] := N6.put 0 rfl h7
    refine ⟨_, N7.cell 1 rfl rfl, ?_⟩
    refine brE_true r1 ?_
    refine (a1 g5 w7).mono ?_
    rintro v w8 ⟨⟨h, rfl, hh, hnew⟩, e8⟩
    have N8 := (N7.grow e8).add hh (Nat.le_trans N7.ext.size hnew) (fun p hp => by
      have := N7.lt (g := p.1) (o := p.2) hp
      omega)
    have hlen5 := offs_len k
    refine loopE C_ok (fun (i : Nat) => [(1, .pointer (some ⟨g1, 0, none⟩)), (3, .pointer (some ⟨g3, 0, none⟩)), (5, .pointer (some ⟨g5, 0, none⟩)), (62, .slice (some ⟨h, 0, none⟩) (offs k).length (offs k).length), (63, .int .i64 (offs k).length), (64, .int .i64 i)])
      (fun i w' => i ≤ (offs k).length ∧ Mem w2 w' [(h, .cells (ptrs g5 (offs k)).toArray 79 (0, 0)), (g5, .cells (zeroAt x ((offs k).take i)).toArray 90 (0, 0)), (g3, .cells #[.string (wordA k), .func (.func n1) #[] #[], .func (.func n2) #[] c2, .func (.func n3) #[] #[], .bool (Nat.beq k 1)] 185 (0, 0))]) (fun i => (offs k).length - i) 0
      ⟨rfl, rfl, rfl, rfl, rfl, rfl, trivial⟩ ⟨Nat.zero_le _, N8⟩ ?_
    rintro i w9 ⟨hi, N9⟩
    have hzl := zeroAt_length x ((offs k).take i) (fun o ho => offs_lt k o (List.mem_of_mem_take ho))
    refine brE_dec (fun hlt => ?_) (fun hge => ?_)
    · have hlt : i < (offs k).length := by have : (i : Int) < ((offs k).length : Nat) := hlt; omega
      have hol := offs_lt k _ (List.getElem_mem hlt)
      refine ⟨i, h, 0, rfl, hlt, rfl, ?_⟩
      refine ⟨.pointer (some ⟨g5, (offs k)[i], none⟩), by have := (N9.rd 0 rfl) i _ (ptrs_get hlt); simpa using this, ?_⟩
      refine ⟨rfl, _, _, N9.get 1 rfl, by rw [hzl]; show (offs k)[i] + 1 ≤ 9; omega, rfl, ?_⟩
      intro w10 h10
      have h10 : Put w9 g5 (.cells (splice (zeroAt x ((offs k).take i)) (offs k)[i] [.int .i64 0]).toArray 90 (0, 0)) w10 := h10
      rw [← zeroAt_snoc, ← List.take_succ_eq_append_getElem hlt] at h10
      refine ⟨((i + 1 : Nat) : Int), fit ⟨by omega, by omega⟩, ?_⟩
      exact ⟨i + 1, ⟨rfl, rfl, rfl, rfl, rfl, rfl, trivial⟩, ⟨hlt, N9.put 1 rfl h10⟩, by omega⟩
    have : i = (offs k).length := by have : ¬ (i : Int) < ((offs k).length : Nat) := hge; omega
    subst this
    rw [List.take_length] at N9 hzl
    have hst := struck hk hr.1 hr.2
    generalize zeroAt x (offs k) = Z at N9 hzl hst
    refine ⟨rfl, _, _, N9.get 1 rfl, by rw [hzl]; exact Nat.le_of_ble_eq_true rfl, rfl, ?_⟩
    intro w10 h10
    have N10 := N9.put 1 rfl h10
    have hz0 : (splice Z 0 [.int .i64 0]).length = 9 := by rw [splice_length (by rw [hzl]; exact Nat.le_of_ble_eq_true rfl)]; exact hzl
    refine ⟨rfl, _, _, N10.get 1 rfl, by show _ ≤ (splice Z 0 [.int .i64 0]).length; rw [hz0]; exact Nat.le_of_ble_eq_true rfl, rfl, ?_⟩
    intro w11 h11
    have N11 := N10.put 1 rfl h11
    have hz1 : (splice (splice Z 0 [.int .i64 0]) 1 [.int .i64 0]).length = 9 := by rw [splice_length (by rw [hz0]; exact Nat.le_of_ble_eq_true rfl)]; exact hz0
    refine ⟨rfl, _, _, N11.get 1 rfl, by show _ ≤ (splice (splice Z 0 [.int .i64 0]) 1 [.int .i64 0]).length; rw [hz1]; exact Nat.le_of_ble_eq_true rfl, rfl, ?_⟩
    intro w12 h12
    have N12 := N11.put 1 rfl h12
    have hz2 : (splice (splice (splice Z 0 [.int .i64 0]) 1 [.int .i64 0]) 2 [.int .u8 0]).length = 9 := by rw [splice_length (by rw [hz1]; exact Nat.le_of_ble_eq_true rfl)]; exact hz1
    refine ⟨_, N12.cell 2 rfl rfl, ?_⟩
    refine brE_mk (fun hn => ?_) (fun hn => ?_)
    case' refine_1 =>
      have hn : k = 1 := Nat.eq_of_beq_eq_true hn
      rw [if_pos hn] at hst
      refine ⟨rfl, _, _, N12.get 1 rfl, by show _ ≤ (splice (splice (splice Z 0 [.int .i64 0]) 1 [.int .i64 0]) 2 [.int .u8 0]).length; rw [hz2]; exact Nat.le_of_ble_eq_true rfl, rfl, ?_⟩
      intro w13 h13
      have N13 : Mem w2 w13 [(h, .cells (ptrs g5 (offs k)).toArray 79 (0, 0)), (g5, .cells (restF x).cells.toArray 90 (0, 0)), (g3, .cells #[.string (wordA k), .func (.func n1) #[] #[], .func (.func n2) #[] c2, .func (.func n3) #[] #[], .bool (Nat.beq k 1)] 185 (0, 0))] := by
        rw [← hst]; exact N12.put 1 rfl h13
    case' refine_2 =>
      have hn : ¬ k = 1 := fun e => by rw [e] at hn; cases hn
      rw [if_neg hn] at hst
      have N13 : Mem w2 w12 [(h, .cells (ptrs g5 (offs k)).toArray 79 (0, 0)), (g5, .cells (restF x).cells.toArray 90 (0, 0)), (g3, .cells #[.string (wordA k), .func (.func n1) #[] #[], .func (.func n2) #[] c2, .func (.func n3) #[] #[], .bool (Nat.beq k 1)] 185 (0, 0))] := by
        rw [← hst]; exact N12
    all_goals
      clear hst hz2 hz1 hz0 N12 N11 N10 N9
      have hrz := restF_zero x
      refine ⟨(restF x).cells, rfl, N13.rd 1 rfl, ?_⟩
      refine ⟨_, neqF _ _ (restF x) factZ, ?_⟩
      refine brE_ndec (fun hd => ?_) (fun hd => ?_)
      · exact ⟨by rw [formE_rest fun h => hd (hrz.2 h)], e02.trans N13.ext⟩
      have hrest := hrz.1 hd
      refine ⟨_, N13.cell 2 rfl rfl, ?_⟩
      refine ⟨x.cells, rfl, Rd.of_block (N13.ext.heap hg1), ?_⟩
      refine brE_true r2 ?_
      refine (a2 x _ hk N13.ext).mono ?_
      rintro v w14 ⟨rfl, e14⟩
      have N14 := N13.grow e14
      refine brE_mk (fun hri => ?_) (fun hri => ?_)
      · exact ⟨by rw [formE_right fun h => by rw [h] at hri; cases hri], e02.trans N14.ext⟩
      have hri : rightB x = true := by simpa using hri
      have hok := formE_ok hhead hrest hri
      refine ⟨_, N14.cell 2 rfl rfl, ?_⟩
      first
      | (have hk1 : x.kind = 1 := by omega
         refine brE_mk (fun hb => ?_) (fun hb => ?_)
         · refine ⟨_, cell_of_block (N14.ext.heap hg1) rfl, ?_⟩
           refine (isName_spec x.name w14 hx.name).mono ?_
           rintro v w15 ⟨rfl, rfl⟩
           refine brE_mk (fun hm => ?_) (fun hm => ?_)
           · exact ⟨by rw [hok, if_pos ⟨hk1, by simpa using hm⟩], e02.trans N14.ext⟩
           · have hm : nameB x.name.data.toList = true := by simpa using hm
             exact ⟨by rw [hok, if_neg (fun h => by rw [hm] at h; cases h.2)], e02.trans N14.ext⟩
         · exact absurd hb (by rw [show k = 1 by omega]; decide))
      | (have hk1 : ¬ x.kind = 1 := by omega
         refine brE_mk (fun hb => ?_) (fun hb => ?_)
         · exact absurd (Nat.eq_of_beq_eq_true hb) (by omega)
         · exact ⟨by rw [hok, if_neg (fun h => hk1 h.1)], e02.trans N14.ext⟩)
end Go.Proofs.YtahgjidcaeieaaaGreatDoor
namespace Go.Proofs.YtahgjidcaeieaaaGreatDoor
open Go.Eng Go.RowKit
def cutW : List UInt8 → List UInt8 × List UInt8
  | [] => ([], [])
  | c :: r => if c = 32 then ([], r) else (c :: (cutW r).1, (cutW r).2)
theorem cutW_none : ∀ {w : List UInt8}, 32 ∉ w → cutW w = (w, [])
  | [], _ => rfl
  | c :: r, h => by
    have h1 : ¬ c = 32 := fun e => h (by simp [e])
    have h2 : 32 ∉ r := fun e => h (by simp [e])
    rw [cutW, if_neg h1, cutW_none h2]
theorem cutW_at : ∀ {w : List UInt8} (s : List UInt8), 32 ∉ w → cutW (w ++ 32 :: s) = (w, s)
  | [], s, _ => by rw [List.nil_append, cutW, if_pos rfl]
  | c :: r, s, h => by
    have h1 : ¬ c = 32 := fun e => h (by simp [e])
    have h2 : 32 ∉ r := fun e => h (by simp [e])
    rw [List.cons_append, cutW, if_neg h1, cutW_at s h2]
theorem cutW_length : ∀ (s : List UInt8), (cutW s).1.length ≤ s.length ∧ (cutW s).2.length ≤ s.length
  | [] => by simp [cutW]
  | c :: r => by
    have := cutW_length r
    rw [cutW]
    split
    · simp
    · simp; omega
def numW (w : List UInt8) : Int × Bool := match Lib.atoiAll w with
  | .ok v => (v, true)
  | .«syntax» => (0, false)
  | .range => (Lib.atoiSat w, false)
theorem numW_in (w : List UInt8) : In64 (numW w).1 := by
  unfold numW
  cases h : Lib.atoiAll w with
  | ok v => exact Lib.atoiAll_bounds h
  | «syntax» => exact ⟨by show (-9223372036854775808 : Int) ≤ 0; decide, by show (0 : Int) ≤ 9223372036854775807; decide⟩
  | range => exact Lib.atoiSat_bounds w
theorem dec_from : ∀ (k u acc : Nat), u < 10 ^ k → ∃ m, Lib.decFrom acc (Lib.decDigits u) = some (acc * 10 ^ m + u) ∧ (Lib.decDigits u).length = m ∧ (∀ c ∈ Lib.decDigits u, 48 ≤ c.toNat ∧ c.toNat ≤ 57) ∧ 1 ≤ m ∧ (1 ≤ k → m ≤ k)
  | 0, u, acc, h => by
    have : u = 0 := by simpa using h
    subst this
    rw [Lib.decDigits_one (by decide)]
    exact ⟨1, by simp [Lib.decFrom, Lib.digitVal], rfl, by simp, by decide, fun h => absurd h (by decide)⟩
  | k + 1, u, acc, h => by
    by_cases hu : u < 10
    · rw [Lib.decDigits_one hu]
      have hn : (UInt8.ofNat (48 + u)).toNat = 48 + u := by simp; omega
      refine ⟨1, ?_, rfl, ?_, by decide, fun _ => by omega⟩
      · simp only [Lib.decFrom, Lib.digitVal, hn]
        rw [if_pos (by omega)]
        simp only [Lib.decFrom]
        congr 1; omega
      · intro c hc
        rw [List.mem_singleton.1 hc, hn]; omega
    · rw [Lib.decDigits, dif_neg hu]
      have hd : u / 10 < 10 ^ k := by rw [Nat.pow_succ] at h; omega
      obtain ⟨m, h1, h2, h3, h4, h5⟩ := dec_from k (u / 10) acc hd
      have hn : (UInt8.ofNat (48 + u % 10)).toNat = 48 + u % 10 := by simp; omega
      have app : ∀ (l : List UInt8) (a b : Nat) (r : List UInt8), Lib.decFrom a l = some b → Lib.decFrom a (l ++ r) = Lib.decFrom b r := by
        intro l
        induction l with
        | nil => intro a b r h; simp only [Lib.decFrom, Option.some.injEq] at h; rw [h]; rfl
        | cons c t ih =>
          intro a b r h
          simp only [Lib.decFrom, List.cons_append] at h ⊢
          cases hc : Lib.digitVal c with
          | none => rw [hc] at h; cases h
          | some d => rw [hc] at h; exact ih _ _ _ h
      refine ⟨m + 1, ?_, by rw [List.length_append, h2]; rfl, ?_, by omega, fun _ => ?_⟩
      · rw [app _ _ _ _ h1]
        simp only [Lib.decFrom, Lib.digitVal, hn]
        rw [if_pos (by omega)]
        simp only [Lib.decFrom]
        congr 1
        rw [Nat.pow_succ, ← Nat.mul_assoc, Nat.add_mul]
        omega
      · intro c hc
        rcases List.mem_append.1 hc with hc | hc
        · exact h3 c hc
        · rw [List.mem_singleton.1 hc, hn]; omega
      · by_cases hk : 1 ≤ k
        · have := h5 hk; omega
        · have : k = 0 := by omega
          subst this
          have : u / 10 = 0 := by simpa using hd
          omega
theorem formE_zero {x : Fact} (h : formE x = 0) : headB x = true ∧ restB x = true ∧ rightB x = true ∧ (x.kind = 1 → nameB x.name.data.toList = true) := by
  unfold formE at h
  split at h
  · rename_i h1
    simp only [Bool.and_eq_true] at h1
    refine ⟨h1.1.1, h1.1.2, h1.2, fun hk => ?_⟩
    cases hn : nameB x.name.data.toList with
    | true => rfl
    | false => rw [if_pos ⟨hk, hn⟩] at h; cases h
  · cases h
theorem ba_mk (s : ByteArray) : (⟨s.data.toList.toArray⟩ : ByteArray) = s := by cases s; simp
end Go.Proofs.YtahgjidcaeieaaaGreatDoor
namespace Go.Proofs.YtahgjidcaeieaaaGreatDoor
open Go.Eng Go.RowKit
def SetIs (w : World) (g : Nat) (l : List Int) : Prop := ∃ f, MapIs C.P 3 w g f ∧ ∀ x, (f x = some (.bool true) ∧ ∃ s ∈ l, x = .int .i64 s) ∨ (f x = none ∧ ∀ s ∈ l, x ≠ .int .i64 s)
theorem SetIs.ext {w w' : World} {g : Nat} {l : List Int} (h : SetIs w g l) (e : Ext w w') : SetIs w' g l := let ⟨f, h1, h2⟩ := h; ⟨f, h1.ext e, h2⟩
theorem SetIs.other {w w' : World} {g b : Nat} {o : Obj} {l : List Int} (h : SetIs w g l) (p : Put w b o w') (hne : g ≠ b) : SetIs w' g l := let ⟨f, h1, h2⟩ := h; ⟨f, h1.put p hne, h2⟩
theorem SetIs.empty {w : World} {g : Nat} (h : w.heap[g]? = some (.map #[] 0)) : SetIs w g [] := ⟨_, MapIs.empty h, fun _ => .inr ⟨rfl, fun _ h => by cases h⟩⟩
theorem SetIs.block {w : World} {g : Nat} {l : List Int} (h : SetIs w g l) : ∃ es clk, w.heap[g]? = some (.map es clk) := let ⟨_, ⟨es, clk, hb, _⟩, _⟩ := h; ⟨es, clk, hb⟩
theorem set_get {f : Value → Option Value} {l : List Int} (h : ∀ x, (f x = some (.bool true) ∧ ∃ s ∈ l, x = .int .i64 s) ∨ (f x = none ∧ ∀ s ∈ l, x ≠ .int .i64 s)) (q : Int) : (f (.int .i64 q)).getD (.bool false) = .bool (decide (q ∈ l)) := by
  rcases h (.int .i64 q) with ⟨h1, s, hs, e⟩ | ⟨h1, h2⟩
  · injection e with _ e
    subst e
    rw [h1, decide_eq_true hs]; rfl
  · rw [h1, decide_eq_false fun hq => h2 q hq rfl]; rfl
theorem set_put {w : World} {g : Nat} {f : Value → Option Value} {l : List Int} (h : ∀ x, (f x = some (.bool true) ∧ ∃ s ∈ l, x = .int .i64 s) ∨ (f x = none ∧ ∀ s ∈ l, x ≠ .int .i64 s)) {q : Int} (hM : MapIs C.P 3 w g (updV f (.int .i64 q) (.bool true))) : SetIs w g (l ++ [q]) := by
  refine ⟨_, hM, fun x => ?_⟩
  unfold updV
  by_cases e : x = .int .i64 q
  · rw [if_pos e]; exact .inl ⟨rfl, q, by simp, e⟩
  · rw [if_neg e]
    rcases h x with ⟨h1, s, hs, e'⟩ | ⟨h1, h2⟩
    · exact .inl ⟨h1, s, by simp [hs], e'⟩
    · refine .inr ⟨h1, fun s hs => ?_⟩
      rcases List.mem_append.1 hs with hs | hs
      · exact h2 s hs
      · rw [List.mem_singleton.1 hs]; exact e
theorem SetIs.size {w : World} {g : Nat} {l : List Int} (h : SetIs w g l) : ∃ es clk, w.heap[g]? = some (.map es clk) ∧ es.size = (sortD l).length := by
  obtain ⟨f, ⟨es, clk, hb, _, hnd, hval, hdom⟩, hf⟩ := h
  refine ⟨es, clk, hb, ?_⟩
  have hn : (ints (sortD l)).Nodup := by
    unfold ints
    rw [List.Nodup, List.pairwise_map]
    refine (sortD_asc l).imp fun h e => ?_
    injection e with _ e
    omega
  have hp : (es.toList.map MapEntry.key).Perm (ints (sortD l)) := by
    refine (List.perm_ext_iff_of_nodup hnd hn).2 fun x => ?_
    constructor
    · intro hx
      obtain ⟨e, he, rfl⟩ := List.mem_map.1 hx
      rcases hf e.key with ⟨_, s, hs, e'⟩ | ⟨h1, _⟩
      · rw [e']; exact List.mem_map.2 ⟨s, mem_sortD.2 hs, rfl⟩
      · rw [hval e he] at h1; cases h1
    · intro hx
      obtain ⟨s, hs, rfl⟩ := List.mem_map.1 hx
      rcases hf (.int .i64 s) with ⟨h1, _⟩ | ⟨_, h2⟩
      · obtain ⟨e, he, hk⟩ := hdom _ _ h1
        exact List.mem_map.2 ⟨e, he, hk⟩
      · exact absurd rfl (h2 s (mem_sortD.1 hs))
  have := hp.length_eq
  rw [List.length_map, ints_length] at this
  simpa using this
theorem idIn_eq (l : List Fact) (n : Int) : idIn l n = decide (n ∈ l.map Fact.id) := by
  unfold idIn
  rw [Bool.eq_iff_iff, List.any_eq_true, decide_eq_true_eq, List.mem_map]
  simp only [decide_eq_true_eq]
theorem namedIn_eq (l : List Fact) (n : Int) : namedIn l n = decide (n ∈ whos l) := by
  unfold namedIn whos
  rw [Bool.eq_iff_iff, List.any_eq_true, decide_eq_true_eq, List.mem_map]
  simp only [decide_eq_true_eq, List.mem_filter]
  constructor
  · rintro ⟨y, hy, h1, h2⟩; exact ⟨y, ⟨hy, h1⟩, h2⟩
  · rintro ⟨y, ⟨hy, h1⟩, h2⟩; exact ⟨y, hy, h1, h2⟩
abbrev RegIs (w : World) (g gi gs : Nat) (n : Nat) (kn : Int) : Prop := w.heap[g]? = some (.cells #[.map (some gi), .map (some gs), .int .i64 n, .int .i64 kn] 177 (0, 0))
def lastKnown (l : List Fact) : Int := (l.getLast?.map Fact.known).getD 0
theorem speaks_num {x : Fact} (hx : x.Nums) : ∀ s ∈ speaks x, In64 s := by
  intro s hs
  unfold speaks at hs
  split at hs
  · rw [List.mem_singleton.1 hs]; exact hx.what
  · split at hs
    · simp at hs
      rcases hs with rfl | rfl
      · exact hx.who
      · exact hx.what
    · split at hs
      · rw [List.mem_singleton.1 hs]; exact hx.who
      · cases hs
set_option maxRecDepth 100000 in
theorem refuses_spec {w : World} {g gi gs : Nat} {l : List Fact} {x : Fact} (hx : x.Nums) (hl : l.length ≤ 2 ^ 20) (hg : RegIs w g gi gs l.length (lastKnown l)) (hi : SetIs w gi (l.map Fact.id)) (hs : SetIs w gs (whos l)) :
    CallsV C.P 123 #[.pointer (some ⟨g, 0, none⟩), x.val] w fun v w' => v = .int .i64 (behindE l x) ∧ Ext w w' := by
  refine callsV_of C_ok (args := [_, _]) (plans := plans123) Tryz.func123 rfl Tryz.ntmps123 (by kernel_rfl) (Nat.le_of_ble_eq_true rfl) ?_
  intro g3 w1 h1
  have M1 : Mem w w1 [(g3, .cells x.cells.toArray 90 (0, 0))] := (Mem.start w).alloc h1
  refine ⟨x.cells, rfl, M1.rd 0 rfl, ?_⟩
  refine (formedF_spec x hx w1).mono ?_
  rintro v w2 ⟨rfl, e2⟩
  have M2 := M1.grow e2
  unfold behindE
  refine brE_ndec (fun a1 => ?_) (fun a1 => ?_)
  · have a1 : ¬ formE x = 0 := a1
    exact ⟨by rw [if_pos a1], M2.ext⟩
  have a1 : formE x = 0 := a1
  rw [if_neg (by omega)]
  have g2 := M2.ext.heap hg
  refine ⟨_, cell_of_block g2 rfl, ?_⟩
  refine brE_dec (fun a2 => ?_) (fun a2 => ?_)
  · have a2 : (l.length : Int) ≥ 300 := a2
    exact ⟨by rw [if_pos (by omega)], M2.ext⟩
  have a2 : ¬ (l.length : Int) ≥ 300 := a2
  rw [if_neg (by omega)]
  refine ⟨_, cell_of_block g2 rfl, ?_⟩
  have hi2 := hi.ext M2.ext
  have hs2 := hs.ext M2.ext
  have hlast : l.getLast?.any (fun y => decide (x.known < y.known)) = (decide ((l.length : Int) > 0) && decide (x.known < lastKnown l)) := by
    unfold lastKnown
    cases hll : l.getLast? with
    | none =>
      have := List.getLast?_eq_none_iff.1 hll
      subst this
      rfl
    | some y =>
      have hne : l ≠ [] := fun e => by subst e; cases hll
      have := List.length_pos_iff.2 hne
      rw [decide_eq_true (by omega : (l.length : Int) > 0)]
      rfl
  rw [hlast]
  clear hlast
  refine brE_dec (fun a3 => ?A) (fun a3 => ?B)
  case' A =>
    have a3 : (l.length : Int) > 0 := a3
    rw [decide_eq_true a3, Bool.true_and]
    refine ⟨_, M2.cell 0 rfl rfl, ?_⟩
    refine ⟨_, cell_of_block g2 rfl, ?_⟩
    refine brE_dec (fun a4 => ?A1) (fun a4 => ?A2)
    case' A1 =>
      have a4 : x.known < lastKnown l := a4
      exact ⟨by rw [if_pos (decide_eq_true a4)], M2.ext⟩
    have a4 : ¬ x.known < lastKnown l := a4
    rw [if_neg (by simpa using a4)]
  case' B =>
    have a3 : ¬ (l.length : Int) > 0 := a3
    rw [decide_eq_false a3, Bool.false_and, if_neg (by decide)]
  all_goals
    clear a3
    obtain ⟨fi, hfi, hfi2⟩ := hi2
    obtain ⟨fs, hfs, hfs2⟩ := hs2
    refine ⟨_, cell_of_block g2 rfl, ?_⟩
    refine ⟨_, M2.cell 0 rfl rfl, ?_⟩
    refine ⟨_, mapGet1 C_ok (te := ty4) (x := .int .i64 x.id) (intKey hx.id) hfi intK rfl rfl rfl rfl rfl rfl (set_get hfi2 _), ?_⟩
    rw [idIn_eq l x.id]
    refine brE_mk (fun a5 => ?_) (fun a5 => ?_)
    · exact ⟨by rw [if_pos a5], M2.ext⟩
    rw [if_neg (by rw [a5]; decide)]
    obtain ⟨hh, _, _, _⟩ := formE_zero a1
    obtain ⟨hk, _⟩ := headB_iff.1 hh
    obtain ⟨k, hkk⟩ := Int.eq_ofNat_of_zero_le (show 0 ≤ x.kind by omega)
    refine ⟨.int .u8 (k : Int), by rw [← hkk]; exact M2.cell 0 rfl rfl, ?_⟩
    refine (formOf_spec k w2).mono ?_
    rintro v w3 ⟨hv, e3⟩
    rw [if_pos ⟨by omega, by omega⟩] at hv
    obtain ⟨cs, rfl, hlen, hone, hform⟩ := hv
    obtain ⟨n1, n2, n3, c2, heq, r1, r2, r3, a1', a2', a3'⟩ := hform
    have hcs : cs = [.string (wordA k), .func (.func n1) #[] #[], .func (.func n2) #[] c2, .func (.func n3) #[] #[], .bool (Nat.beq k 1)] := by
      injection heq with h
      exact congrArg Array.toList h
    subst hcs
    have M3 := M2.grow e3
    intro g6 w4 h4
    have M4 := M3.alloc h4
    refine ⟨rfl, _, _, M4.get 0 rfl, Nat.le_of_ble_eq_true rfl, hone, ?_⟩
    intro w5 h5
    have h5 : Put w4 g6 (.cells #[.string (wordA k), .func (.func n1) #[] #[], .func (.func n2) #[] c2, .func (.func n3) #[] #[], .bool (Nat.beq k 1)] 185 (0, 0)) w5 := h5
    have M5 := M4.put 0 rfl h5
    have e35 : Ext w3 w5 := h5.ext_of h4.ext (by rw [h4.new]; exact Nat.le_refl _)
    refine ⟨_, M5.cell 0 rfl rfl, ?_⟩
    refine ⟨x.cells, rfl, M5.rd 1 rfl, ?_⟩
    refine brE_true r3 ?_
    refine (a3' x _ hkk e35).mono ?_
    rintro v w6 ⟨ho6, e6⟩
    have M6 := M5.grow e6
    have e26 := (e3.trans e35).trans e6
    have g6' := e26.heap g2
    have hfi6 := hfi.ext e26
    have hfs6 := hfs.ext e26
    have hsp := speaks_num hx
    have hspl : (speaks x).length ≤ 2 := by
      unfold speaks
      split
      · exact Nat.le_of_ble_eq_true rfl
      · split
        · exact Nat.le_of_ble_eq_true rfl
        · split <;> exact Nat.le_of_ble_eq_true rfl
    generalize speaks x = S at *
    obtain ⟨AS, cS, rfl, hrS, _⟩ := ho6.slice
    refine loopE C_ok (fun (i : Nat) => [(0, .pointer (some ⟨g, 0, none⟩)), (3, .pointer (some ⟨g3, 0, none⟩)), (53, .slice AS S.length cS), (54, .int .i64 S.length), (55, .int .i64 i)])
      (fun i w' => w' = w6 ∧ i ≤ S.length ∧ S.all (namedIn l) = (S.drop i).all (namedIn l)) (fun i => S.length - i) 0 ⟨rfl, rfl, rfl, rfl, rfl, trivial⟩ ⟨rfl, Nat.zero_le _, rfl⟩ ?_
    rintro i w7 ⟨rfl, hile, hall⟩
    refine brE_dec (fun hlt => ?_) (fun hge => ?_)
    · have hlt : i < S.length := by have : (i : Int) < (S.length : Nat) := hlt; omega
      rw [List.drop_eq_getElem_cons hlt, List.all_cons] at hall
      obtain ⟨b, o, hA, hc⟩ := Reads.int hrS hlt
      refine ⟨i, b, o, rfl, hlt, hA, ?_⟩
      refine ⟨_, by simpa using hc, ?_⟩
      refine ⟨_, cell_of_block g6' rfl, ?_⟩
      refine ⟨_, mapGet1 C_ok (te := ty4) (x := .int .i64 S[i]) (intKey (hsp _ (List.getElem_mem hlt))) hfs6 intK rfl rfl rfl rfl rfl rfl (set_get hfs2 _), ?_⟩
      refine brE_mk (fun b1 => ?_) (fun b1 => ?_)
      · have b1 : namedIn l S[i] = false := by rw [namedIn_eq]; simpa using b1
        rw [b1, Bool.false_and] at hall
        exact ⟨by rw [if_pos hall], M6.ext⟩
      · have b1 : namedIn l S[i] = true := by rw [namedIn_eq]; simpa using b1
        rw [b1, Bool.true_and] at hall
        refine ⟨((i + 1 : Nat) : Int), fit ⟨by omega, by omega⟩, ?_⟩
        exact ⟨i + 1, ⟨rfl, rfl, rfl, rfl, rfl, trivial⟩, ⟨rfl, hlt, hall⟩, by omega⟩
    have : i = S.length := by have : ¬ (i : Int) < (S.length : Nat) := hge; omega
    subst this
    rw [List.drop_length] at hall
    rw [if_neg (by rw [hall]; simp)]
    have hkc : (k : Int) = x.kind := hkk.symm
    refine ⟨.int .u8 (k : Int), by rw [hkc]; exact M6.cell 1 rfl rfl, ?_⟩
    refine brE_dec (fun c1 => ?_) (fun c1 => ?_)
    · have c1 : x.kind = 11 := by have : (k : Int) = 11 := c1; omega
      refine ⟨_, cell_of_block g6' rfl, ?_⟩
      refine ⟨_, M6.cell 1 rfl rfl, ?_⟩
      refine ⟨_, mapGet1 C_ok (te := ty4) (x := .int .i64 x.what) (intKey hx.what) hfi6 intK rfl rfl rfl rfl rfl rfl (set_get hfi2 _), ?_⟩
      rw [idIn_eq l x.what]
      refine brE_mk (fun b1 => ?_) (fun b1 => ?_)
      · have b1 : decide (x.what ∈ l.map Fact.id) = false := by simpa using b1
        exact ⟨by rw [if_pos ⟨c1, b1⟩], M6.ext⟩
      · have b1 : decide (x.what ∈ l.map Fact.id) = true := by simpa using b1
        rw [if_neg (fun h => by rw [b1] at h; cases h.2), if_neg (fun h => by omega)]
        refine ⟨.int .u8 (k : Int), by rw [hkc]; exact M6.cell 1 rfl rfl, ?_⟩
        refine brE_dec (fun c2 => ?_) (fun c2 => ?_)
        · have : (k : Int) = 1 := c2
          omega
        · exact ⟨rfl, M6.ext⟩
    · have c1 : ¬ x.kind = 11 := fun e => c1 (by show (k : Int) = 11; omega)
      rw [if_neg (fun h => c1 h.1)]
      refine ⟨.int .u8 (k : Int), by rw [hkc]; exact M6.cell 1 rfl rfl, ?_⟩
      refine brE_dec (fun c2 => ?_) (fun c2 => ?_)
      · have c2 : x.kind = 1 := by have : (k : Int) = 1 := c2; omega
        refine ⟨_, cell_of_block g6' rfl, ?_⟩
        refine ⟨_, M6.cell 1 rfl rfl, ?_⟩
        refine ⟨_, mapGet1 C_ok (te := ty4) (x := .int .i64 x.who) (intKey hx.who) hfs6 intK rfl rfl rfl rfl rfl rfl (set_get hfs2 _), ?_⟩
        rw [namedIn_eq l x.who]
        refine brE_mk (fun b1 => ?_) (fun b1 => ?_)
        · have b1 : decide (x.who ∈ whos l) = false := by simpa using b1
          refine ⟨_, cell_of_block g6' rfl, ?_⟩
          obtain ⟨es, clk, hes, hsz⟩ := SetIs.size ⟨fs, hfs6, hfs2⟩
          refine ⟨es, clk, hes, ?_⟩
          refine brE_dec (fun d1 => ?_) (fun d1 => ?_)
          · have d1 : (es.size : Int) ≥ 200 := d1
            exact ⟨by rw [if_pos ⟨c2, b1, by unfold statesN; omega⟩], M6.ext⟩
          · have d1 : ¬ (es.size : Int) ≥ 200 := d1
            exact ⟨by rw [if_neg (fun h => by have := h.2.2; unfold statesN at this; omega)], M6.ext⟩
        · have b1 : decide (x.who ∈ whos l) = true := by simpa using b1
          exact ⟨by rw [if_neg (fun h => by rw [b1] at h; cases h.2.1)], M6.ext⟩
      · have c2 : ¬ x.kind = 1 := fun e => c2 (by show (k : Int) = 1; omega)
        exact ⟨by rw [if_neg (fun h => c2 h.1)], M6.ext⟩
end Go.Proofs.YtahgjidcaeieaaaGreatDoor
namespace Go.Proofs.YtahgjidcaeieaaaGreatDoor
open Go.Eng Go.RowKit
theorem whos_snoc (l : List Fact) (x : Fact) : whos (l ++ [x]) = whos l ++ if x.kind = 1 then [x.who] else [] := by
  unfold whos
  rw [List.filter_append, List.map_append, List.filter_cons, List.filter_nil]
  congr 1
  by_cases h : x.kind = 1
  · rw [if_pos (decide_eq_true h), if_pos h]; rfl
  · rw [if_neg (by simpa using h), if_neg h]; rfl
theorem lastKnown_snoc (l : List Fact) (x : Fact) : lastKnown (l ++ [x]) = x.known := by simp [lastKnown]
set_option maxRecDepth 100000 in
theorem Check_spec {w : World} {A : Option Addr} {l : List Fact} {c : Nat} (h : HF w A l c) (hl : l.length ≤ 2 ^ 20) :
    CallsV C.P 110 #[.slice A l.length c] w fun v w' => v = .tuple #[.int .i64 ((chkF l).1 : Nat), .int .i64 (chkF l).2] ∧ Ext w w' := by
  refine callsV_of C_ok (args := [_]) (plans := plans110) Tryz.func110 rfl Tryz.ntmps110 (by kernel_rfl) (Nat.le_of_ble_eq_true rfl) ?_
  intro gi w1 h1
  intro gs w2 h2
  intro g w3 h3
  have hgi : w.heap.size ≤ gi := by rw [h1.new]; exact Nat.le_refl _
  have hgs : w.heap.size ≤ gs := by rw [h2.new, h1.size]; omega
  have hg : w.heap.size ≤ g := by rw [h3.new, h2.size, h1.size]; omega
  have n1 : gi ≠ gs := by rw [h1.new, h2.new, h1.size]; omega
  have n2 : gi ≠ g := by rw [h1.new, h3.new, h2.size, h1.size]; omega
  have n3 : gs ≠ g := by rw [h2.new, h3.new, h2.size, h1.size]; omega
  have M3 : Mem w w3 [(g, .cells #[.map (some gi), .map (some gs), .int .i64 (0 : Nat), .int .i64 0] 177 (0, 0))] := ((Mem.start w).grow (h1.ext.trans h2.ext)).alloc h3
  have si3 : SetIs w3 gi [] := SetIs.empty ((h2.ext.trans h3.ext).heap h1.here)
  have ss3 : SetIs w3 gs [] := SetIs.empty (h3.ext.heap h2.here)
  have hchk : chkF l = chkG (l.take 0) (l.drop 0) := rfl
  refine loopE C_ok (fun (i : Nat) => [(4, .pointer (some ⟨g, 0, none⟩)), (12, .slice A l.length c), (13, .int .i64 l.length), (14, .int .i64 i)])
    (fun i w' => i ≤ l.length ∧ Mem w w' [(g, .cells #[.map (some gi), .map (some gs), .int .i64 (i : Nat), .int .i64 (lastKnown (l.take i))] 177 (0, 0))] ∧ SetIs w' gi ((l.take i).map Fact.id) ∧ SetIs w' gs (whos (l.take i)) ∧ chkF l = chkG (l.take i) (l.drop i)) (fun i => l.length - i) 0
    ⟨rfl, rfl, rfl, rfl, trivial⟩ ⟨Nat.zero_le _, M3, si3, ss3, hchk⟩ ?_
  rintro i w4 ⟨hi, M4, si4, ss4, hc⟩
  refine brE_dec (fun hlt => ?_) (fun hge => ?_)
  case' refine_2 =>
    have : i = l.length := by have : ¬ (i : Int) < (l.length : Nat) := hge; omega
    subst this
    rw [List.drop_length] at hc
    exact ⟨by rw [hc]; rfl, M4.ext⟩
  have hlt : i < l.length := by have : (i : Int) < (l.length : Nat) := hlt; omega
  have hx := h.nums _ (List.getElem_mem hlt)
  have hti : (l.take i).length = i := by rw [List.length_take]; omega
  have htk : l.take (i + 1) = l.take i ++ [l[i]] := List.take_succ_eq_append_getElem hlt
  rw [chkG_at hlt] at hc
  obtain ⟨b, o, hA, hcc⟩ := Reads.fact (h.reads.ext M4.ext) hlt
  refine ⟨i, b, o, rfl, hlt, hA, ?_⟩
  refine ⟨l[i].cells, rfl, hcc, ?_⟩
  intro g6 w5 h5
  refine ⟨rfl, _, _, h5.here, Nat.le_of_ble_eq_true rfl, rfl, ?_⟩
  intro w6 h6
  have h6 : Put w5 g6 (.cells l[i].cells.toArray 90 (0, 0)) w6 := h6
  have e46 : Ext w4 w6 := h6.ext_of h5.ext (by rw [h5.new]; exact Nat.le_refl _)
  have M6 : Mem w w6 [(g6, .cells l[i].cells.toArray 90 (0, 0)), (g, .cells #[.map (some gi), .map (some gs), .int .i64 (i : Nat), .int .i64 (lastKnown (l.take i))] 177 (0, 0))] := (M4.alloc h5).put 0 rfl h6
  have hgi6 : gi ≠ g6 := fun e => by
    obtain ⟨es, clk, hb⟩ := (si4.ext e46).block
    rw [e, h6.here] at hb; cases hb
  have hgs6 : gs ≠ g6 := fun e => by
    obtain ⟨es, clk, hb⟩ := (ss4.ext e46).block
    rw [e, h6.here] at hb; cases hb
  refine ⟨l[i].cells, rfl, M6.rd 0 rfl, ?_⟩
  have reg6 : RegIs w6 g gi gs (l.take i).length (lastKnown (l.take i)) := by rw [hti]; exact M6.get 1 rfl
  refine (refuses_spec hx (by omega) reg6 (si4.ext e46) (ss4.ext e46)).mono ?_
  rintro v w7 ⟨rfl, e7⟩
  have M7 := M6.grow e7
  have si7 := (si4.ext e46).ext e7
  have ss7 := (ss4.ext e46).ext e7
  refine brE_ndec (fun a1 => ?_) (fun a1 => ?_)
  · have a1 : ¬ behindE (l.take i) l[i] = 0 := a1
    rw [if_pos a1] at hc
    exact ⟨by rw [hc], M7.ext⟩
  have a1 : behindE (l.take i) l[i] = 0 := a1
  rw [if_neg (fun h => h a1)] at hc
  obtain ⟨fi, hfi, hfi2⟩ := si7
  refine ⟨_, M7.cell 1 rfl rfl, ?_⟩
  refine ⟨_, M7.cell 0 rfl rfl, ?_⟩
  refine mapPut C_ok rfl rfl (x := .int .i64 l[i].id) rfl rfl rfl rfl intK (intKey hx.id) hfi ?_
  intro o8 w8 h8 hf8
  have si8 : SetIs w8 gi ((l.take (i + 1)).map Fact.id) := by
    rw [htk, List.map_append]
    exact set_put hfi2 hf8
  have ss8 := ss7.other h8 (fun e => n1 e.symm)
  have M8 := M7.grown h8.grownBy (fun q hq => by cases hq; exact hgi) (fun p hp => by
    simp at hp
    rcases hp with rfl | rfl
    · exact fun e => hgi6 (by injection e with e; exact e.symm)
    · exact fun e => n2 (by injection e with e; exact e.symm))
  refine ⟨_, M8.cell 0 rfl rfl, ?_⟩
  refine brE_dec (fun a2 => ?A) (fun a2 => ?B)
  case' A =>
    have a2 : l[i].kind = 1 := a2
    obtain ⟨fs, hfs, hfs2⟩ := ss8
    refine ⟨_, M8.cell 1 rfl rfl, ?_⟩
    refine ⟨_, M8.cell 0 rfl rfl, ?_⟩
    refine mapPut C_ok rfl rfl (x := .int .i64 l[i].who) rfl rfl rfl rfl intK (intKey hx.who) hfs ?_
    intro o9 w9 h9 hf9
    have ss9 : SetIs w9 gs (whos (l.take (i + 1))) := by
      rw [htk, whos_snoc, if_pos a2]
      exact set_put hfs2 hf9
    have si9 := si8.other h9 n1
    have M9 := M8.grown h9.grownBy (fun q hq => by cases hq; exact hgs) (fun p hp => by
      simp at hp
      rcases hp with rfl | rfl
      · exact fun e => hgs6 (by injection e with e; exact e.symm)
      · exact fun e => n3 (by injection e with e; exact e.symm))
  case' B =>
    have a2 : ¬ l[i].kind = 1 := a2
    have ss9 : SetIs w8 gs (whos (l.take (i + 1))) := by
      rw [htk, whos_snoc, if_neg a2, List.append_nil]
      exact ss8
    have si9 := si8
    have M9 := M8
  all_goals
    refine ⟨_, M9.cell 1 rfl rfl, ?_⟩
    refine ⟨((i + 1 : Nat) : Int), fit ⟨by omega, by omega⟩, ?_⟩
    refine ⟨rfl, _, _, M9.get 1 rfl, Nat.le_of_ble_eq_true rfl, rfl, ?_⟩
    intro w10 h10
    have M10 := M9.put 1 rfl h10
    have si10 := si9.other h10 n2
    have ss10 := ss9.other h10 n3
    refine ⟨_, M10.cell 0 rfl rfl, ?_⟩
    refine ⟨rfl, _, _, M10.get 1 rfl, Nat.le_of_ble_eq_true rfl, rfl, ?_⟩
    intro w11 h11
    have M11 := M10.put 1 rfl h11
    have si11 := si10.other h11 n2
    have ss11 := ss10.other h11 n3
    refine ⟨((i + 1 : Nat) : Int), fit ⟨by omega, by omega⟩, ?_⟩
    refine ⟨i + 1, ⟨rfl, rfl, rfl, rfl, trivial⟩, ⟨hlt, ?_, si11, ss11, hc⟩, by omega⟩
    rw [htk, lastKnown_snoc]
    exact M11.tail
def appE (l : List Fact) (x : Fact) : Int := if (chkF l).2 ≠ 0 then (chkF l).2 else (chkF (l ++ [x])).2
end Go.Proofs.YtahgjidcaeieaaaGreatDoor
namespace Go.Proofs.YtahgjidcaeieaaaGreatDoor
open Go.Eng Go.RowKit
abbrev BoxI (w : World) (p : Nat) (n : Int) : Prop := w.heap[p]? = some (.cells #[.int .i64 n] 3 (0, 0))
theorem dead1_spec (x : Fact) {n : Int} {p0 : Nat} (w : World) (hp0 : BoxI w p0 n) :
    CallsV C.P 164 (#[] ++ [x.val].toArray ++ #[.pointer (some ⟨p0, 0, none⟩)]) w fun v w' => v = .bool (deathB n x) ∧ Ext w w' := by
  refine callsV_of C_ok (args := [_, _]) (plans := []) Tryz.func164 rfl Tryz.ntmps164 (by kernel_rfl) (Nat.le_of_ble_eq_true rfl) ?_
  intro g w1 h1
  have M1 := (Mem.start w).alloc h1
  unfold deathB
  refine ⟨_, M1.cell 0 rfl rfl, ?_⟩
  refine brE_dec (fun a0 => ?_) (fun a0 => ?_)
  case' refine_2 =>
    have a0 : ¬ x.kind = 10 := a0
    exact ⟨congrArg Value.bool (decide_eq_false fun h => a0 h.1).symm, M1.ext⟩
  have a0 : x.kind = 10 := a0
  refine ⟨_, M1.cell 0 rfl rfl, ?_⟩
  refine ⟨_, cell_of_block (h1.ext.heap hp0) rfl, ?_⟩
  refine ⟨congrArg Value.bool ?_, M1.ext⟩
  show decide (x.who = n) = _
  rw [Bool.eq_iff_iff, decide_eq_true_eq, decide_eq_true_eq]
  exact ⟨fun h => ⟨a0, h⟩, fun h => h.2⟩
abbrev TestV (w : World) (gd : Nat) (cb : Array Value) (p : Fact → Bool) : Prop := ∀ (x : Fact) (w' : World), Ext w w' → CallsV C.P gd (#[] ++ [x.val].toArray ++ cb) w' fun v w'' => v = .bool (p x) ∧ Ext w' w''
theorem IndexFuncV_spec {w : World} {A : Option Addr} {l : List Fact} {c gd : Nat} {cb : Array Value} {p : Fact → Bool} (hr : Reads w A (fcells l)) (hl : l.length ≤ 2 ^ 20) (hgd : C.can gd = true) (hp : TestV w gd cb p) :
    CallsV C.P 176 #[.slice A l.length c, .func (.func gd) #[] cb] w fun v w' => (∃ i : Int, v = .int .i64 i ∧ decide (i ≥ 0) = l.any p) ∧ Ext w w' := by
  refine callsV_of C_ok (args := [_, _]) (plans := []) Tryz.func176 rfl Tryz.ntmps176 (by kernel_rfl) (Nat.le_of_ble_eq_true rfl) ?_
  refine loopE C_ok (fun (i : Nat) => [(0, .slice A l.length c), (1, .func (.func gd) #[] cb), (7, .int .i64 l.length), (8, .int .i64 i)])
    (fun i w' => Ext w w' ∧ i ≤ l.length ∧ (l.take i).any p = false) (fun i => l.length - i) 0 ⟨rfl, rfl, rfl, rfl, trivial⟩
    ⟨Ext.refl _, Nat.zero_le _, rfl⟩ ?_
  rintro i w1 ⟨e1, hi, hall⟩
  refine brE_dec (fun hlt => ?_) (fun hge => ?_)
  · have hlt : i < l.length := by have : (i : Int) < (l.length : Nat) := hlt; omega
    obtain ⟨b, o, hA, hc⟩ := Reads.fact (hr.ext e1) hlt
    refine ⟨i, b, o, rfl, hlt, hA, ?_⟩
    refine ⟨l[i].cells, rfl, hc, ?_⟩
    refine brE_true hgd ?_
    refine (hp l[i] w1 e1).mono ?_
    rintro v w2 ⟨rfl, e2⟩
    refine brE_mk (fun h2 => ?_) (fun h2 => ?_)
    · refine ⟨⟨i, rfl, ?_⟩, e1.trans e2⟩
      rw [decide_eq_true (by omega), eq_comm, List.any_eq_true]
      exact ⟨_, List.getElem_mem hlt, h2⟩
    · refine ⟨((i + 1 : Nat) : Int), fit ⟨by omega, by omega⟩, ?_⟩
      refine ⟨i + 1, ⟨rfl, rfl, rfl, rfl, trivial⟩, ⟨e1.trans e2, hlt, ?_⟩, by omega⟩
      rw [List.take_succ_eq_append_getElem hlt, List.any_append, hall]
      simp [h2]
  · have : i = l.length := by have : ¬ (i : Int) < (l.length : Nat) := hge; omega
    subst this
    rw [List.take_length] at hall
    exact ⟨⟨-1, rfl, by rw [hall]; rfl⟩, e1⟩
theorem some_spec {w : World} {A : Option Addr} {l : List Fact} {c gd : Nat} {cb : Array Value} {p : Fact → Bool} (hr : Reads w A (fcells l)) (hl : l.length ≤ 2 ^ 20) (hgd : C.can gd = true) (hp : TestV w gd cb p) :
    CallsV C.P 163 #[.slice A l.length c, .func (.func gd) #[] cb] w fun v w' => v = .bool (l.any p) ∧ Ext w w' := by
  have inner : CallsV C.P 172 #[.slice A l.length c, .func (.func gd) #[] cb] w fun v w' => v = .bool (l.any p) ∧ Ext w w' := by
    refine callsV_of C_ok (args := [_, _]) (plans := []) Tryz.func172 rfl Tryz.ntmps172 (by kernel_rfl) (Nat.le_of_ble_eq_true rfl) ?_
    refine (IndexFuncV_spec hr hl hgd hp).mono ?_
    rintro v w1 ⟨⟨i, rfl, hi⟩, e1⟩
    exact ⟨congrArg Value.bool hi, e1⟩
  refine callsV_of C_ok (args := [_, _]) (plans := []) Tryz.func163 rfl Tryz.ntmps163 (by kernel_rfl) (Nat.le_of_ble_eq_true rfl) ?_
  refine inner.mono ?_
  rintro v w1 ⟨rfl, e1⟩
  exact ⟨rfl, e1⟩
theorem vdead_spec {w : World} {A : Option Addr} {l : List Fact} {c : Nat} (hr : Reads w A (fcells l)) (hl : l.length ≤ 2 ^ 20) (n : Int) :
    CallsV C.P 139 #[.slice A l.length c, .int .i64 n] w fun v w' => v = .bool (deadB l n) ∧ Ext w w' := by
  refine callsV_of C_ok (args := [_, _]) (plans := []) Tryz.func139 rfl Tryz.ntmps139 (by kernel_rfl) (Nat.le_of_ble_eq_true rfl) ?_
  intro g w1 h1
  refine ⟨[], [.pointer (some ⟨g, 0, none⟩)], rfl, rfl, ?_⟩
  refine (some_spec (p := deathB n) (hr.ext h1.ext) hl rfl fun x w' e => dead1_spec x w' (e.heap h1.here)).mono ?_
  rintro v w2 ⟨rfl, e2⟩
  exact ⟨rfl, h1.ext.trans e2⟩
theorem look_spec {w : World} {A : Option Addr} {l : List Fact} {c : Nat} (h : HF w A l c) (hl : l.length ≤ 2 ^ 20) (k day : Int) :
    CallsV C.P 130 #[.slice A l.length c, .int .i64 k, .int .i64 day] w fun v w' => NewF w.heap.size w' v (atL k day l) ∧ Ext w w' := by
  refine callsV_of C_ok (args := [_, _, _]) (plans := []) Tryz.func130 rfl Tryz.ntmps130 (by kernel_rfl) (Nat.le_of_ble_eq_true rfl) ?_
  refine (At_spec h hl k day).mono ?_
  rintro v w1 h1
  exact h1
end Go.Proofs.YtahgjidcaeieaaaGreatDoor
namespace Go.Proofs.YtahgjidcaeieaaaGreatDoor
open Go.Proofs
def sortI_ren : Go.Shelf.Ren := ⟨fun | 5 => 165 | 8 => 174 | 7 => 173 | 19 => 186 | 20 => 113 | 10 => 177 | 11 => 178 | 12 => 179 | 13 => 180 | 14 => 181 | 15 => 182 | 16 => 183 | 17 => 184 | 18 => 185 | 30 => 187 | 31 => 188 | 32 => 189 | 33 => 190 | 34 => 191 | 35 => 94 | 40 => 192 | n => n, fun | 23 => 64 | 25 => 3 | 3 => 3 | 32 => 147 | 22 => 64 | 0 => 0 | 44 => 161 | 46 => 140 | 4 => 4 | 36 => 218 | 35 => 217 | 41 => 154 | 5 => 5 | 9 => 9 | 53 => 224 | 57 => 79 | 63 => 229 | 64 => 230 | n => n, fun | n => n⟩
theorem sortI : Go.Proofs.SlLaysM.n5 Tryz.prog sortI_ren := {
  mixed := by kernel_rfl,
  f5 := ⟨Tryz.f165.name, by decide, Tryz.func165.trans (congrArg some (by kernel_rfl))⟩,
  f7 := ⟨Tryz.f173.name, by decide, Tryz.func173.trans (congrArg some (by kernel_rfl))⟩,
  f8 := Tryz.func174.trans (congrArg some (by kernel_rfl)),
  f10 := ⟨Tryz.f177.name, by decide, Tryz.func177.trans (congrArg some (by kernel_rfl))⟩,
  f11 := ⟨Tryz.f178.name, by decide, Tryz.func178.trans (congrArg some (by kernel_rfl))⟩,
  f12 := ⟨Tryz.f179.name, by decide, Tryz.func179.trans (congrArg some (by kernel_rfl))⟩,
  f13 := ⟨Tryz.f180.name, by decide, Tryz.func180.trans (congrArg some (by kernel_rfl))⟩,
  f14 := ⟨Tryz.f181.name, by decide, Tryz.func181.trans (congrArg some (by kernel_rfl))⟩,
  f15 := ⟨Tryz.f182.name, by decide, Tryz.func182.trans (congrArg some (by kernel_rfl))⟩,
  f16 := ⟨Tryz.f183.name, by decide, Tryz.func183.trans (congrArg some (by kernel_rfl))⟩,
  f17 := ⟨Tryz.f184.name, by decide, Tryz.func184.trans (congrArg some (by kernel_rfl))⟩,
  f18 := ⟨Tryz.f185.name, by decide, Tryz.func185.trans (congrArg some (by kernel_rfl))⟩,
  f19 := Tryz.func186.trans (congrArg some (by kernel_rfl)),
  f20 := Tryz.func113.trans (congrArg some (by kernel_rfl)),
  f30 := ⟨Tryz.f187.name, by decide, Tryz.func187.trans (congrArg some (by kernel_rfl))⟩,
  f31 := Tryz.func188.trans (congrArg some (by kernel_rfl)),
  f32 := Tryz.func189.trans (congrArg some (by kernel_rfl)),
  f33 := ⟨Tryz.f190.name, by decide, Tryz.func190.trans (congrArg some (by kernel_rfl))⟩,
  f34 := ⟨Tryz.f191.name, by decide, Tryz.func191.trans (congrArg some (by kernel_rfl))⟩,
  f35 := ⟨Tryz.f94.name, by decide, Tryz.func94.trans (congrArg some (by kernel_rfl))⟩,
  f40 := ⟨Tryz.f192.name, by decide, Tryz.func192.trans (congrArg some (by kernel_rfl))⟩,
  t0 := Tryz.underlying0,
  a0 := Tryz.isAgg0,
  z0 := Tryz.sizeOf0,
  v0 := Tryz.zeroValue0,
  t3 := Tryz.underlying3,
  a3 := Tryz.isAgg3,
  z3 := Tryz.sizeOf3,
  v3 := Tryz.zeroValue3,
  t4 := Tryz.underlying4,
  a4 := Tryz.isAgg4,
  z4 := Tryz.sizeOf4,
  v4 := Tryz.zeroValue4,
  t5 := Tryz.underlying5,
  a5 := Tryz.isAgg5,
  z5 := Tryz.sizeOf5,
  v5 := Tryz.zeroValue5,
  t9 := Tryz.underlying9,
  a9 := Tryz.isAgg9,
  z9 := Tryz.sizeOf9,
  v9 := Tryz.zeroValue9,
  t22 := Tryz.underlying64,
  a22 := Tryz.isAgg64,
  z22 := Tryz.sizeOf64,
  v22 := Tryz.zeroValue64,
  t23 := Tryz.underlying64,
  a23 := Tryz.isAgg64,
  z23 := Tryz.sizeOf64,
  v23 := Tryz.zeroValue64,
  t25 := Tryz.underlying3,
  a25 := Tryz.isAgg3,
  z25 := Tryz.sizeOf3,
  v25 := Tryz.zeroValue3,
  t32 := Tryz.underlying147,
  a32 := Tryz.isAgg147,
  z32 := Tryz.sizeOf147,
  v32 := Tryz.zeroValue147,
  t35 := Tryz.underlying217,
  a35 := Tryz.isAgg217,
  z35 := Tryz.sizeOf217,
  v35 := Tryz.zeroValue217,
  t36 := Tryz.underlying218,
  a36 := Tryz.isAgg218,
  z36 := Tryz.sizeOf218,
  v36 := Tryz.zeroValue218,
  t41 := Tryz.underlying154,
  a41 := Tryz.isAgg154,
  z41 := Tryz.sizeOf154,
  v41 := Tryz.zeroValue154,
  t44 := Tryz.underlying161,
  a44 := Tryz.isAgg161,
  z44 := Tryz.sizeOf161,
  v44 := Tryz.zeroValue161,
  t46 := Tryz.underlying140,
  a46 := Tryz.isAgg140,
  z46 := Tryz.sizeOf140,
  v46 := Tryz.zeroValue140,
  t53 := Tryz.underlying224,
  a53 := Tryz.isAgg224,
  z53 := Tryz.sizeOf224,
  v53 := Tryz.zeroValue224,
  t57 := Tryz.underlying79,
  a57 := Tryz.isAgg79,
  z57 := Tryz.sizeOf79,
  v57 := Tryz.zeroValue79,
  t63 := Tryz.underlying229,
  a63 := Tryz.isAgg229,
  z63 := Tryz.sizeOf229,
  v63 := Tryz.zeroValue229,
  t64 := Tryz.underlying230,
  a64 := Tryz.isAgg230,
  z64 := Tryz.sizeOf230,
  v64 := Tryz.zeroValue230 }
end Go.Proofs.YtahgjidcaeieaaaGreatDoor
namespace Go.Eng
open Go.RowKit Go.Sort Go.Proofs
section
variable {α : Type} [Inhabited α]
theorem flatK_eq {enc : α → List Value} {k : Nat} (hk : ∀ x, (enc x).length = k) (d : Array α) : (flatK enc k d).toList = d.toList.flatMap enc := by
  apply List.ext_getElem?
  intro t
  by_cases ht : t < d.size * k
  · have k0 : 0 < k := by rcases Nat.eq_zero_or_pos k with h | h
                          · subst h; simp at ht
                          · exact h
    have hq : t / k < d.size := Nat.div_lt_of_lt_mul (by rwa [Nat.mul_comm] at ht)
    have hr : t % k < k := Nat.mod_lt _ k0
    have e : t / k * k + t % k = t := by rw [Nat.mul_comm]; exact Nat.div_add_mod t k
    have h1 := flat_get hk d.toList (t / k) (t % k) (by simpa using hq) hr
    rw [e] at h1
    rw [h1]
    have h2 := get_flatK enc k d t ht
    have hs : t < (flatK enc k d).size := by rw [size_flatK]; exact ht
    rw [getElem!_pos (flatK enc k d) t hs, getElem!_pos d (t / k) hq] at h2
    have hl : t % k < (enc d[t / k]).length := by rw [hk]; exact hr
    rw [getElem!_pos (enc d[t / k]) (t % k) hl] at h2
    have e1 : (flatK enc k d).toList[t]? = some ((enc d[t / k])[t % k]) := by
      rw [List.getElem?_eq_getElem (by simpa using hs), Array.getElem_toList, h2]
    have e2 : d.toList[t / k]'(by simpa using hq) = d[t / k] := Array.getElem_toList _
    rw [e1, e2, List.getElem?_eq_getElem hl]
  · rw [List.getElem?_eq_none (by simp; omega), List.getElem?_eq_none (by rw [flat_length hk]; simp; omega)]
theorem sort_row {enc : α → List Value} {k : Nat} (hk : ∀ x, (enc x).length = k) {w : World} {base e cap g : Nat} {l : List α}
    (h : w.ownsRow base e k (.slice (some ⟨g, 0, none⟩) l.length cap) l.length (l.flatMap enc)) :
    HoldsK enc k w g 0 l.toArray ∧ g < w.heap.size ∧ base ≤ g ∧ ∀ (d' : Array α) (m : Nat) (os : Array Obj), d'.size = l.length →
      (sortWorldK enc k w g 0 m d' os).ownsRow base e k (.slice (some ⟨g, 0, none⟩) l.length cap) l.length (d'.toList.flatMap enc) ∧ w.grownBy (sortWorldK enc k w g 0 m d' os) (some g) ∧ Only e w (sortWorldK enc k w g 0 m d' os) := by
  have hlt := (h.lt g rfl)
  obtain ⟨cur, hg, hgB, hcl, hcc, hnc, hxl, htake, _⟩ := ownsRow_open h
  have hm : cap ≤ maxLen := by
    obtain ⟨_, ⟨hv, _⟩ | ⟨g', cap', cur', hv, _, _, _, h4, _⟩⟩ := h
    · cases hv
    · cases hv; exact h4
  have hold : ∀ (d' : Array α) (m : Nat) (os : Array Obj), (sortWorldK enc k w g 0 m d' os).heap = (w.heap.modify g (onCells (putCells id 0 (flatK enc k d')))) ++ os := fun d' m os => rfl
  have hblk : ∀ (d' : Array α) (m : Nat) (os : Array Obj), (sortWorldK enc k w g 0 m d' os).heap[g]? = some (.cells (putCells id 0 (flatK enc k d') cur.toArray) e (0, 0)) := fun d' m os => by
    rw [hold, Array.getElem?_append_left (by simpa using hlt.2), Array.getElem?_modify, if_pos rfl, hg]
    rfl
  have hoth : ∀ (d' : Array α) (m : Nat) (os : Array Obj) (q : Nat), q < w.heap.size → q ≠ g → (sortWorldK enc k w g 0 m d' os).heap[q]? = w.heap[q]? := fun d' m os q hq hne => by
    rw [hold, Array.getElem?_append_left (by simpa using hq), Array.getElem?_modify, if_neg (fun e => hne e.symm)]
  refine ⟨fun j hj => ?_, hlt.2, hgB, fun d' m os hs => ⟨⟨?_, .inr ⟨g, cap, _, rfl, hgB, hblk d' m os, hnc, hm, ?_, ?_⟩⟩, ⟨rfl, rfl, rfl, ?_, fun q hq hne => hoth d' m os q hq (fun e => hne (by rw [e]))⟩, fun q c t fr hq hne => ?_⟩⟩
  · rw [size_flatK] at hj
    have hj' : j < l.length * k := by simpa using hj
    have hc : cur[j]? = some ((flatK enc k l.toArray)[j]!) := by
      have h1 : (l.flatMap enc)[j]? = some ((flatK enc k l.toArray)[j]!) := by
        rw [← show (flatK enc k l.toArray).toList = l.flatMap enc by rw [flatK_eq hk]]
        have hs : j < (flatK enc k l.toArray).size := by rw [size_flatK]; exact hj
        rw [getElem!_pos _ j hs]
        simp
      rw [← h1, ← htake, List.getElem?_take, if_pos (by omega)]
    rw [Nat.zero_add]
    refine ⟨?_, ?_⟩
    · rw [cell_of_block hg (v := (flatK enc k l.toArray)[j]!) (by simpa using hc)]
      rfl
    · simp [World.frozen?, hg]
  · rw [flat_length hk]; simp [hs]
  · simp [putCells, hcc]
  · rw [← flatK_eq hk d']
    apply List.ext_getElem?
    intro t
    rw [List.getElem?_take]
    by_cases ht : t < l.length * k
    · rw [if_pos ht]
      have hsz : t < (flatK enc k d').size := by rw [size_flatK, hs]; exact ht
      have htc : t < cur.length := by omega
      simp only [putCells, Array.getElem?_toList, Array.getElem?_mapIdx, List.getElem?_toArray, List.getElem?_eq_getElem htc, Option.map_some, Nat.zero_le, true_and, Nat.zero_add, Nat.sub_zero, id]
      rw [if_pos hsz, getElem!_pos _ t hsz]
      simp
    · rw [if_neg ht, List.getElem?_eq_none]
      rw [Array.length_toList, size_flatK, hs]; omega
  · rw [hold]; simp
  · by_cases e' : q = g
    · subst e'
      have := hq.symm.trans hg
      simp at this
      exact absurd this.2.1 hne
    · rw [hoth d' m os q (lt_of_heap hq) e']; exact hq
end
end Go.Eng
