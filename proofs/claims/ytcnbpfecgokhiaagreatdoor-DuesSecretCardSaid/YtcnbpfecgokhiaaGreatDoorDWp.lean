/- Dues: what a state may see. -/
import Derived.Test.YtcnbpfecgokhiaaGreatDoorDWo
set_option linter.unusedVariables false
set_option linter.unusedSimpArgs false
set_option linter.unnecessarySimpa false
set_option linter.unusedSectionVars false
namespace Go.Proofs.YtcnbpfecgokhiaaGreatDoor
open Go.Eng Go.RowKit

theorem numS_length (l : List (Int × Int × Int × Int × Int)) : (numS l).length = l.length := by unfold numS; simp
theorem numS_snoc (l : List (Int × Int × Int × Int × Int)) (t : Int × Int × Int × Int × Int) : numS (l ++ [t]) = numS l ++ [⟨(l.length : Nat), t.1, t.2.1, t.2.2.1, t.2.2.2.1, t.2.2.2.2⟩] := by
  unfold numS
  rw [List.zipIdx_append, List.map_append]
  simp
theorem sight_kinds {es : List Entry} (hA : Acc es) {day : Int} {i : Nat} (hi : i < es.length) (hd : es[i].day ≤ day) :
    let x := es[i]
    (x.kind = 1 ∨ x.kind = 2 ∨ x.kind = 3 ∨ x.kind = 4 ∨ x.kind = 5 ∨ x.kind = 6 ∨ x.kind = 7) ∧ ((x.kind = 3 ∨ x.kind = 4) → ∃ k, k < (waivL (asOfL es day)).length ∧ x.w.id = ((k + 1 : Nat) : Int)) ∧ ((x.kind = 5 ∨ x.kind = 6 ∨ x.kind = 7) → ∃ k, k < (giftL (asOfL es day)).length ∧ x.g.id = ((k + 1 : Nat) : Int)) := by
  have hm : es[i] ∈ asOfL es day := List.mem_filter.2 ⟨List.getElem_mem hi, by simpa using hd⟩
  have hr := refers (acc_asOf hA day) _ hm
  refine ⟨ok_kind (form_okE ((acc_ok hA).forms _ (List.getElem_mem hi))).1, hr.1, hr.2⟩
theorem take_asOf {es : List Entry} (hA : Acc es) {day : Int} {i : Nat} (h1 : ∀ j (hj : j < es.length), j < i → es[j].day ≤ day) (h2 : ∀ hi : i < es.length, ¬ es[i].day ≤ day) : es.take i = asOfL es day := by
  have e : es = es.take i ++ es.drop i := (List.take_append_drop i es).symm
  have h3 : asOfL es day = (es.take i).filter (fun x => decide (x.day ≤ day)) ++ (es.drop i).filter (fun x => decide (x.day ≤ day)) := by
    conv => lhs; rw [e]
    exact List.filter_append _ _
  rw [h3, List.filter_eq_self.2, List.filter_eq_nil_iff.2, List.append_nil]
  · intro x hx
    obtain ⟨t, ht, hk, rfl⟩ : ∃ t, ∃ ht : t < es.length, i ≤ t ∧ x = es[t] := by
      obtain ⟨t, ht, rfl⟩ := List.getElem_of_mem hx
      rw [List.length_drop] at ht
      exact ⟨i + t, by omega, by omega, by rw [List.getElem_drop]⟩
    have hi : i < es.length := by omega
    have := h2 hi
    rcases Nat.lt_or_ge i t with h | h
    · have := List.pairwise_iff_getElem.1 (acc_ok hA).days i t hi ht h
      simp; omega
    · obtain rfl : i = t := by omega
      simpa using this
  · intro x hx
    obtain ⟨t, ht, rfl⟩ := List.getElem_of_mem hx
    rw [List.length_take] at ht
    rw [List.getElem_take]
    simpa using h1 t (by omega) (by omega)

set_option maxRecDepth 100000 in
set_option maxHeartbeats 2000000 in
theorem Sight_spec {w : World} {l : LV} {es : List Entry} (h : LedgerIs w l es) (hl : es.length ≤ 2 ^ 16) (state day : Int) :
    CallsV C.P 44 #[l.ptr, .int .i64 state, .int .i64 day] w fun v w' => NewL Sight.cells 142 6 w.heap.size w' v (sightAt es state day) ∧ Ext w w' := by
  obtain ⟨Ae, ce, hve, hre, _⟩ := reads_of_owns h.row
  have hA' := acc_asOf h.acc day
  have hwl := (acc_ok hA').wlen
  have hgl := (acc_ok hA').gifts.len
  refine callsV_of C_ok (args := [_, _, _]) (plans := plans44) Tryz.func44 rfl Tryz.ntmps44 (by kernel_rfl) (Nat.le_of_ble_eq_true rfl) ?_
  refine ⟨_, eqNilP _ _ _, ?_⟩
  refine (asOf_spec h hl day).mono ?_
  rintro v w1 ⟨s, rfl, hs⟩
  have hB := hs.is.block
  obtain ⟨Aw, cw, hvw, _, _⟩ := reads_of_owns hs.is.waivs
  obtain ⟨Ag, cg, hvg, _, _⟩ := reads_of_owns hs.is.gifts
  have hws := hs.is.waivs
  have hgs := hs.is.gifts
  have e1 := hs.ext
  have hfin : ∀ i, es.take i = asOfL es day → numS ((es.take i).filterMap (seeX (waivL (asOfL es day)) (giftL (asOfL es day)) state)) = sightAt es state day := fun i e => by rw [e]; rfl
  have hkinds := fun {i : Nat} (hi : i < es.length) (hd : es[i].day ≤ day) => sight_kinds h.acc hi hd
  have hstop := fun {i : Nat} => take_asOf h.acc (day := day) (i := i)
  generalize sightAt es state day = target at *
  generalize hWS : waivL (asOfL es day) = ws at *
  generalize hGS : giftL (asOfL es day) = gs at *
  refine ⟨.slice Ae es.length ce, cell_of_block (i := 0) (e1.heap h.block) (by show some l.vE = _; rw [hve]), ?_⟩
  refine loopE C_ok (fun (p : Nat × Value) => [(1, .int .i64 state), (2, .int .i64 day), (7, .pointer (some ⟨s.gs, 0, none⟩)), (8, p.2), (22, .slice Ae es.length ce), (23, .int .i64 es.length), (24, .int .i64 p.1)])
    (fun p w' => p.1 ≤ es.length ∧ (∀ j (hj : j < es.length), j < p.1 → es[j].day ≤ day) ∧ NewL Sight.cells 142 6 w.heap.size w' p.2 (numS ((es.take p.1).filterMap (seeX ws gs state))) ∧ Ext w w' ∧ Only 142 w1 w') (fun p => es.length - p.1) (0, .slice none 0 0) ⟨rfl, rfl, rfl, rfl, rfl, rfl, rfl, trivial⟩
    ⟨Nat.zero_le _, fun j _ hj => absurd hj (Nat.not_lt_zero _), newL_nil, e1, only_ext _ (Ext.refl _)⟩ ?_
  rintro ⟨i, v⟩ w2 ⟨hi', hday', ho', e2, o12⟩
  have hi : i ≤ es.length := hi'
  have hday : ∀ j (hj : j < es.length), j < i → es[j].day ≤ day := hday'
  have ho : NewL Sight.cells 142 6 w.heap.size w2 v (numS ((es.take i).filterMap (seeX ws gs state))) := ho'
  clear hi' hday' ho'
  have hsl : (numS ((es.take i).filterMap (seeX ws gs state))).length ≤ i := by
    rw [numS_length]
    have := List.length_filterMap_le (seeX ws gs state) (es.take i)
    rw [List.length_take] at this
    omega
  obtain ⟨A', c', rfl, _⟩ := ho.hl
  refine brE_dec (fun hlt => ?_) (fun hge => ?_)
  · have hlti : i < es.length := by have : (i : Int) < (es.length : Nat) := hlt; omega
    clear hlt
    obtain ⟨b, o, hA, hc⟩ := Reads.elem Entry.len (by omega) (hre.ext e2) hlti
    refine ⟨i, b, o, rfl, hlti, hA, ?_⟩
    refine ⟨es[i].cells, rfl, hc, ?_⟩
    intro g10 w3 h3
    refine ⟨rfl, _, _, h3.here, Nat.le_of_ble_eq_true rfl, rfl, ?_⟩
    intro w4 h4
    have M4 : Mem w2 w4 [(g10, .cells es[i].cells.toArray 39 (0, 0))] := ((Mem.start w2).alloc h3).put 0 rfl h4
    refine ⟨_, M4.cell 0 rfl rfl, ?_⟩
    refine brE_dec (fun hd => ?_) (fun hd => ?_)
    · have hd : es[i].day > day := hd
      refine ⟨?_, e2.trans M4.ext⟩
      rw [← hfin i (hstop hday fun _ => by omega)]
      exact ho.ext M4.ext
    have hd : es[i].day ≤ day := by have : ¬ es[i].day > day := hd; omega
    have hday1 : ∀ j (hj : j < es.length), j < i + 1 → es[j].day ≤ day := fun j hj hji => by
      rcases Nat.lt_or_ge j i with h | h
      · exact hday j hj h
      · obtain rfl : j = i := by omega
        exact hd
    obtain ⟨hk, hk3, hk5⟩ := hkinds hlti hd
    have next : IntKind.i64.wrap ((i : Int) + 1) = ((i + 1 : Nat) : Int) := fit ⟨by omega, by omega⟩
    have hsnoc : (es.take (i + 1)).filterMap (seeX ws gs state) = (es.take i).filterMap (seeX ws gs state) ++ (seeX ws gs state es[i]).toList := by
      rw [List.take_succ_eq_append_getElem hlti, List.filterMap_append]
      congr 1
    refine ⟨_, M4.cell 0 rfl rfl, ?_⟩
    refine ⟨_, M4.cell 0 rfl rfl, ?_⟩
    intro g11 w5 h5
    have M5 := M4.alloc h5
    refine ⟨rfl, _, _, M5.get 0 rfl, Nat.le_of_ble_eq_true rfl, rfl, ?_⟩
    intro w6 h6
    generalize hN : (numS ((es.take i).filterMap (seeX ws gs state))).length = N at *
    have M6 : Mem w2 w6 [(g11, .cells (Sight.mk (N : Nat) es[i].kind es[i].day 0 0 0).cells.toArray 142 (0, 0)), (g10, .cells es[i].cells.toArray 39 (0, 0))] := M5.put 0 rfl h6
    have hne : g10 ≠ g11 := by
      have := M6.nodup
      simp at this
      exact fun e => this e.symm
    clear M4 M5 h6 h5 h4 h3
    have o16 := only_trans o12 (only_ext _ M6.ext)
    refine ⟨_, M6.cell 1 rfl rfl, ?_⟩
    refine brE_dec (fun k1 => ?k1) (fun k1 => ?n1)
    case' n1 =>
      have k1 : ¬ es[i].kind = 1 := k1
      refine brE_dec (fun k2 => ?k2) (fun k2 => ?n2)
    case' n2 =>
      have k2 : ¬ es[i].kind = 2 := k2
      refine brE_dec (fun k3 => ?k3) (fun k3 => ?n3)
    case' n3 =>
      have k3 : ¬ es[i].kind = 3 := k3
      refine brE_dec (fun k4 => ?k4) (fun k4 => ?n4)
    case' k1 =>
      have kk : es[i].kind = 1 ∨ es[i].kind = 2 := .inl k1
      refine brE_true (decide_eq_true k1) ?_
    case' k2 => have kk : es[i].kind = 1 ∨ es[i].kind = 2 := .inr k2
    case' k3 =>
      have kk : es[i].kind = 3 ∨ es[i].kind = 4 := .inl k3
      refine brE_true (decide_eq_true k3) ?_
    case' k4 => have kk : es[i].kind = 3 ∨ es[i].kind = 4 := .inr k4
    case' k1 | k2 =>
      have hsee : seeX ws gs state es[i] = some (es[i].kind, es[i].day, es[i].a, 0, es[i].n) := if_pos kk
      refine ⟨fun q => q = g10, ?_⟩
      refine ⟨_, M6.cell 1 rfl rfl, ?_⟩
      refine ⟨.int .i64 es[i].n, fun u hu => ⟨_, hu.cell rfl (M6.cell 1 (i := 23) rfl rfl), rfl⟩, ?_⟩
      refine ⟨rfl, _, _, M6.get 0 rfl, Nat.le_of_ble_eq_true rfl, rfl, ?_⟩
      intro w7 h7
      refine ⟨(Keep.refl _ w6).put h7 hne.symm, ?_⟩
      refine ⟨rfl, _, _, h7.here, Nat.le_of_ble_eq_true rfl, rfl, ?_⟩
      intro w8 h8
      have M8 : Mem w2 w8 [(g11, .cells (Sight.mk (N : Nat) es[i].kind es[i].day es[i].a 0 es[i].n).cells.toArray 142 (0, 0)), (g10, .cells es[i].cells.toArray 39 (0, 0))] := (M6.put 0 rfl h7).put 0 rfl h8
    case' k3 | k4 =>
      obtain ⟨k, hkl, hke⟩ := hk3 kk
      have hat : atN ws es[i].w.id = ws[k] := by rw [hke]; exact atN_get hkl
      have hsee : seeX ws gs state es[i] = some (es[i].kind, es[i].day, ws[k].giver, ws[k].taker, ws[k].id) := by
        have hn1 : ¬ (es[i].kind = 1 ∨ es[i].kind = 2) := fun h => h.elim k1 k2
        unfold seeX; rw [if_neg hn1, if_pos kk, hat]
      have hw6 := ownsRow_only hws o16 (by decide)
      obtain ⟨A6, c6, hv6, hr6, _⟩ := reads_of_owns hw6
      obtain ⟨b6, o6, hA6, hc6⟩ := Reads.elem Waiv.len (by omega) hr6 hkl
      refine ⟨.slice A6 ws.length c6, cell_of_block (i := 2) (o16 _ _ _ _ hB (by decide)) (by show some s.vW = _; rw [hv6]), ?_⟩
      refine ⟨_, M6.cell 1 rfl rfl, ?_⟩
      refine ⟨(k : Int), by show IntKind.i64.wrap (es[i].w.id - 1) = _; rw [hke, fit ⟨by omega, by omega⟩]; omega, ?_⟩
      refine ⟨k, b6, o6, rfl, hkl, hA6, ?_⟩
      refine ⟨ws[k].cells, rfl, hc6, ?_⟩
      intro g12 w7 h7
      refine ⟨h7.ext, ?_⟩
      have M7 := M6.alloc h7
      refine ⟨rfl, _, _, M7.get 0 rfl, Nat.le_of_ble_eq_true rfl, rfl, ?_⟩
      intro w7' h7'
      have M7 : Mem w2 w7' [(g12, .cells ws[k].cells.toArray 35 (0, 0)), (g11, .cells (Sight.mk (N : Nat) es[i].kind es[i].day 0 0 0).cells.toArray 142 (0, 0)), (g10, .cells es[i].cells.toArray 39 (0, 0))] := M7.put 0 rfl h7'
      have hne2 : g12 ≠ g11 := by
        have := M7.nodup
        simp at this
        exact this.1.1
      refine ⟨fun q => q = g12, ?_⟩
      refine ⟨_, M7.cell 0 rfl rfl, ?_⟩
      refine ⟨.int .i64 ws[k].taker, fun u hu => ⟨_, hu.cell rfl (M7.cell 0 (i := 4) rfl rfl), rfl⟩, ?_⟩
      refine ⟨.int .i64 ws[k].id, fun u hu => ⟨_, hu.cell rfl (M7.cell 0 (i := 0) rfl rfl), rfl⟩, ?_⟩
      refine ⟨rfl, _, _, M7.get 1 rfl, Nat.le_of_ble_eq_true rfl, rfl, ?_⟩
      intro w8a h8a
      refine ⟨(Keep.refl _ w7').put h8a hne2.symm, ?_⟩
      refine ⟨rfl, _, _, h8a.here, Nat.le_of_ble_eq_true rfl, rfl, ?_⟩
      intro w8b h8b
      refine ⟨((Keep.refl _ w7').put h8a hne2.symm).put h8b hne2.symm, ?_⟩
      refine ⟨rfl, _, _, h8b.here, Nat.le_of_ble_eq_true rfl, rfl, ?_⟩
      intro w8 h8
      have M8 : Mem w2 w8 [(g11, .cells (Sight.mk (N : Nat) es[i].kind es[i].day ws[k].giver ws[k].taker ws[k].id).cells.toArray 142 (0, 0)), (g10, .cells es[i].cells.toArray 39 (0, 0))] := (((M7.put 1 rfl h8a).put 1 rfl h8b).put 1 rfl h8).tail
    case' n4 =>
      have k4 : ¬ es[i].kind = 4 := k4
      have h567 : es[i].kind = 5 ∨ es[i].kind = 6 ∨ es[i].kind = 7 := by
        rcases hk with h | h | h | h | h
        · exact absurd h k1
        · exact absurd h k2
        · exact absurd h k3
        · exact absurd h k4
        · exact h
      obtain ⟨k, hkl, hke⟩ := hk5 h567
      have hat : atN gs es[i].g.id = gs[k] := by rw [hke]; exact atN_get hkl
      have hsee0 : seeX ws gs state es[i] = if gs[k].frm = state ∨ gs[k].to = state then some (es[i].kind, es[i].day, gs[k].frm, gs[k].to, gs[k].worth) else none := by
        have hn1 : ¬ (es[i].kind = 1 ∨ es[i].kind = 2) := fun h => h.elim k1 k2
        have hn2 : ¬ (es[i].kind = 3 ∨ es[i].kind = 4) := fun h => h.elim k3 k4
        unfold seeX; rw [if_neg hn1, if_neg hn2, hat]
      have hw6 := ownsRow_only hgs o16 (by decide)
      obtain ⟨A6, c6, hv6, hr6, _⟩ := reads_of_owns hw6
      obtain ⟨b6, o6, hA6, hc6⟩ := Reads.elem Gift.len (by omega) hr6 hkl
      refine ⟨.slice A6 gs.length c6, cell_of_block (i := 4) (o16 _ _ _ _ hB (by decide)) (by show some s.vG = _; rw [hv6]), ?_⟩
      refine ⟨_, M6.cell 1 rfl rfl, ?_⟩
      refine ⟨(k : Int), by show IntKind.i64.wrap (es[i].g.id - 1) = _; rw [hke, fit ⟨by omega, by omega⟩]; omega, ?_⟩
      refine ⟨k, b6, o6, rfl, hkl, hA6, ?_⟩
      refine ⟨gs[k].cells, rfl, hc6, ?_⟩
      intro g12 w7 h7
      refine ⟨h7.ext, ?_⟩
      have M7 := M6.alloc h7
      refine ⟨rfl, _, _, M7.get 0 rfl, Nat.le_of_ble_eq_true rfl, rfl, ?_⟩
      intro w7' h7'
      have M7 : Mem w2 w7' [(g12, .cells gs[k].cells.toArray 37 (0, 0)), (g11, .cells (Sight.mk (N : Nat) es[i].kind es[i].day 0 0 0).cells.toArray 142 (0, 0)), (g10, .cells es[i].cells.toArray 39 (0, 0))] := M7.put 0 rfl h7'
      have hne2 : g12 ≠ g11 := by
        have := M7.nodup
        simp at this
        exact this.1.1
      have skip : (gs[k].frm ≠ state ∧ gs[k].to ≠ state) → NewL Sight.cells 142 6 w.heap.size w7' (.slice A' N c') (numS ((es.take (i + 1)).filterMap (seeX ws gs state))) := fun hne => by
        rw [hsnoc, hsee0, if_neg (by simp [hne.1, hne.2])]
        show NewL _ _ _ _ _ _ (numS (_ ++ []))
        rw [List.append_nil]
        exact ho.ext M7.ext
      refine ⟨_, M7.cell 0 rfl rfl, ?_⟩
      refine brE_ndec (fun c1 => ?a1) (fun c1 => ?a2)
    case' a1 =>
      have c1 : ¬ gs[k].frm = state := c1
      refine ⟨_, M7.cell 0 rfl rfl, ?_⟩
      refine brE_ndec (fun c2 => ?a3) (fun c2 => ?a4)
    case a3 =>
      have c2 : ¬ gs[k].to = state := c2
      refine ⟨_, next, ?_⟩
      exact ⟨(i + 1, .slice A' N c'), ⟨rfl, rfl, rfl, rfl, rfl, rfl, rfl, trivial⟩, ⟨hlti, hday1, skip ⟨c1, c2⟩, e2.trans M7.ext, only_trans o12 (only_ext _ M7.ext)⟩, by show es.length - (i + 1) < es.length - i; omega⟩
    case' a2 => have cc : gs[k].frm = state ∨ gs[k].to = state := .inl c1
    case' a4 => have cc : gs[k].frm = state ∨ gs[k].to = state := .inr c2
    case' a2 | a4 =>
      have hsee : seeX ws gs state es[i] = some (es[i].kind, es[i].day, gs[k].frm, gs[k].to, gs[k].worth) := by rw [hsee0, if_pos cc]
      refine ⟨fun q => q = g12, ?_⟩
      refine ⟨_, M7.cell 0 rfl rfl, ?_⟩
      refine ⟨.int .i64 gs[k].to, fun u hu => ⟨_, hu.cell rfl (M7.cell 0 (i := 3) rfl rfl), rfl⟩, ?_⟩
      refine ⟨.int .i64 gs[k].worth, fun u hu => ⟨_, hu.cell rfl (M7.cell 0 (i := 6) rfl rfl), rfl⟩, ?_⟩
      refine ⟨rfl, _, _, M7.get 1 rfl, Nat.le_of_ble_eq_true rfl, rfl, ?_⟩
      intro w8a h8a
      refine ⟨(Keep.refl _ w7').put h8a hne2.symm, ?_⟩
      refine ⟨rfl, _, _, h8a.here, Nat.le_of_ble_eq_true rfl, rfl, ?_⟩
      intro w8b h8b
      refine ⟨((Keep.refl _ w7').put h8a hne2.symm).put h8b hne2.symm, ?_⟩
      refine ⟨rfl, _, _, h8b.here, Nat.le_of_ble_eq_true rfl, rfl, ?_⟩
      intro w8 h8
      have M8 : Mem w2 w8 [(g11, .cells (Sight.mk (N : Nat) es[i].kind es[i].day gs[k].frm gs[k].to gs[k].worth).cells.toArray 142 (0, 0)), (g10, .cells es[i].cells.toArray 39 (0, 0))] := (((M7.put 1 rfl h8a).put 1 rfl h8b).put 1 rfl h8).tail
    all_goals
      refine ⟨_, rfl, M8.rd 0 rfl, ?_⟩
      intro g13 w9 h9
      have ho9 := ho.ext (M8.ext.trans h9.ext)
      refine ⟨rfl, rfl, rfl, w.heap.size, _, _, _, by unfold NewL at ho9; rw [hN] at ho9; exact ho9, Nat.le_trans e2.size (Nat.le_trans M8.ext.size h9.ext.size), Nat.le_of_ble_eq_true rfl, rfl, rfl, .inr ⟨g13, 0, rfl, Rd.of_block h9.here⟩, rfl, rfl, by omega, by simp only [maxLen]; omega, ?_⟩
      intro v' w10 ho10 hg10 hpl
      refine ⟨_, next, ?_⟩
      have e9 := e2.trans (M8.ext.trans h9.ext)
      unfold NewL at ho9
      rw [hN] at ho9
      refine ⟨(i + 1, v'), ⟨rfl, rfl, rfl, rfl, rfl, rfl, rfl, trivial⟩, ⟨hlti, hday1, ?_, app_ext e9 ho9 hg10, only_trans o12 (only_trans (only_ext _ (M8.ext.trans h9.ext)) (only_app ho9 hg10))⟩, by show es.length - (i + 1) < es.length - i; omega⟩
      show NewL Sight.cells 142 6 w.heap.size w10 v' (numS ((es.take (i + 1)).filterMap (seeX ws gs state)))
      rw [hsnoc, hsee]
      simp only [Option.toList_some]
      rw [numS_snoc]
      unfold NewL
      rw [List.length_append, List.flatMap_append, hN]
      have hlen : ((es.take i).filterMap (seeX ws gs state)).length = N := by rw [← hN, numS_length]
      rw [hlen]
      exact ho10
  · have hi : i = es.length := by have : ¬ (i : Int) < (es.length : Nat) := hge; omega
    refine ⟨?_, e2⟩
    rw [← hfin i (hstop hday fun hlt => by omega)]
    exact ho

end Go.Proofs.YtcnbpfecgokhiaaGreatDoor
