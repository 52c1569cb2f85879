/- a part of the proof: steps, walks and plain laws that the law below stands on; no condition. -/
import Derived.Test.YtcnbpfecgokhiaaGreatDoorDWl
import Derived.Test.YtcnbpfecgokhiaaGreatDoorDWf
set_option linter.unusedVariables false
set_option linter.unusedSimpArgs false
set_option linter.unnecessarySimpa false
set_option linter.unusedSectionVars false
namespace Go.Proofs.YtcnbpfecgokhiaaGreatDoor
open Go.Eng Go.RowKit

theorem front_addr {A : Option Addr} {c k : Nat} : (if c = 0 then A else A.map (·.add (0 * k))) = A := by
  split
  · rfl
  · cases A with
    | none => rfl
    | some a => obtain ⟨b, o, s⟩ := a; rw [Nat.zero_mul]; rfl

theorem Reads.frontE {α : Type} {enc : α → List Value} {k : Nat} (hk : ∀ x, (enc x).length = k) (k0 : 0 < k) {w : World} {A : Option Addr} {l : List α} {i : Nat} (h : Reads w A (l.flatMap enc)) : Reads w A ((l.take i).flatMap enc) := by
  have e : l.flatMap enc = (l.take i).flatMap enc ++ (l.drop i).flatMap enc := by rw [← List.flatMap_append, List.take_append_drop]
  rcases h with h | ⟨b, o, hA, hr⟩
  · left
    rw [e] at h
    exact (List.append_eq_nil_iff.1 h).1
  · refine .inr ⟨b, o, hA, fun j v hv => hr j v ?_⟩
    rw [e, List.getElem?_append_left (List.getElem?_eq_some_iff.1 hv).1]
    exact hv

theorem metW_of {x : Gift} (h : 0 ≤ x.worth ∧ x.worth ≤ 1000000000000) (id : Int) : 0 ≤ metW id x ∧ metW id x ≤ 1000000000000 := by
  unfold metW
  split <;> omega

theorem refMet_spec {w : World} {A : Option Addr} {gs : List Gift} {c : Nat} (h : HL Gift.cells w A gs c) (hb : ∀ x ∈ gs, 0 ≤ x.worth ∧ x.worth ≤ 1000000000000) (hl : gs.length ≤ 500) (id : Int) :
    CallsV C.P 105 #[.slice A gs.length c, .int .i64 id] w fun v w' => v = .int .i64 (metL gs id) ∧ Ext w w' := by
  refine callsV_of C_ok (args := [_, _]) (plans := []) Tryz.func105 rfl Tryz.ntmps105 (by kernel_rfl) (Nat.le_of_ble_eq_true rfl) ?_
  refine loopE C_ok (fun (p : Nat × Int) => [(0, .slice A gs.length c), (1, .int .i64 id), (5, .int .i64 p.2), (6, .int .i64 p.1)])
    (fun p w' => p.1 ≤ gs.length ∧ p.2 = metL (gs.take p.1) id ∧ Ext w w') (fun p => gs.length - p.1) (0, 0) ⟨rfl, rfl, rfl, rfl, trivial⟩ ⟨Nat.zero_le _, rfl, Ext.refl _⟩ ?_
  rintro ⟨i, n⟩ w1 ⟨hi', hn', e1⟩
  have hi : i ≤ gs.length := hi'
  have hn : n = metL (gs.take i) id := hn'
  clear hi' hn'
  refine brE_dec (fun hlt => ?_) (fun hge => ?_)
  · have hlti : i < gs.length := by have : (i : Int) < (gs.length : Nat) := hlt; omega
    obtain ⟨b, o, hAd, hc⟩ := (h.ext e1).at Gift.len (by omega) hlti
    have next : IntKind.i64.wrap ((i : Int) + 1) = ((i + 1 : Nat) : Int) := fit ⟨by omega, by omega⟩
    have hsucc : metL (gs.take (i + 1)) id = n + metW id gs[i] := by rw [List.take_succ_eq_append_getElem hlti, metL_snoc, hn]
    have nb := sum_bounds (metW id) 1000000000000 (gs.take i) fun x hx => metW_of (hb x (List.mem_of_mem_take hx)) id
    have nb' : 0 ≤ n ∧ n ≤ (gs.take i).length * 1000000000000 := by rw [hn]; exact nb
    rw [List.length_take] at nb'
    have wb := hb _ (List.getElem_mem hlti)
    have skip : metB id gs[i] = false → n = metL (gs.take (i + 1)) id := fun e => by rw [hsucc]; unfold metW; rw [e, if_neg (by decide)]; omega
    refine ⟨i, b, o, rfl, hlti, hAd, ?_⟩
    refine ⟨_, hc 9 _ rfl, ?_⟩
    refine brE_dec (fun c1 => ?_) (fun c1 => ?_)
    · have c1 : gs[i].returns = id := c1
      refine ⟨i, b, o, rfl, hlti, hAd, ?_⟩
      refine ⟨_, hc 7 _ rfl, ?_⟩
      refine brE_dec (fun c2 => ?_) (fun c2 => ?_)
      · have c2 : gs[i].state = 2 := c2
        refine ⟨i, b, o, rfl, hlti, hAd, ?_⟩
        refine ⟨_, hc 6 _ rfl, ?_⟩
        refine ⟨n + gs[i].worth, fit ⟨by omega, by omega⟩, ?_⟩
        refine ⟨_, next, ?_⟩
        exact ⟨(i + 1, n + gs[i].worth), ⟨rfl, rfl, rfl, rfl, trivial⟩, ⟨hlti, by rw [hsucc]; unfold metW metB; rw [if_pos (decide_eq_true ⟨c1, .inl c2⟩)], e1⟩, by show gs.length - (i + 1) < gs.length - i; omega⟩
      · have c2 : ¬ gs[i].state = 2 := c2
        refine ⟨i, b, o, rfl, hlti, hAd, ?_⟩
        refine ⟨_, hc 7 _ rfl, ?_⟩
        refine brE_dec (fun c3 => ?_) (fun c3 => ?_)
        · have c3 : gs[i].state = 4 := c3
          refine ⟨i, b, o, rfl, hlti, hAd, ?_⟩
          refine ⟨_, hc 6 _ rfl, ?_⟩
          refine ⟨n + gs[i].worth, fit ⟨by omega, by omega⟩, ?_⟩
          refine ⟨_, next, ?_⟩
          exact ⟨(i + 1, n + gs[i].worth), ⟨rfl, rfl, rfl, rfl, trivial⟩, ⟨hlti, by rw [hsucc]; unfold metW metB; rw [if_pos (decide_eq_true ⟨c1, .inr c3⟩)], e1⟩, by show gs.length - (i + 1) < gs.length - i; omega⟩
        · have c3 : ¬ gs[i].state = 4 := c3
          refine ⟨_, next, ?_⟩
          exact ⟨(i + 1, n), ⟨rfl, rfl, rfl, rfl, trivial⟩, ⟨hlti, skip (decide_eq_false fun e => e.2.elim c2 c3), e1⟩, by show gs.length - (i + 1) < gs.length - i; omega⟩
    · have c1 : ¬ gs[i].returns = id := c1
      refine ⟨_, next, ?_⟩
      exact ⟨(i + 1, n), ⟨rfl, rfl, rfl, rfl, trivial⟩, ⟨hlti, skip (decide_eq_false fun e => c1 e.1), e1⟩, by show gs.length - (i + 1) < gs.length - i; omega⟩
  · have hi : i = gs.length := by have : ¬ (i : Int) < (gs.length : Nat) := hge; omega
    rw [hi, List.take_length] at hn
    exact ⟨congrArg _ hn, e1⟩

/-! ### the marks -/
def markG (bs : List Gift) (g : Gift) : Gift := if g.state = 2 ∧ g.returns = 0 ∧ g.worth ≤ metL bs g.id then backG g else g
def markL (bs : List Gift) (i : Nat) : List Gift := (bs.take i).map (markG bs) ++ bs.drop i
theorem markL_length (bs : List Gift) (i : Nat) : (markL bs i).length = bs.length := by
  unfold markL; simp; omega
theorem markL_split {bs : List Gift} {i : Nat} (hi : i < bs.length) : markL bs i = (bs.take i).map (markG bs) ++ bs[i] :: bs.drop (i + 1) := by
  unfold markL
  rw [List.drop_eq_getElem_cons hi]
theorem markL_at {bs : List Gift} {i : Nat} (hi : i < bs.length) (h : i < (markL bs i).length) : (markL bs i)[i] = bs[i] := by
  have e : (markL bs i)[i]? = some bs[i] := by
    rw [markL_split hi, List.getElem?_append_right (by simp; omega)]
    simp [Nat.min_eq_left (Nat.le_of_lt hi)]
  rw [List.getElem?_eq_getElem h] at e
  exact Option.some.inj e
theorem markL_succ {bs : List Gift} {i : Nat} (hi : i < bs.length) : markL bs (i + 1) = (markL bs i).set i (markG bs bs[i]) := by
  have e : i - ((bs.take i).map (markG bs)).length = 0 := by simp; omega
  rw [markL_split hi, List.set_append_right _ _ (by simp; omega), e, List.set_cons_zero]
  unfold markL
  rw [List.take_succ_eq_append_getElem hi, List.map_append, List.append_assoc]; rfl
theorem markL_skip {bs : List Gift} {i : Nat} (hi : i < bs.length) (h : ¬ (bs[i].state = 2 ∧ bs[i].returns = 0 ∧ bs[i].worth ≤ metL bs bs[i].id)) : markL bs (i + 1) = markL bs i := by
  have hl : i < (markL bs i).length := by rw [markL_length]; exact hi
  rw [markL_succ hi]
  unfold markG
  rw [if_neg h, ← markL_at hi hl, List.set_getElem_self]
theorem markL_back {bs : List Gift} {i : Nat} (hi : i < bs.length) (h : bs[i].state = 2 ∧ bs[i].returns = 0 ∧ bs[i].worth ≤ metL bs bs[i].id) : markL bs (i + 1) = (markL bs i).set i (backG bs[i]) := by
  rw [markL_succ hi]
  unfold markG
  rw [if_pos h]
theorem markG_met (bs : List Gift) (id : Int) (g : Gift) : metW id (markG bs g) = metW id g := by
  unfold markG
  split
  · rename_i h
    unfold metW metB backG
    by_cases hr : g.returns = id
    · rw [if_pos (decide_eq_true ⟨hr, .inr rfl⟩), if_pos (decide_eq_true ⟨hr, .inl h.1⟩)]
    · rw [if_neg (fun e => hr (of_decide_eq_true e).1), if_neg (fun e => hr (of_decide_eq_true e).1)]
  · rfl
theorem markL_met (bs : List Gift) (i : Nat) (id : Int) : metL (markL bs i) id = metL bs id := by
  have : metL bs id = metL (bs.take i ++ bs.drop i) id := by rw [List.take_append_drop]
  rw [this]
  unfold metL markL
  rw [List.map_append, List.map_append, List.sum_append, List.sum_append, List.map_map]
  congr 2
  exact List.map_congr_left fun g _ => markG_met bs id g
theorem markG_worth (bs : List Gift) (g : Gift) : (markG bs g).worth = g.worth := by unfold markG; split <;> rfl
theorem markL_worth {bs : List Gift} (h : ∀ x ∈ bs, 0 ≤ x.worth ∧ x.worth ≤ 1000000000000) (i : Nat) : ∀ x ∈ markL bs i, 0 ≤ x.worth ∧ x.worth ≤ 1000000000000 := fun x hx => by
  unfold markL at hx
  rcases List.mem_append.1 hx with hx | hx
  · obtain ⟨y, hy, rfl⟩ := List.mem_map.1 hx
    rw [markG_worth]; exact h y (List.mem_of_mem_take hy)
  · exact h x (List.mem_of_mem_drop hx)
theorem markL_all (es : List Entry) : markL (baseL es) (baseL es).length = givenL es := by
  unfold markL givenL
  rw [List.take_length, List.drop_length, List.append_nil]; rfl
theorem unmark_worth (g : Gift) : (unmark g).worth = g.worth := by unfold unmark; split <;> rfl

theorem base_facts {es : List Entry} (hA : Acc es) : (baseL es).length = (giftL es).length ∧ ∀ x ∈ baseL es, 0 ≤ x.worth ∧ x.worth ≤ 1000000000000 := by
  have hB := acc_ok hA
  rw [hB.base]
  refine ⟨List.length_map .., fun x hx => ?_⟩
  obtain ⟨y, hy, rfl⟩ := List.mem_map.1 hx
  obtain ⟨i, hi, rfl⟩ := List.getElem_of_mem hy
  have := hB.gifts.worth i hi
  rw [unmark_worth]; omega

end Go.Proofs.YtcnbpfecgokhiaaGreatDoor

namespace Go.Proofs.YtcnbpfecgokhiaaGreatDoor
open Go.Eng Go.RowKit

set_option maxRecDepth 100000 in
theorem Given_spec {w : World} {A : Option Addr} {es : List Entry} {c : Nat} (h : HL Entry.cells w A es c) (hl : es.length ≤ 2 ^ 16) (hA : Acc es) :
    CallsV C.P 104 #[.agg #[.slice A es.length c]] w fun v w' => NewL Gift.cells 37 10 w.heap.size w' v (giftL es) ∧ Ext w w' := by
  refine callsV_of C_ok (args := [_]) (plans := plans104) Tryz.func104 rfl Tryz.ntmps104 (by kernel_rfl) (Nat.le_of_ble_eq_true rfl) ?_
  intro g1 w1 h1
  have M1 : Mem w w1 [(g1, .cells #[.slice A es.length c] 30 (0, 0))] := (Mem.start w).alloc h1
  refine loopE C_ok (fun (p : Nat × Value) => [(1, .pointer (some ⟨g1, 0, none⟩)), (3, p.2), (4, .int .i64 p.1)])
    (fun p w' => p.1 ≤ es.length ∧ NewL Gift.cells 37 10 w.heap.size w' p.2 (baseL (es.take p.1)) ∧ Mem w w' [(g1, .cells #[.slice A es.length c] 30 (0, 0))]) (fun p => es.length - p.1) (0, .slice none 0 0) ⟨rfl, rfl, rfl, trivial⟩
    ⟨Nat.zero_le _, newL_nil, M1⟩ ?_
  rintro ⟨i, v⟩ w2 ⟨hi', ho', M2'⟩
  have hi : i ≤ es.length := hi'
  have ho : NewL Gift.cells 37 10 w.heap.size w2 v (baseL (es.take i)) := ho'
  have M2 : Mem w w2 [(g1, .cells #[.slice A es.length c] 30 (0, 0))] := M2'
  clear hi' ho' M2'
  have hAi := acc_front hA i
  obtain ⟨hbl, hbw⟩ := base_facts hAi
  have hgl := (acc_ok hAi).gifts.len
  refine ⟨_, M2.cell 0 rfl rfl, ?_⟩
  refine brE_dec (fun hlt => ?_) (fun hge => ?_)
  · have hlti : i < es.length := by have : (i : Int) < (es.length : Nat) := hlt; omega
    obtain ⟨b, o, hAd, hc⟩ := (h.ext M2.ext).at Entry.len (by omega) hlti
    have next : IntKind.i64.wrap ((i : Int) + 1) = ((i + 1 : Nat) : Int) := fit ⟨by omega, by omega⟩
    have hsucc : baseL (es.take (i + 1)) = baseS (es.take i) (baseL (es.take i)) es[i] := by rw [List.take_succ_eq_append_getElem hlti, baseL_snoc]
    obtain ⟨sg, hdo⟩ := acc_at hA hlti
    refine ⟨_, M2.cell 0 rfl rfl, ?_⟩
    refine ⟨i, b, o, rfl, hlti, hAd, ?_⟩
    refine ⟨es[i].cells, rfl, hc, ?_⟩
    intro g5 w3 h3
    have M3 := M2.alloc h3
    refine ⟨rfl, _, _, M3.get 0 rfl, Nat.le_of_ble_eq_true rfl, rfl, ?_⟩
    intro w4 h4
    have M4 : Mem w w4 [(g5, .cells es[i].cells.toArray 39 (0, 0)), (g1, .cells #[.slice A es.length c] 30 (0, 0))] := M3.put 0 rfl h4
    have ho4 : NewL Gift.cells 37 10 w.heap.size w4 v (baseL (es.take i)) := ownsRow_put (ho.ext h3.ext) h4 (offrow (ho.ext h3.ext) h3.here (by decide))
    clear M3 h3 h4 ho
    refine ⟨_, M4.cell 0 rfl rfl, ?_⟩
    refine brE_dec (fun k5 => ?_) (fun k5 => ?_)
    · have k5 : es[i].kind = 5 := k5
      obtain ⟨hlen, hn, hcur⟩ := offer_facts k5 hdo
      have hrate := (acc_ok hAi).rate es[i].g.cur
      have hb : 0 ≤ es[i].g.n * rateL (es.take i) es[i].g.cur ∧ es[i].g.n * rateL (es.take i) es[i].g.cur ≤ 1000000 * 1000000 := ⟨Int.mul_nonneg (by omega) hrate.1, Int.mul_le_mul hn.2 hrate.2 hrate.1 (by omega)⟩
      refine ⟨es[i].g.cells, rfl, (M4.rd 0 rfl).part es[i].g_part, ?_⟩
      intro g6 w5 h5
      have M5 := M4.alloc h5
      refine ⟨rfl, _, _, M5.get 0 rfl, Nat.le_of_ble_eq_true rfl, rfl, ?_⟩
      intro w6 h6
      have M6 : Mem w w6 [(g6, .cells es[i].g.cells.toArray 37 (0, 0)), (g5, .cells es[i].cells.toArray 39 (0, 0)), (g1, .cells #[.slice A es.length c] 30 (0, 0))] := M5.put 0 rfl h6
      have ho6 : NewL Gift.cells 37 10 w.heap.size w6 v (baseL (es.take i)) := ho4.ext ((Mem.start w4).alloc h5 |>.put 0 rfl h6).ext
      have hg6n : g6 = w4.heap.size := h5.new
      clear M5 h5 h6
      refine ⟨_, M6.cell 0 rfl rfl, ?_⟩
      refine ⟨_, M6.cell 2 rfl rfl, ?_⟩
      refine ⟨0, i, rfl, rfl, Nat.zero_le _, by have := h.len; omega, ?_⟩
      refine ⟨_, M6.cell 0 rfl rfl, ?_⟩
      have hfr : HL Entry.cells w6 (if c = 0 then A else A.map (·.add (0 * 24))) (es.take i) c := by
        rw [front_addr]
        exact ⟨Reads.frontE Entry.len (by omega) (h.ext M6.ext).reads, by rw [List.length_take]; have := h.len; omega, by rw [List.length_take]; have := h.cap; omega⟩
      have hti : (es.take i).length = i := by rw [List.length_take]; omega
      have hcl := refRate_spec hfr (by omega) (k := es[i].g.cur) ⟨by omega, by omega⟩
      rw [hti] at hcl
      refine hcl.mono ?_
      rintro v7 w7 ⟨rfl, e7⟩
      refine ⟨e7, ?_⟩
      refine ⟨es[i].g.n * rateL (es.take i) es[i].g.cur, fit ⟨by omega, by omega⟩, ?_⟩
      have M7 := M6.grow e7
      have ho7 := ho6.ext e7
      refine ⟨rfl, _, _, M7.get 0 rfl, Nat.le_of_ble_eq_true rfl, rfl, ?_⟩
      intro w8 h8
      have M8 := M7.put 0 rfl h8
      refine ⟨rfl, _, _, M8.get 0 rfl, Nat.le_of_ble_eq_true rfl, rfl, ?_⟩
      intro w9 h9
      generalize hy : ({ es[i].g with worth := es[i].g.n * rateL (es.take i) es[i].g.cur, state := 1 } : Gift) = y
      have M9 : Mem w w9 [(g6, .cells y.cells.toArray 37 (0, 0)), (g5, .cells es[i].cells.toArray 39 (0, 0)), (g1, .cells #[.slice A es.length c] 30 (0, 0))] := by
        rw [← hy]; exact M8.put 0 rfl h9
      have hne6 : v.ownBlock ≠ some g6 := fun hv => by
        obtain ⟨_, cur, hcu⟩ := owns_at ho4 hv
        have := lt_of_heap hcu
        omega
      have ho9 : NewL Gift.cells 37 10 w.heap.size w9 v (baseL (es.take i)) := ownsRow_put (ownsRow_put ho7 h8 hne6) h9 hne6
      refine ⟨y.cells, rfl, M9.rd 0 rfl, ?_⟩
      intro g7 w10 h10
      have ho10 := ho9.ext h10.ext
      have M10 := M9.grow h10.ext
      refine ⟨rfl, rfl, rfl, w.heap.size, _, _, y.cells, ho10, M10.ext.size, Nat.le_of_ble_eq_true rfl, rfl, rfl, .inr ⟨g7, 0, rfl, Rd.of_block h10.here⟩, rfl, rfl, by omega, by simp only [maxLen]; omega, ?_⟩
      intro v11 w11 ho11 hg11 hpl
      have M11 : Mem w w11 [(g5, .cells es[i].cells.toArray 39 (0, 0)), (g1, .cells #[.slice A es.length c] 30 (0, 0))] := M10.tail.grown hg11 (fun k hk => (ho10.lt k hk).1) (fun p hp => by
        simp only [List.tail_cons, List.mem_cons, List.not_mem_nil, or_false] at hp
        rcases hp with rfl | rfl
        · exact fun e => offrow ho10 (M10.get 1 rfl) (by decide) e.symm
        · exact fun e => offrow ho10 (M10.get 2 rfl) (by decide) e.symm)
      refine ⟨_, M11.cell 0 rfl rfl, ?_⟩
      refine brE_dec (fun k6 => absurd (show es[i].kind = 6 from k6) (by omega)) (fun _ => ?_)
      refine ⟨_, M11.cell 0 rfl rfl, ?_⟩
      refine brE_dec (fun k7 => absurd (show es[i].kind = 7 from k7) (by omega)) (fun _ => ?_)
      refine ⟨_, next, ?_⟩
      refine ⟨(i + 1, v11), ⟨rfl, rfl, rfl, trivial⟩, ⟨hlti, ?_, M11.tail⟩, by show es.length - (i + 1) < es.length - i; omega⟩
      show NewL _ _ _ _ _ _ (baseL (es.take (i + 1)))
      have : baseS (es.take i) (baseL (es.take i)) es[i] = baseL (es.take i) ++ [y] := by unfold baseS; rw [if_pos k5, hy]
      rw [hsucc, this]
      unfold NewL
      rw [List.length_append, List.flatMap_append]
      simpa using ho11
    have k5 : ¬ es[i].kind = 5 := k5
    refine ⟨_, M4.cell 0 rfl rfl, ?_⟩
    refine brE_dec (fun k6 => ?_) (fun k6 => ?_)
    · have k6 : es[i].kind = 6 := k6
      obtain ⟨k, hlk, hid, hst⟩ := ans_parts (.inl k6) hdo
      have hlkb : k < (baseL (es.take i)).length := by omega
      obtain ⟨g, cap, cur, hv, hg, hb, hown, hrd, hput⟩ := row_openB (enc := Gift.cells) Gift.len (by omega) ho4 hlkb
      subst hv
      have hsub : IntKind.i64.wrap (es[i].g.id - 1) = (k : Int) := by rw [hid, fit ⟨by omega, by omega⟩]; omega
      refine ⟨_, M4.cell 0 rfl rfl, ?_⟩
      refine ⟨(k : Int), hsub, ?_⟩
      refine ⟨k, g, 0, rfl, hlkb, rfl, ?_⟩
      refine ⟨(baseL (es.take i))[k].cells, rfl, hrd, ?_⟩
      intro g6 w5 h5
      have M5 := M4.alloc h5
      refine ⟨rfl, _, _, M5.get 0 rfl, Nat.le_of_ble_eq_true rfl, rfl, ?_⟩
      intro w6 h6
      have M6 := M5.put 0 rfl h6
      refine ⟨_, M6.cell 1 rfl rfl, ?_⟩
      refine ⟨rfl, _, _, M6.get 0 rfl, Nat.le_of_ble_eq_true rfl, rfl, ?_⟩
      intro w7 h7
      have M7 := M6.put 0 rfl h7
      refine ⟨rfl, _, _, M7.get 0 rfl, Nat.le_of_ble_eq_true rfl, rfl, ?_⟩
      intro w8 h8
      have M8 := M7.put 0 rfl h8
      refine ⟨_, M8.cell 1 rfl rfl, ?_⟩
      refine brE_dec (fun k7 => absurd (show es[i].kind = 7 from k7) (by omega)) (fun _ => ?_)
      have M8 : Mem w w8 [(g6, .cells (takeG es[i].day (baseL (es.take i))[k]).cells.toArray 37 (0, 0)), (g5, .cells es[i].cells.toArray 39 (0, 0)), (g1, .cells #[.slice A es.length c] 30 (0, 0))] := M8
      have e49 : Ext w4 w8 := ((Mem.start w4).alloc h5 |>.put 0 rfl h6 |>.put 0 rfl h7 |>.put 0 rfl h8).ext
      have hne : g ≠ g6 := fun e => by have := lt_of_heap hg; rw [e, h5.new] at this; omega
      have ho9 := ho4.ext e49
      obtain ⟨g', cap', cur', hv', hg', hb', hown', hrd', hput'⟩ := row_openB (enc := Gift.cells) Gift.len (by omega) ho9 hlkb
      cases hv'
      refine ⟨_, M8.cell 1 rfl rfl, ?_⟩
      refine ⟨(k : Int), hsub, ?_⟩
      refine ⟨(takeG es[i].day (baseL (es.take i))[k]).cells, rfl, M8.rd 0 rfl, ?_⟩
      refine ⟨k, g, 0, rfl, hlkb, rfl, ?_⟩
      refine ⟨rfl, _, _, hg', by show 0 + k * 10 + 10 ≤ _; omega, rfl, ?_⟩
      intro w10 h10
      have hrow := hput' 0 _ (takeG es[i].day (baseL (es.take i))[k]) w10 rfl (Nat.le_of_ble_eq_true rfl) h10
      have hgn : w.heap.size ≤ g := (ho4.lt g rfl).1
      have M10 : Mem w w10 [(g1, .cells #[.slice A es.length c] 30 (0, 0))] := by
        have Ma : Mem w w8 [(g, .cells cur'.toArray 37 (0, 0)), (g1, .cells #[.slice A es.length c] 30 (0, 0))] := M8.tail.tail.add hg' hgn (fun p hp => by
          simp only [List.tail_cons, List.mem_cons, List.not_mem_nil, or_false] at hp
          rw [hp]
          intro e
          have e : g1 = g := e
          have := M8.get 2 rfl
          rw [e, hg'] at this
          simp at this)
        exact (Ma.put 0 rfl h10).tail
      refine ⟨_, next, ?_⟩
      refine ⟨(i + 1, _), ⟨rfl, rfl, rfl, trivial⟩, ⟨by show i + 1 ≤ es.length; omega, ?_, M10⟩, by show es.length - (i + 1) < es.length - i; omega⟩
      show NewL _ _ _ _ _ _ (baseL (es.take (i + 1)))
      have : baseS (es.take i) (baseL (es.take i)) es[i] = (baseL (es.take i)).set k (takeG es[i].day (baseL (es.take i))[k]) := by unfold baseS; rw [if_neg k5, if_pos k6, hid, updAt_eq hlkb]
      rw [hsucc, this]
      exact hrow
    have k6 : ¬ es[i].kind = 6 := k6
    refine ⟨_, M4.cell 0 rfl rfl, ?_⟩
    refine brE_dec (fun k7 => ?_) (fun k7 => ?_)
    · have k7 : es[i].kind = 7 := k7
      obtain ⟨k, hlk, hid, hst⟩ := ans_parts (.inr k7) hdo
      have hlkb : k < (baseL (es.take i)).length := by omega
      obtain ⟨g, cap, cur, hv, hg, hb, hown, hrd, hput⟩ := row_openB (enc := Gift.cells) Gift.len (by omega) ho4 hlkb
      subst hv
      have hsub : IntKind.i64.wrap (es[i].g.id - 1) = (k : Int) := by rw [hid, fit ⟨by omega, by omega⟩]; omega
      refine ⟨_, M4.cell 0 rfl rfl, ?_⟩
      refine ⟨(k : Int), hsub, ?_⟩
      refine ⟨k, g, 0, rfl, hlkb, rfl, ?_⟩
      refine ⟨(baseL (es.take i))[k].cells, rfl, hrd, ?_⟩
      intro g6 w5 h5
      have M5 := M4.alloc h5
      refine ⟨rfl, _, _, M5.get 0 rfl, Nat.le_of_ble_eq_true rfl, rfl, ?_⟩
      intro w6 h6
      have M6 := M5.put 0 rfl h6
      refine ⟨_, M6.cell 1 rfl rfl, ?_⟩
      refine ⟨rfl, _, _, M6.get 0 rfl, Nat.le_of_ble_eq_true rfl, rfl, ?_⟩
      intro w7 h7
      have M7 := M6.put 0 rfl h7
      refine ⟨rfl, _, _, M7.get 0 rfl, Nat.le_of_ble_eq_true rfl, rfl, ?_⟩
      intro w8 h8
      have M8 := M7.put 0 rfl h8
      refine ⟨_, M8.cell 1 rfl rfl, ?_⟩
      refine brE_dec (fun _ => ?_) (fun h7 => absurd k7 h7)
      refine ⟨rfl, _, _, M8.get 0 rfl, Nat.le_of_ble_eq_true rfl, rfl, ?_⟩
      intro w9 h9
      have M9 : Mem w w9 [(g6, .cells (refuseG es[i].day (baseL (es.take i))[k]).cells.toArray 37 (0, 0)), (g5, .cells es[i].cells.toArray 39 (0, 0)), (g1, .cells #[.slice A es.length c] 30 (0, 0))] := M8.put 0 rfl h9
      have e49 : Ext w4 w9 := ((Mem.start w4).alloc h5 |>.put 0 rfl h6 |>.put 0 rfl h7 |>.put 0 rfl h8 |>.put 0 rfl h9).ext
      have hne : g ≠ g6 := fun e => by have := lt_of_heap hg; rw [e, h5.new] at this; omega
      have ho9 := ho4.ext e49
      obtain ⟨g', cap', cur', hv', hg', hb', hown', hrd', hput'⟩ := row_openB (enc := Gift.cells) Gift.len (by omega) ho9 hlkb
      cases hv'
      refine ⟨_, M9.cell 1 rfl rfl, ?_⟩
      refine ⟨(k : Int), hsub, ?_⟩
      refine ⟨(refuseG es[i].day (baseL (es.take i))[k]).cells, rfl, M9.rd 0 rfl, ?_⟩
      refine ⟨k, g, 0, rfl, hlkb, rfl, ?_⟩
      refine ⟨rfl, _, _, hg', by show 0 + k * 10 + 10 ≤ _; omega, rfl, ?_⟩
      intro w10 h10
      have hrow := hput' 0 _ (refuseG es[i].day (baseL (es.take i))[k]) w10 rfl (Nat.le_of_ble_eq_true rfl) h10
      have hgn : w.heap.size ≤ g := (ho4.lt g rfl).1
      have M10 : Mem w w10 [(g1, .cells #[.slice A es.length c] 30 (0, 0))] := by
        have Ma : Mem w w9 [(g, .cells cur'.toArray 37 (0, 0)), (g1, .cells #[.slice A es.length c] 30 (0, 0))] := M9.tail.tail.add hg' hgn (fun p hp => by
          simp only [List.tail_cons, List.mem_cons, List.not_mem_nil, or_false] at hp
          rw [hp]
          intro e
          have e : g1 = g := e
          have := M9.get 2 rfl
          rw [e, hg'] at this
          simp at this)
        exact (Ma.put 0 rfl h10).tail
      refine ⟨_, next, ?_⟩
      refine ⟨(i + 1, _), ⟨rfl, rfl, rfl, trivial⟩, ⟨by show i + 1 ≤ es.length; omega, ?_, M10⟩, by show es.length - (i + 1) < es.length - i; omega⟩
      show NewL _ _ _ _ _ _ (baseL (es.take (i + 1)))
      have : baseS (es.take i) (baseL (es.take i)) es[i] = (baseL (es.take i)).set k (refuseG es[i].day (baseL (es.take i))[k]) := by unfold baseS; rw [if_neg k5, if_neg k6, if_pos k7, hid, updAt_eq hlkb]
      rw [hsucc, this]
      exact hrow
    have k7 : ¬ es[i].kind = 7 := k7
    refine ⟨_, next, ?_⟩
    refine ⟨(i + 1, v), ⟨rfl, rfl, rfl, trivial⟩, ⟨hlti, ?_, M4.tail⟩, by show es.length - (i + 1) < es.length - i; omega⟩
    show NewL _ _ _ _ _ _ (baseL (es.take (i + 1)))
    have : baseS (es.take i) (baseL (es.take i)) es[i] = baseL (es.take i) := by unfold baseS; rw [if_neg k5, if_neg k6, if_neg k7]
    rw [hsucc, this]
    exact ho4
  · have hie : i = es.length := by have : ¬ (i : Int) < (es.length : Nat) := hge; omega
    rw [hie, List.take_length] at ho
    rw [hie, List.take_length] at hbl hbw hgl
    have hlast : markL (baseL es) (baseL es).length = giftL es := (markL_all es).trans (given_eq hA)
    generalize baseL es = bs at *
    obtain ⟨Av, cv, rfl, _, _⟩ := reads_of_owns ho
    refine loopE C_ok (fun (j : Nat) => [(3, .slice Av bs.length cv), (8, .int .i64 j)])
      (fun j w' => j ≤ bs.length ∧ NewL Gift.cells 37 10 w.heap.size w' (.slice Av bs.length cv) (markL bs j) ∧ Ext w w') (fun j => bs.length - j) 0 ⟨rfl, rfl, trivial⟩ ⟨Nat.zero_le _, ho, M2.ext⟩ ?_
    rintro j w5 ⟨hj, hoj, e5⟩
    have hlj := markL_length bs j
    refine brE_dec (fun hlt2 => ?_) (fun hge2 => ?_)
    · have hltj : j < bs.length := by have : (j : Int) < (bs.length : Nat) := hlt2; omega
      have hltm : j < (markL bs j).length := by omega
      have next2 : IntKind.i64.wrap ((j : Int) + 1) = ((j + 1 : Nat) : Int) := fit ⟨by omega, by omega⟩
      obtain ⟨g, cap, cur, hv, hg, hb, hown, hrd, hput⟩ := row_openB (enc := Gift.cells) Gift.len (by omega) hoj hltm
      rw [markL_at hltj hltm] at hrd
      injection hv with hv1 hv2 hv3
      subst hv1
      refine ⟨j, g, 0, rfl, hltj, rfl, ?_⟩
      refine ⟨_, hrd 7 _ rfl, ?_⟩
      refine brE_dec (fun c1 => ?_) (fun c1 => ?_)
      · have c1 : bs[j].state = 2 := c1
        refine ⟨j, g, 0, rfl, hltj, rfl, ?_⟩
        refine ⟨_, hrd 9 _ rfl, ?_⟩
        refine brE_dec (fun c2 => ?_) (fun c2 => ?_)
        · have c2 : bs[j].returns = 0 := c2
          refine ⟨j, g, 0, rfl, hltj, rfl, ?_⟩
          refine ⟨_, hrd 0 _ rfl, ?_⟩
          refine ⟨j, g, 0, rfl, hltj, rfl, ?_⟩
          refine ⟨_, hrd 6 _ rfl, ?_⟩
          obtain ⟨Ah, ch, hvh, hhl⟩ := hoj.hl
          injection hvh with hvh1 hvh2 hvh3
          subst hvh1 hvh3
          have hcl := refMet_spec hhl (markL_worth hbw j) (by omega) bs[j].id
          rw [hlj, markL_met] at hcl
          refine hcl.mono ?_
          rintro v6 w6 ⟨rfl, e6⟩
          refine ⟨e6, ?_⟩
          refine brE_dec (fun c3 => ?_) (fun c3 => ?_)
          · have c3 : bs[j].worth ≤ metL bs bs[j].id := c3
            have hoj6 := hoj.ext e6
            obtain ⟨g', cap', cur', hv', hg', hb', hown', hrd', hput'⟩ := row_openB (enc := Gift.cells) Gift.len (by omega) hoj6 hltm
            injection hv' with hw1 hw2 hw3
            injection hw1 with hw1
            injection hw1 with hw1
            subst hw1
            refine ⟨j, g, 0, rfl, hltj, rfl, ?_⟩
            refine ⟨rfl, _, _, hg', by show 0 + j * 10 + 7 + 1 ≤ _; omega, rfl, ?_⟩
            intro w7 h7
            have hrow := hput' 7 _ (backG bs[j]) w7 (by rw [markL_at hltj hltm]; rfl) (Nat.le_of_ble_eq_true rfl) h7
            refine ⟨_, next2, ?_⟩
            refine ⟨j + 1, ⟨rfl, rfl, trivial⟩, ⟨hltj, ?_, h7.ext_of (e5.trans e6) (hoj.lt g rfl).1⟩, by show bs.length - (j + 1) < bs.length - j; omega⟩
            rw [markL_back hltj ⟨c1, c2, c3⟩]
            exact hrow
          · have c3 : ¬ bs[j].worth ≤ metL bs bs[j].id := c3
            refine ⟨_, next2, ?_⟩
            exact ⟨j + 1, ⟨rfl, rfl, trivial⟩, ⟨hltj, by rw [markL_skip hltj fun e => c3 e.2.2]; exact hoj.ext e6, e5.trans e6⟩, by show bs.length - (j + 1) < bs.length - j; omega⟩
        · have c2 : ¬ bs[j].returns = 0 := c2
          refine ⟨_, next2, ?_⟩
          exact ⟨j + 1, ⟨rfl, rfl, trivial⟩, ⟨hltj, by rw [markL_skip hltj fun e => c2 e.2.1]; exact hoj, e5⟩, by show bs.length - (j + 1) < bs.length - j; omega⟩
      · have c1 : ¬ bs[j].state = 2 := c1
        refine ⟨_, next2, ?_⟩
        exact ⟨j + 1, ⟨rfl, rfl, trivial⟩, ⟨hltj, by rw [markL_skip hltj fun e => c1 e.1]; exact hoj, e5⟩, by show bs.length - (j + 1) < bs.length - j; omega⟩
    · have hje : j = bs.length := by have : ¬ (j : Int) < (bs.length : Nat) := hge2; omega
      rw [hje, hlast] at hoj
      exact ⟨hoj, e5⟩

end Go.Proofs.YtcnbpfecgokhiaaGreatDoor
