/- a part of the proof: steps, walks and plain laws that the law below stands on; no condition. -/
import Derived.Test.YtcnbpfecgokhiaaGreatDoorDSa
import Derived.Test.YtcnbpfecgokhiaaGreatDoorDSb
import Derived.Test.YtcnbpfecgokhiaaGreatDoorDSc
import Derived.Test.YtcnbpfecgokhiaaGreatDoorDSd
import Derived.Test.YtcnbpfecgokhiaaGreatDoorDSe
import Derived.Test.YtcnbpfecgokhiaaGreatDoorDSf
import Derived.Scope
import Derived.Laws.StructEq
import Derived.Lib.AtoiAllCases
import Derived.Lib.AtoiTie
import Derived.Lib.ItoaLen
import Derived.Lib.Join
set_option linter.unusedVariables false
set_option linter.unusedSimpArgs false
set_option linter.unnecessarySimpa false
set_option linter.unusedSectionVars false
namespace Go.Proofs.YtcnbpfecgokhiaaGreatDoor
open Go.Eng Go.RowKit
open Go.Maps (Keyed)
theorem numV_getD (n : Int) : (numV n).getD (.int .i64 0) = .int .i64 n := by
  unfold numV
  split
  · rename_i h; rw [h]; rfl
  · rfl
theorem numV_some (n : Int) : (numV n).isSome = !decide (n = 0) := by
  unfold numV
  split
  · rename_i h; rw [h]; rfl
  · rename_i h; rw [decide_eq_false h]; rfl
theorem worth_spec {w : World} {s : SV} {es : List Entry} (h : StateIs w s es) {x : Gift} (hr : 0 ≤ rateL es x.cur ∧ rateL es x.cur ≤ 1000000) (hn : 1 ≤ x.n ∧ x.n ≤ 1000000) (hc : 0 ≤ x.cur ∧ x.cur ≤ 255) :
    CallsV C.P 183 #[.pointer (some ⟨s.gs, 0, none⟩), x.val] w fun v w' => v = .int .i64 (x.n * rateL es x.cur) ∧ Ext w w' := by
  refine callsV_of C_ok (args := [_, _]) (plans := plans183) Tryz.func183 rfl Tryz.ntmps183 (by kernel_rfl) (Nat.le_of_ble_eq_true rfl) ?_
  intro g1 w1 h1
  have M1 : Mem w w1 [(g1, .cells x.cells.toArray 37 (0, 0))] := (Mem.start w).alloc h1
  have hs := h.ext M1.ext
  obtain ⟨f, hm, hf⟩ := hs.rates
  have hb : 0 ≤ x.n * rateL es x.cur ∧ x.n * rateL es x.cur ≤ 1000000 * 1000000 := ⟨Int.mul_nonneg (by omega) hr.1, Int.mul_le_mul hn.2 hr.2 hr.1 (by omega)⟩
  refine ⟨_, M1.cell 0 rfl rfl, ?_⟩
  refine ⟨_, cell_of_block (i := 0) hs.block rfl, ?_⟩
  refine ⟨_, M1.cell 0 rfl rfl, ?_⟩
  refine ⟨x.cur, fit ⟨by omega, by omega⟩, ?_⟩
  refine ⟨.int .i64 (rateL es x.cur), mapGet1 C_ok (te := ty3) (x := .int .i64 x.cur) (intKey ⟨by omega, by omega⟩) hm intK rfl rfl rfl rfl rfl rfl (by rw [hf]; exact numV_getD _), ?_⟩
  refine ⟨x.n * rateL es x.cur, fit ⟨by omega, by omega⟩, ?_⟩
  exact ⟨rfl, M1.ext⟩
theorem offer_facts {sg : Int} {es : List Entry} {x : Entry} (hk : x.kind = 5) (hx : doE sg es x = 0) : (giftL es).length < 500 ∧ (1 ≤ x.g.n ∧ x.g.n ≤ 1000000) ∧ (1 ≤ x.g.cur ∧ x.g.cur ≤ 2) := by
  obtain ⟨hf, hl, hr⟩ := do_zero hx
  obtain ⟨hok, _, _⟩ := form_okE hf
  unfold refusedE at hr
  rw [if_neg (by omega), if_neg (by omega), if_pos hk] at hr
  unfold offeredE at hr
  split at hr
  · cases hr
  rename_i r1
  rw [okE_5 hk] at hok
  unfold rightG at hok
  simp only [Bool.and_eq_true, decide_eq_true_eq] at hok
  exact ⟨by omega, hok.1.2, hok.1.1.2⟩
set_option maxRecDepth 100000 in
theorem offer_spec {w : World} {s : SV} {es : List Entry} {x : Entry} {sg : Int} (h : StateIs w s es) (hA : Acc es) (hk : x.kind = 5) (hx : x.Nums) (hdo : doE sg es x = 0) :
    CallsV C.P 158 (#[] ++ [.pointer (some ⟨s.gs, 0, none⟩), x.val].toArray ++ #[]) w fun _ w' => StGo w s (es ++ [x]) w' := by
  obtain ⟨hlen, hn, hcur⟩ := offer_facts hk hdo
  have hrate := (acc_ok hA).rate x.g.cur
  refine callsV_of C_ok (args := [_, _]) (plans := plans158) Tryz.func158 rfl Tryz.ntmps158 (by kernel_rfl) (Nat.le_of_ble_eq_true rfl) ?_
  intro g1 w1 h1
  have M1 : Mem w w1 [(g1, .cells x.cells.toArray 39 (0, 0))] := (Mem.start w).alloc h1
  refine ⟨x.g.cells, rfl, (M1.rd 0 rfl).part x.g_part, ?_⟩
  intro g2 w2 h2
  have M2 := M1.alloc h2
  refine ⟨rfl, _, _, M2.get 0 rfl, Nat.le_of_ble_eq_true rfl, rfl, ?_⟩
  intro w3 h3
  have M3 : Mem w w3 [(g2, .cells x.g.cells.toArray 37 (0, 0)), (g1, .cells x.cells.toArray 39 (0, 0))] := M2.put 0 rfl h3
  have hs3 := h.ext M3.ext
  refine ⟨x.g.cells, rfl, M3.rd 0 rfl, ?_⟩
  refine (worth_spec hs3 hrate hn ⟨by omega, by omega⟩).mono ?_
  rintro _ w3' ⟨rfl, e3⟩
  have M3' := M3.grow e3
  refine ⟨rfl, _, _, M3'.get 0 rfl, Nat.le_of_ble_eq_true rfl, rfl, ?_⟩
  intro w3a h3a
  have M3a := M3'.put 0 rfl h3a
  refine ⟨rfl, _, _, M3a.get 0 rfl, Nat.le_of_ble_eq_true rfl, rfl, ?_⟩
  intro w3b h3b
  generalize hy : ({ x.g with worth := x.g.n * rateL es x.g.cur, state := 1 } : Gift) = y
  have M3b : Mem w w3b [(g2, .cells y.cells.toArray 37 (0, 0)), (g1, .cells x.cells.toArray 39 (0, 0))] := by
    rw [← hy]; exact M3a.put 0 rfl h3b
  have hs3b := h.ext M3b.ext
  refine ⟨_, cell_of_block (i := 4) hs3b.block rfl, ?_⟩
  refine ⟨y.cells, rfl, M3b.rd 0 rfl, ?_⟩
  intro g4 w4 h4
  refine ⟨h4.ext, ?_⟩
  have M4 := M3b.alloc h4
  have hs4 := h.ext M4.ext
  refine ⟨rfl, rfl, rfl, 0, _, _, y.cells, hs4.gifts, Nat.zero_le _, Nat.le_of_ble_eq_true rfl, rfl, rfl, .inr ⟨g4, 0, rfl, Rd.of_block h4.here⟩, rfl, rfl, by omega, by simp only [maxLen]; omega, ?_⟩
  intro v5 w5 ho5 hg5 hpl
  obtain ⟨A5, c5, rfl, _, _⟩ := reads_of_owns ho5
  have lt4 : ∀ k, s.has k → k < w4.heap.size := fun k hk => hs4.lt hk
  have hW : ∀ k, s.vG.ownBlock = some k → k ≠ s.gs ∧ k ≠ s.bR ∧ k ≠ s.bC ∧ k ≠ s.bD ∧ k ≠ s.bM ∧ s.vW.ownBlock ≠ some k := fun k hk => h.apartG hk
  have same5 : ∀ k, s.has k → s.vG.ownBlock ≠ some k → w5.heap[k]? = w.heap[k]? := fun k hk hne => by
    rw [hg5.block k (lt4 k hk) (fun e => hne e.symm), M4.ext.block k (h.lt hk)]
  have hb5 : w5.heap[s.gs]? = some (.cells s.cells.toArray 125 (0, 0)) := by
    rw [same5 _ (.inl rfl) (fun e => (hW _ e).1 rfl)]; exact h.block
  refine ⟨rfl, _, _, hb5, Nat.le_of_ble_eq_true rfl, rfl, ?_⟩
  intro w6 h6
  generalize hs' : (SV.mk s.gs s.bR s.bC s.bD s.bM s.vW (.slice A5 ((giftL es).length + 1) c5)) = s'
  have h6 : Put w5 s.gs (.cells s'.cells.toArray 125 (0, 0)) w6 := by rw [← hs']; exact h6
  have same6 : ∀ k, s.has k → s.vG.ownBlock ≠ some k → k ≠ s.gs → w6.heap[k]? = w.heap[k]? := fun k hk hne hng => by rw [h6.there k hng, same5 k hk hne]
  have hnd := h.nodup
  have hnd' : [s'.gs, s'.bR, s'.bC, s'.bD, s'.bM].Nodup := by rw [← hs']; exact hnd
  simp only [List.nodup_cons, List.mem_cons, List.not_mem_nil, or_false, not_or, not_false_eq_true, List.nodup_nil, and_true] at hnd
  have hG : giftL (es ++ [x]) = giftL es ++ [y] := by rw [(offer_gift hk hdo).1, hy]
  have hmy : ∀ c, metW c y = 0 := fun c => by
    unfold metW metB
    rw [if_neg]
    rw [← hy]; simp
  refine ⟨s', by rw [← hs'], ⟨?_, ?_, ?_, ?_, ?_, ?_, ?_, hnd'⟩, ((keep_ext M4.ext).grown hg5 (fun k hk hn => hn (.inr (.inr (.inr (.inr (.inr (.inr hk)))))))).put h6 (fun hn => hn (.inl rfl)), fun k hk => ?_⟩
  · rw [show s'.gs = s.gs by rw [← hs']]; exact h6.here
  · obtain ⟨f, hm, hf⟩ := h.rates
    rw [← hs']
    exact ⟨f, hm.same (same6 _ (.inr (.inl rfl)) (fun e => (hW _ e).2.1 rfl) (by omega)), fun c => by rw [plain_rate (by omega)]; exact hf c⟩
  · obtain ⟨f, hm, hf⟩ := h.ceils
    rw [← hs']
    exact ⟨f, hm.same (same6 _ (.inr (.inr (.inl rfl))) (fun e => (hW _ e).2.2.1 rfl) (by omega)), fun c => by rw [plain_ceil (by omega)]; exact hf c⟩
  · rw [plain_waivs (by omega), ← hs']
    exact owns_same h.waivs fun k hk => same6 k (.inr (.inr (.inr (.inr (.inr (.inl hk)))))) (h.apartW hk).2.2.2.2.2 (h.apartW hk).1
  · rw [plain_dues (by omega), ← hs']
    exact h.dues.same (same6 _ (.inr (.inr (.inr (.inl rfl)))) (fun e => (hW _ e).2.2.2.1 rfl) (by omega))
  · rw [hG, ← hs', List.length_append, List.flatMap_append]
    have := ownsRow_put ho5 h6 (fun e => by
      obtain ⟨_, cur, hc⟩ := owns_at ho5 e
      rw [hb5] at hc; simp at hc)
    simpa using this
  · obtain ⟨f, hm, hf⟩ := h.mets
    rw [← hs']
    exact ⟨f, hm.same (same6 _ (.inr (.inr (.inr (.inr (.inl rfl))))) (fun e => (hW _ e).2.2.2.2.1 rfl) (by omega)), fun c hc => by rw [hG, metL_snoc, hmy, Int.add_zero]; exact hf c hc⟩
  · rw [← hs'] at hk
    rcases hk with hk | hk | hk | hk | hk | hk | hk
    · exact .inl (.inl hk)
    · exact .inl (.inr (.inl hk))
    · exact .inl (.inr (.inr (.inl hk)))
    · exact .inl (.inr (.inr (.inr (.inl hk))))
    · exact .inl (.inr (.inr (.inr (.inr (.inl hk)))))
    · exact .inl (.inr (.inr (.inr (.inr (.inr (.inl hk))))))
    · rcases hpl.2 k hk with h | h
      · exact .inl (.inr (.inr (.inr (.inr (.inr (.inr h))))))
      · exact .inr (Nat.le_trans M4.ext.size h)
end Go.Proofs.YtcnbpfecgokhiaaGreatDoor
namespace Go.Proofs.YtcnbpfecgokhiaaGreatDoor
open Go.Eng Go.RowKit
open Go.Maps (Keyed)
/-- A part of a state's gifts is written: the rest is as it was. -/
theorem gifts_put {w w' : World} {s : SV} {es es' : List Entry} {x : Entry} {g : Nat} (h : StateIs w s es) (hk : x.kind = 6 ∨ x.kind = 7) (he : es' = es ++ [x]) (hown : s.vG.ownBlock = some g) (hput : ∀ k, s.has k → k ≠ g → k ≠ s.bM → w'.heap[k]? = w.heap[k]?)
    (hrow : w'.ownsRow 0 37 10 s.vG (giftL es').length ((giftL es').flatMap Gift.cells)) (hmet : ∃ f, MapIs C.P 3 w' s.bM f ∧ ∀ c, c ≠ 0 → f (.int .i64 c) = numV (metL (giftL es') c)) : StateIs w' s es' := by
  subst he
  have hG := h.apartG hown
  have hnd := h.nodup
  simp only [List.nodup_cons, List.mem_cons, List.not_mem_nil, or_false, not_or, not_false_eq_true, List.nodup_nil, and_true] at hnd
  refine ⟨?_, ?_, ?_, ?_, ?_, hrow, hmet, h.nodup⟩
  · rw [hput _ (.inl rfl) hG.1.symm (by omega)]; exact h.block
  · obtain ⟨f, hm, hf⟩ := h.rates
    exact ⟨f, hm.same (hput _ (.inr (.inl rfl)) hG.2.1.symm (by omega)), fun c => by rw [plain_rate (by omega)]; exact hf c⟩
  · obtain ⟨f, hm, hf⟩ := h.ceils
    exact ⟨f, hm.same (hput _ (.inr (.inr (.inl rfl))) hG.2.2.1.symm (by omega)), fun c => by rw [plain_ceil (by omega)]; exact hf c⟩
  · rw [plain_waivs (by omega)]
    exact owns_same h.waivs fun q hq => hput q (.inr (.inr (.inr (.inr (.inr (.inl hq)))))) (fun e => hG.2.2.2.2.2 (by rw [← e]; exact hq)) (h.apartW hq).2.2.2.2.1
  · rw [plain_dues (by omega)]
    exact h.dues.same (hput _ (.inr (.inr (.inr (.inl rfl)))) hG.2.2.2.1.symm (by omega))
theorem metW_off {c : Int} {g : Gift} (h : g.state = 1 ∨ g.state = 3) : metW c g = 0 := by
  unfold metW metB
  rw [if_neg]
  simp only [decide_eq_true_eq]
  omega
theorem metW_on {c : Int} {g : Gift} (h : g.state = 2 ∨ g.state = 4) : metW c g = if g.returns = c then g.worth else 0 := by
  unfold metW metB
  by_cases hr : g.returns = c
  · rw [if_pos hr, if_pos (decide_eq_true ⟨hr, h⟩)]
  · rw [if_neg hr, if_neg (fun e => hr (of_decide_eq_true e).1)]
set_option maxRecDepth 100000 in
theorem refuse_spec {w : World} {s : SV} {es : List Entry} {x : Entry} {sg : Int} (h : StateIs w s es) (hA : Acc es) (hk : x.kind = 7) (hx : x.Nums) (hdo : doE sg es x = 0) :
    CallsV C.P 160 (#[] ++ [.pointer (some ⟨s.gs, 0, none⟩), x.val].toArray ++ #[]) w fun _ w' => StGo w s (es ++ [x]) w' := by
  obtain ⟨k, hlk, hid, hst⟩ := ans_parts (.inr hk) hdo
  have hgl := (acc_ok hA).gifts.len
  refine callsV_of C_ok (args := [_, _]) (plans := plans160) Tryz.func160 rfl Tryz.ntmps160 (by kernel_rfl) (Nat.le_of_ble_eq_true rfl) ?_
  intro g1 w1 h1
  have M1 : Mem w w1 [(g1, .cells x.cells.toArray 39 (0, 0))] := (Mem.start w).alloc h1
  have hs := h.ext M1.ext
  obtain ⟨g, cap, cur, hv, hg, hb, hown, hrd, hput⟩ := row_open Gift.len (by omega) hs.gifts hlk
  have hne : g1 ≠ g := fun e => by
    have := h.lt (k := g) (.inr (.inr (.inr (.inr (.inr (.inr hown))))))
    have := M1.new 0 rfl
    omega
  refine ⟨.slice (some ⟨g, 0, none⟩) (giftL es).length cap, cell_of_block (i := 4) hs.block (by show some s.vG = _; rw [hv]), ?_⟩
  refine ⟨_, M1.cell 0 rfl rfl, ?_⟩
  refine ⟨(k : Int), by show IntKind.i64.wrap (x.g.id - 1) = _; rw [hid, fit ⟨by omega, by omega⟩]; omega, ?_⟩
  refine ⟨k, g, 0, rfl, hlk, rfl, ?_⟩
  refine ⟨fun q => q = g1, ?_⟩
  refine ⟨.int .i64 x.day, fun u hu => ⟨_, hu.cell rfl (M1.cell 0 (i := 1) rfl rfl), rfl⟩, ?_⟩
  refine ⟨rfl, _, _, hg, by show 0 + k * 10 + 7 + 1 ≤ _; omega, rfl, ?_⟩
  intro w2 h2
  refine ⟨(Keep.refl _ w1).put h2 hne.symm, ?_⟩
  have hrow := hput 7 _ { (giftL es)[k] with state := 3 } w2 rfl (Nat.le_of_ble_eq_true rfl) h2
  have hk2 : k < ((giftL es).set k { (giftL es)[k] with state := 3 }).length := by simpa using hlk
  obtain ⟨g', cap', cur', hv', hg', hb', hown', hrd', hput'⟩ := row_open Gift.len (by omega) hrow hk2
  have egg : g' = g := by rw [hown] at hown'; exact (Option.some.inj hown').symm
  subst egg
  refine ⟨rfl, _, _, hg', by show 0 + k * 10 + 8 + 1 ≤ _; omega, rfl, ?_⟩
  intro w3 h3
  have hrow3 := hput' 8 _ (refuseG x.day (giftL es)[k]) w3 (by rw [List.getElem_set_self]; rfl) (Nat.le_of_ble_eq_true rfl) h3
  rw [List.set_set] at hrow3
  refine ⟨s, rfl, gifts_put (x := x) h (.inr hk) rfl hown (fun q hq hne _ => by rw [h3.there q hne, h2.there q hne, M1.ext.block q (h.lt hq)]) (by rw [gift_refuse hk hlk hid]; exact hrow3) (by
    obtain ⟨f, hm, hf⟩ := h.mets
    have hbm : s.bM ≠ g' := (h.apartG hown).2.2.2.2.1.symm
    exact ⟨f, hm.same (by rw [h3.there _ hbm, h2.there _ hbm, M1.ext.block _ (h.lt (.inr (.inr (.inr (.inr (.inl rfl))))))]), fun c hc => by
      rw [gift_refuse hk hlk hid, metL_set hlk, metW_off (.inl hst), metW_off (g := refuseG x.day (giftL es)[k]) (.inr rfl), Int.sub_zero, Int.add_zero]; exact hf c hc⟩),
    (((keep_ext M1.ext).put h2 (fun hn => hn (.inr (.inr (.inr (.inr (.inr (.inr hown)))))))).put h3 (fun hn => hn (.inr (.inr (.inr (.inr (.inr (.inr hown)))))))), fun k hk => .inl hk⟩
/-- What a gift that is taken adds to what met a debt. -/
theorem met_take {gs : List Gift} {k : Nat} (hk : k < gs.length) (hst : gs[k].state = 1) (d c : Int) : metL (gs.set k (takeG d gs[k])) c = if gs[k].returns = c then metL gs c + gs[k].worth else metL gs c := by
  rw [metL_set hk, metW_off (.inl hst), metW_on (g := takeG d gs[k]) (.inl rfl)]
  show metL gs c - 0 + (if gs[k].returns = c then gs[k].worth else 0) = _
  split <;> omega
theorem met_back {gs : List Gift} {j : Nat} (hj : j < gs.length) (hst : gs[j].state = 2 ∨ gs[j].state = 4) (c : Int) : metL (gs.set j (backG gs[j])) c = metL gs c := by
  rw [metL_set hj, metW_on hst, metW_on (g := backG gs[j]) (.inr rfl)]
  show metL gs c - (if gs[j].returns = c then gs[j].worth else 0) + (if gs[j].returns = c then gs[j].worth else 0) = _
  omega
set_option maxRecDepth 100000 in
set_option maxHeartbeats 2000000 in
theorem take_spec {w : World} {s : SV} {es : List Entry} {x : Entry} {sg : Int} (h : StateIs w s es) (hA : Acc es) (hk : x.kind = 6) (hx : x.Nums) (hdo : doE sg es x = 0) :
    CallsV C.P 159 (#[] ++ [.pointer (some ⟨s.gs, 0, none⟩), x.val].toArray ++ #[]) w fun _ w' => StGo w s (es ++ [x]) w' := by
  obtain ⟨k, hlk, hid, hst⟩ := ans_parts (.inl hk) hdo
  have hGok := (acc_ok hA).gifts
  have hgl := hGok.len
  have hgift := gift_take hk hlk hid
  refine callsV_of C_ok (args := [_, _]) (plans := plans159) Tryz.func159 rfl Tryz.ntmps159 (by kernel_rfl) (Nat.le_of_ble_eq_true rfl) ?_
  intro g1 w1 h1
  have M1 : Mem w w1 [(g1, .cells x.cells.toArray 39 (0, 0))] := (Mem.start w).alloc h1
  have hs := h.ext M1.ext
  obtain ⟨g, cap, cur, hv, hg, hb, hown, hrd, hput⟩ := row_open Gift.len (by omega) hs.gifts hlk
  have hne : g1 ≠ g := fun e => by
    have := h.lt (k := g) (.inr (.inr (.inr (.inr (.inr (.inr hown))))))
    have := M1.new 0 rfl
    omega
  refine ⟨.slice (some ⟨g, 0, none⟩) (giftL es).length cap, cell_of_block (i := 4) hs.block (by show some s.vG = _; rw [hv]), ?_⟩
  refine ⟨_, M1.cell 0 rfl rfl, ?_⟩
  refine ⟨(k : Int), by show IntKind.i64.wrap (x.g.id - 1) = _; rw [hid, fit ⟨by omega, by omega⟩]; omega, ?_⟩
  refine ⟨k, g, 0, rfl, hlk, rfl, ?_⟩
  refine ⟨fun q => q = g1, ?_⟩
  refine ⟨.int .i64 x.day, fun u hu => ⟨_, hu.cell rfl (M1.cell 0 (i := 1) rfl rfl), rfl⟩, ?_⟩
  refine ⟨rfl, _, _, hg, by show 0 + k * 10 + 7 + 1 ≤ _; omega, rfl, ?_⟩
  intro w2 h2
  refine ⟨(Keep.refl _ w1).put h2 hne.symm, ?_⟩
  have hrow := hput 7 _ { (giftL es)[k] with state := 2 } w2 rfl (Nat.le_of_ble_eq_true rfl) h2
  have hk2 : k < ((giftL es).set k { (giftL es)[k] with state := 2 }).length := by simpa using hlk
  obtain ⟨g', cap', cur', hv', hg', hb', hown', hrd', hput'⟩ := row_open Gift.len (by omega) hrow hk2
  have egg : g' = g := by rw [hown] at hown'; exact (Option.some.inj hown').symm
  subst egg
  refine ⟨rfl, _, _, hg', by show 0 + k * 10 + 8 + 1 ≤ _; omega, rfl, ?_⟩
  intro w3 h3
  have hrow3 := hput' 8 _ (takeG x.day (giftL es)[k]) w3 (by rw [List.getElem_set_self]; rfl) (Nat.le_of_ble_eq_true rfl) h3
  rw [List.set_set] at hrow3
  clear hput hput' hrd' hv' hg' hb' hown' hrow hb hg hrd
  have hG := h.apartG hown
  have same3 : ∀ q, s.has q → q ≠ g' → w3.heap[q]? = w.heap[q]? := fun q hq hne => by rw [h3.there q hne, h2.there q hne, M1.ext.block q (h.lt hq)]
  have keep3 : Keep (fun k => ¬ s.has k) w w3 := (((keep_ext M1.ext).put h2 (fun hn => hn (.inr (.inr (.inr (.inr (.inr (.inr hown)))))))).put h3 (fun hn => hn (.inr (.inr (.inr (.inr (.inr (.inr hown))))))))
  have hmt := met_take hlk hst x.day
  generalize hgs : (giftL es).set k (takeG x.day (giftL es)[k]) = gs at *
  have hkg : k < gs.length := by rw [← hgs]; simpa using hlk
  have hgl2 : gs.length = (giftL es).length := by rw [← hgs]; simp
  have egk : gs[k] = takeG x.day (giftL es)[k] := by simp [← hgs]
  obtain ⟨ga, ca, cua, hva, hga, hba, howna, hrda, hputa⟩ := row_open Gift.len (by omega) hrow3 hkg
  have ega : ga = g' := by rw [hown] at howna; exact (Option.some.inj howna).symm
  subst ega
  rw [egk] at hrda
  have hb3 : w3.heap[s.gs]? = some (.cells s.cells.toArray 125 (0, 0)) := by rw [same3 _ (.inl rfl) hG.1.symm]; exact h.block
  obtain ⟨f, hm, hf⟩ := h.mets
  have hm3 : MapIs C.P 3 w3 s.bM f := hm.same (same3 _ (.inr (.inr (.inr (.inr (.inl rfl))))) hG.2.2.2.2.1.symm)
  refine ⟨_, hrda 9 _ rfl, ?_⟩
  refine brE_dec (fun r0 => ?_) (fun r0 => ?_)
  · have r0 : (giftL es)[k].returns = 0 := r0
    rw [r0] at hgift
    simp only [if_true] at hgift
    refine ⟨s, rfl, gifts_put (x := x) h (.inl hk) rfl hown (fun q hq hne _ => same3 q hq hne) (by rw [hgift]; exact hrow3) ⟨f, hm3, fun c hc => by rw [hgift, hmt, if_neg (by omega)]; exact hf c hc⟩, keep3, fun k hk => .inl hk⟩
  have r0 : (giftL es)[k].returns ≠ 0 := r0
  rcases hGok.refs k hlk with hr0 | ⟨j, hj, hr1, hjk, hj2, hj3, hj4⟩
  · exact absurd hr0 r0
  have hjg : j < gs.length := by omega
  have egj : gs[j] = (giftL es)[j] := by simp only [← hgs]; rw [List.getElem_set_ne (fun e => hjk e.symm)]
  have hmb := metL_bounds hGok (giftL es)[k].returns
  have hwk := hGok.worth k hlk
  have hr64 : In64 (giftL es)[k].returns := ⟨by omega, by omega⟩
  refine ⟨_, cell_of_block (i := 5) hb3 rfl, ?_⟩
  refine ⟨_, hrda 9 _ rfl, ?_⟩
  refine ⟨.int .i64 (metL (giftL es) (giftL es)[k].returns), mapGet1 C_ok (te := ty3) (x := .int .i64 (giftL es)[k].returns) (intKey hr64) hm3 intK rfl rfl rfl rfl rfl rfl (by rw [hf _ r0]; exact numV_getD _), ?_⟩
  refine ⟨_, hrda 6 _ rfl, ?_⟩
  refine ⟨metL (giftL es) (giftL es)[k].returns + (giftL es)[k].worth, fit (show In64 (metL (giftL es) (giftL es)[k].returns + (giftL es)[k].worth) from ⟨by omega, by omega⟩), ?_⟩
  refine mapPut C_ok rfl rfl (x := .int .i64 (giftL es)[k].returns) rfl rfl rfl rfl intK (intKey hr64) hm3 ?_
  intro o4 w4 h4 hm4
  have hf4 : ∀ c, c ≠ 0 → updV f (.int .i64 (giftL es)[k].returns) (.int .i64 (metL (giftL es) (giftL es)[k].returns + (giftL es)[k].worth)) (.int .i64 c) = numV (metL gs c) := fun c hc => by
    unfold updV
    rw [hmt]
    by_cases he : (giftL es)[k].returns = c
    · subst he
      rw [if_pos rfl, if_pos rfl, numV, if_neg (by omega)]
    · rw [if_neg (fun e => he (by injection e with _ e; exact e.symm)), if_neg he]; exact hf c hc
  have hgm : ga ≠ s.bM := hG.2.2.2.2.1
  have hb4 : w4.heap[s.gs]? = some (.cells s.cells.toArray 125 (0, 0)) := by
    rw [h4.there _ (by have hnd := h.nodup; simp only [List.nodup_cons, List.mem_cons, List.not_mem_nil, or_false, not_or, not_false_eq_true, List.nodup_nil, and_true] at hnd; omega)]; exact hb3
  have hrow4 : w4.ownsRow 0 37 10 s.vG gs.length (gs.flatMap Gift.cells) := ownsRow_put hrow3 h4 (fun e => hgm (by rw [hown] at e; exact Option.some.inj e))
  have keep4 : Keep (fun k => ¬ s.has k) w w4 := keep3.put h4 (fun hn => hn (.inr (.inr (.inr (.inr (.inl rfl))))))
  have same4 : ∀ q, s.has q → q ≠ ga → q ≠ s.bM → w4.heap[q]? = w.heap[q]? := fun q hq h5 h6 => by rw [h4.there q h6, same3 q hq h5]
  obtain ⟨gb, cb, cub, hvb, hgb, hbb, hownb, hrdb, hputb⟩ := row_open Gift.len (by omega) hrow4 hjg
  have egb : gb = ga := by rw [hown] at hownb; exact (Option.some.inj hownb).symm
  subst egb
  obtain ⟨gc, cc, cuc, _, _, _, hownc, hrdc, _⟩ := row_open Gift.len (by omega) hrow4 hkg
  have egc : gc = gb := by rw [hown] at hownc; exact (Option.some.inj hownc).symm
  subst egc
  rw [egk] at hrdc
  refine ⟨.slice (some ⟨gc, 0, none⟩) gs.length cb, cell_of_block (i := 4) hb4 (by show some s.vG = _; rw [hvb]), ?_⟩
  refine ⟨_, hrdc 9 _ rfl, ?_⟩
  refine ⟨(j : Int), by show IntKind.i64.wrap ((giftL es)[k].returns - 1) = _; rw [hr1, fit ⟨by omega, by omega⟩]; omega, ?_⟩
  refine ⟨j, gc, 0, rfl, hjg, rfl, ?_⟩
  refine ⟨_, cell_of_block (i := 5) hb4 rfl, ?_⟩
  refine ⟨_, hrdc 9 _ rfl, ?_⟩
  refine ⟨.int .i64 (metL gs (giftL es)[k].returns), mapGet1 C_ok (te := ty3) (x := .int .i64 (giftL es)[k].returns) (intKey hr64) hm4 intK rfl rfl rfl rfl rfl rfl (by rw [hf4 _ r0]; exact numV_getD _), ?_⟩
  refine ⟨.int .i64 gs[j].worth, hrdb 6 _ rfl, ?_⟩
  simp only at hgift
  rw [if_neg r0, hr1, atN_get hjg, ← hr1] at hgift
  refine brE_dec (fun c1 => ?_) (fun c1 => ?_)
  · have c1 : gs[j].worth ≤ metL gs (giftL es)[k].returns := c1
    rw [if_pos c1, hr1, updAt_eq hjg] at hgift
    refine ⟨rfl, _, _, hgb, by show 0 + j * 10 + 7 + 1 ≤ _; omega, rfl, ?_⟩
    intro w5 h5
    have hrow5 := hputb 7 _ (backG gs[j]) w5 rfl (Nat.le_of_ble_eq_true rfl) h5
    refine ⟨s, rfl, gifts_put (x := x) h (.inl hk) rfl hown (fun q hq h6 h7 => by rw [h5.there q h6, same4 q hq h6 h7]) (by rw [hgift]; exact hrow5) ⟨_, hm4.same (h5.there _ hgm.symm), fun c hc => by rw [hgift, met_back hjg (by rw [egj]; exact hj3)]; exact hf4 c hc⟩,
      keep4.put h5 (fun hn => hn (.inr (.inr (.inr (.inr (.inr (.inr hown))))))), fun k hk => .inl hk⟩
  · have c1 : ¬ gs[j].worth ≤ metL gs (giftL es)[k].returns := c1
    rw [if_neg c1] at hgift
    exact ⟨s, rfl, gifts_put (x := x) h (.inl hk) rfl hown same4 (by rw [hgift]; exact hrow4) ⟨_, hm4, fun c hc => by rw [hgift]; exact hf4 c hc⟩, keep4, fun k hk => .inl hk⟩
end Go.Proofs.YtcnbpfecgokhiaaGreatDoor
namespace Go.Proofs.YtcnbpfecgokhiaaGreatDoor
open Go.Eng Go.RowKit
open Go.Maps (Keyed)
/-- What the blocks of a state are. -/
theorem StateIs.kind {w : World} {s : SV} {es : List Entry} (h : StateIs w s es) {k : Nat} (hk : s.has k) : (∃ a b, w.heap[k]? = some (.map a b)) ∨ ∃ c t fr, w.heap[k]? = some (.cells c t fr) ∧ (t = 125 ∨ t = 35 ∨ t = 37) := by
  rcases hk with rfl | rfl | rfl | rfl | rfl | hk | hk
  · exact .inr ⟨_, _, _, h.block, .inl rfl⟩
  · obtain ⟨f, hm, _⟩ := h.rates; exact .inl (map_at hm)
  · obtain ⟨f, hm, _⟩ := h.ceils; exact .inl (map_at hm)
  · exact .inl (mapL_at h.dues)
  · obtain ⟨f, hm, _⟩ := h.mets; exact .inl (map_at hm)
  · obtain ⟨_, cur, e⟩ := owns_at h.waivs hk; exact .inr ⟨_, _, _, e, .inr (.inl rfl)⟩
  · obtain ⟨_, cur, e⟩ := owns_at h.gifts hk; exact .inr ⟨_, _, _, e, .inr (.inr rfl)⟩
theorem StateIs.off {w : World} {s : SV} {es : List Entry} (h : StateIs w s es) {k t : Nat} {c : Array Value} {fr : Nat × Nat} (hk : w.heap[k]? = some (.cells c t fr)) (h1 : t ≠ 125) (h2 : t ≠ 35) (h3 : t ≠ 37) : ¬ s.has k := fun hs => by
  rcases h.kind hs with ⟨a, b, e⟩ | ⟨c', t', fr', e, ht⟩
  · rw [hk] at e; cases e
  · rw [hk] at e
    simp at e
    rcases ht with ht | ht | ht
    · exact h1 (e.2.1.trans ht)
    · exact h2 (e.2.1.trans ht)
    · exact h3 (e.2.1.trans ht)
theorem keep_trans {D E : Nat → Prop} {a b c : World} (h : Keep D a b) (k : Keep E b c) (hd : ∀ q, D q → q < a.heap.size → E q) : Keep D a c :=
  ⟨k.os.trans h.os, k.tape.trans h.tape, k.output.trans h.output, Nat.le_trans h.size k.size, fun q hD hq => (k.block q (hd q hD hq) (Nat.lt_of_lt_of_le hq h.size)).trans (h.block q hD hq)⟩
theorem StGo.trans {w w1 w2 : World} {s : SV} {es es' : List Entry} (h : StGo w s es w1) (k : ∀ s1, s1.gs = s.gs → StateIs w1 s1 es → StGo w1 s1 es' w2) : StGo w s es' w2 := by
  obtain ⟨s1, hg, hs, hk, hn⟩ := h
  obtain ⟨s2, hg2, hs2, hk2, hn2⟩ := k s1 hg hs
  refine ⟨s2, hg2.trans hg, hs2, keep_trans hk hk2 (fun q hq hlt h1 => ?_), fun q hq => ?_⟩
  · rcases hn q h1 with h | h
    · exact hq h
    · omega
  · rcases hn2 q hq with h | h
    · exact hn q h
    · exact .inr (Nat.le_trans hk.size h)
/-- The numbers of a row's cells, from a bound on. -/
theorem owns_from {w : World} {base base' e size n : Nat} {v : Value} {xs : List Value} (h : w.ownsRow base e size v n xs) (hb : ∀ k, v.ownBlock = some k → base' ≤ k) : w.ownsRow base' e size v n xs := by
  obtain ⟨hl, hv | ⟨g, cap, cur, hv, _, h1⟩⟩ := h
  · exact ⟨hl, .inl hv⟩
  · exact ⟨hl, .inr ⟨g, cap, cur, hv, hb g (by rw [hv]; rfl), h1⟩⟩
structure LV where
  gl : Nat
  vE : Value
  s : SV
def LV.ptr (l : LV) : Value := .pointer (some ⟨l.gl, 0, none⟩)
def LV.cells (l : LV) : List Value := [l.vE, .pointer (some ⟨l.s.gs, 0, none⟩)]
def LV.has (l : LV) (k : Nat) : Prop := k = l.gl ∨ l.vE.ownBlock = some k ∨ l.s.has k
structure LedgerIs (w : World) (l : LV) (es : List Entry) : Prop where
  block : w.heap[l.gl]? = some (.cells l.cells.toArray 112 (0, 0))
  row : w.ownsRow 0 39 24 l.vE es.length (es.flatMap Entry.cells)
  st : StateIs w l.s es
  acc : Acc es
  nums : ∀ x ∈ es, x.Nums
theorem LedgerIs.lt {w : World} {l : LV} {es : List Entry} (h : LedgerIs w l es) {k : Nat} (hk : l.has k) : k < w.heap.size := by
  rcases hk with rfl | hk | hk
  · exact lt_of_heap h.block
  · obtain ⟨_, cur, e⟩ := owns_at h.row hk; exact lt_of_heap e
  · exact h.st.lt hk
theorem LedgerIs.keep {w w' : World} {l : LV} {es : List Entry} (h : LedgerIs w l es) (hs : ∀ k, l.has k → w'.heap[k]? = w.heap[k]?) : LedgerIs w' l es :=
  ⟨by rw [hs _ (.inl rfl)]; exact h.block, owns_same h.row fun k hk => hs k (.inr (.inl hk)), h.st.keep fun k hk => hs k (.inr (.inr hk)), h.acc, h.nums⟩
theorem LedgerIs.ext {w w' : World} {l : LV} {es : List Entry} (h : LedgerIs w l es) (e : Ext w w') : LedgerIs w' l es := h.keep fun _ hk => e.block _ (h.lt hk)
theorem LedgerIs.offS {w : World} {l : LV} {es : List Entry} (h : LedgerIs w l es) : ¬ l.s.has l.gl := h.st.off h.block (by decide) (by decide) (by decide)
theorem LedgerIs.offE {w : World} {l : LV} {es : List Entry} (h : LedgerIs w l es) {k : Nat} (hk : l.vE.ownBlock = some k) : ¬ l.s.has k ∧ k ≠ l.gl := by
  obtain ⟨_, cur, e⟩ := owns_at h.row hk
  refine ⟨h.st.off e (by decide) (by decide) (by decide), fun he => ?_⟩
  rw [he, h.block] at e
  simp at e
/-- What becomes of a ledger. -/
def LdGo (w : World) (l : LV) (es : List Entry) (w' : World) : Prop := ∃ l', l'.gl = l.gl ∧ LedgerIs w' l' es ∧ Keep (fun k => ¬ l.has k) w w' ∧ ∀ k, l'.has k → l.has k ∨ w.heap.size ≤ k
theorem LdGo.ext {w w' : World} {l : LV} {es : List Entry} (h : LedgerIs w l es) (e : Ext w w') : LdGo w l es w' := ⟨l, rfl, h.ext e, keep_ext e, fun _ hk => .inl hk⟩
theorem LdGo.trans {w w1 w2 : World} {l : LV} {es es' : List Entry} (h : LdGo w l es w1) (k : ∀ l1, l1.gl = l.gl → LedgerIs w1 l1 es → LdGo w1 l1 es' w2) : LdGo w l es' w2 := by
  obtain ⟨s1, hg, hs, hk, hn⟩ := h
  obtain ⟨s2, hg2, hs2, hk2, hn2⟩ := k s1 hg hs
  refine ⟨s2, hg2.trans hg, hs2, keep_trans hk hk2 (fun q hq hlt h1 => ?_), fun q hq => ?_⟩
  · rcases hn q h1 with h | h
    · exact hq h
    · omega
  · rcases hn2 q hq with h | h
    · exact hn q h
    · exact .inr (Nat.le_trans hk.size h)
/-- A ledger made since a world: all that was there is as it was. -/
structure LdNew (w0 w : World) (l : LV) (es : List Entry) : Prop where
  is : LedgerIs w l es
  new : ∀ k, l.has k → w0.heap.size ≤ k
  ext : Ext w0 w
theorem LdNew.go {w0 w w' : World} {l : LV} {es es' : List Entry} (h : LdNew w0 w l es) (k : LdGo w l es' w') : ∃ l', l'.gl = l.gl ∧ LdNew w0 w' l' es' := by
  obtain ⟨l', hg, hi, hk, hn⟩ := k
  refine ⟨l', hg, hi, fun q hq => ?_, ⟨hk.os.trans h.ext.os, hk.tape.trans h.ext.tape, hk.output.trans h.ext.output, Nat.le_trans h.ext.size hk.size, fun q hq => ?_⟩⟩
  · rcases hn q hq with h1 | h1
    · exact h.new q h1
    · exact Nat.le_trans h.ext.size h1
  · rw [hk.block q (fun h1 => by have := h.new q h1; omega) (Nat.lt_of_lt_of_le hq h.ext.size)]
    exact h.ext.block q hq
theorem LdNew.then {w0 w w' : World} {l : LV} {es : List Entry} (h : LdNew w0 w l es) (e : Ext w w') : LdNew w0 w' l es := ⟨h.is.ext e, h.new, h.ext.trans e⟩
end Go.Proofs.YtcnbpfecgokhiaaGreatDoor
namespace Go.Eng
open Go.RowKit
open Go.Maps (Keyed)
section
variable {C : Cfg}
theorem LoudRun.same {o o' : Oper} {l : Env} {w : World} {Q : Value → World → Prop} (h : ∀ ρ, execOp ρ o = execOp ρ o') (k : LoudRun C o' l w Q) : LoudRun C o l w Q := by
  intro ρ hρ w₁ hs
  rw [h ρ]
  exact k ρ hρ w₁ hs
theorem insPut (hC : C.Ok) {o : Oper} {t : Nat} {m ix xv : Operand} {l : Env} {w : World} {b k e : Nat} {x v : Value} {lx : Lit} {ti : TI} {f : Value → Option Value} (K : Keyed C.P k) (hkey : keyOf C.P k x = some lx) (hM : MapIs C.P k w b f)
    (ho : o.op = .insert t m ix xv) (hm : evo l m = some (.map (some b))) (hx : evo l ix = some x) (hv : evo l xv = some v) (hti : C.ti t = some ti) (hd : ti.d = .map k e)
    {Q : Value → World → Prop} (h : ∀ o' w', Put w b o' w' → MapIs C.P k w' b (updV f x v) → Q undef w') : LoudRun C o l w Q :=
  LoudRun.same (o' := { o with op := .mapUpdate t m ix xv }) (fun ρ => by unfold execOp; rw [ho]) (mapPut hC rfl hm hx hv hti hd K hkey hM h)
/-- The pair that the last step of a walk handed out. -/
def WalkAt (w : World) (b r : Nat) (p : Value × Value) : Prop :=
  ∃ (es : Array MapEntry) (clk since : Nat) (seen : Array Nat) (e : MapEntry), w.heap[b]? = some (.map es clk) ∧ w.heap[r]? = some (.mapIter (some b) since (seen.push e.born) clk) ∧ e ∈ es.toList ∧ (es.toList.map MapEntry.born).Nodup ∧ p = (e.key, e.val)
theorem WalkAt.ext {w w' : World} {b r : Nat} {p : Value × Value} (h : WalkAt w b r p) (x : Ext w w') : WalkAt w' b r p := by
  obtain ⟨es, clk, since, seen, e, h1, h2, h3⟩ := h
  exact ⟨es, clk, since, seen, e, x.heap h1, x.heap h2, h3⟩
theorem walkNextE (hC : C.Ok) {o : Oper} {it : Operand} {l : Env} {w : World} {b r : Nat} {D : List (Value × Value)} (hW : Walks w b r D) (hne : b ≠ r)
    (ho : o.op = .next it false) (hit : evo l it = some (.pointer (some ⟨r, 0, none⟩)))
    {Q : Value → World → Prop} (h0 : D = [] → Q (.tuple #[.bool false]) w) (h1 : ∀ p D', D.Perm (p :: D') → ∀ o' w', Put w r o' w' → Walks w' b r D' → WalkAt w' b r p → Q (.tuple #[.bool true, p.1, p.2]) w') : LoudRun C o l w Q := by
  intro ρ hρ w₁ hs
  obtain ⟨es, clk, since, seen, c0, hb, hr, hold, hbn, hsc, hsk, hp⟩ := hW
  have hb1 : w₁.heap[b]? = some (.map es clk) := by rw [hs.heap]; exact hb
  have hr1 : w₁.heap[r]? = some (.mapIter (some b) since seen c0) := by rw [hs.heap]; exact hr
  have exec : ∀ v w2, (Instr.next (.pointer (some ⟨r, 0, none⟩)) false o.type).run C.P w₁ = .ok v w2 → (execOp ρ o).run C.P w₁ = .ok (.value v) w2 := fun v w2 hh => by
    unfold execOp
    rw [ho]
    simp only [hρ _ _ hit]
    simp [hh]
  rcases run_next_at (P := C.P) w₁ o.type r b since c0 seen es clk hr1 hb1 hold hsc with ⟨hz, hrun⟩ | ⟨e, he, w1, hal, hrun⟩
  · refine ⟨_, w, w₁, .inl (exec _ _ hrun), h0 ?_, hs⟩
    have : (leftOf es seen).toList = [] := by rw [Array.toList_eq_nil_iff]; exact Array.eq_empty_of_size_eq_zero hz
    rw [left_toList] at this
    rw [this] at hp
    exact hp.symm.eq_nil
  · rw [left_toList] at he
    obtain ⟨hem, hes⟩ := List.mem_filter.1 he
    have hs1 : Same w w1 := by
      rcases hal with rfl | rfl
      · exact hs
      · exact hs.drew
    have hput : Put w r (.mapIter (some b) since (seen.push e.born) clk) (Go.ChangeMaps.setBlock w1 r (.mapIter (some b) since (seen.push e.born) clk)) := put_setObj hs1 hr
    have hfil := pick_perm seen hbn hem (by simpa using hes)
    have hb2 := (hput.there b hne).trans hb
    refine ⟨_, _, _, .inl (exec _ _ hrun), h1 (e.key, e.val) ((es.toList.filter fun x => !(seen.push e.born).contains x.born).map fun e => (e.key, e.val)) (hp.symm.trans (by have := hfil.map (fun e : MapEntry => (e.key, e.val)); exact this)) _ _ hput ?_ ?_, Same.refl _⟩
    · exact ⟨es, clk, since, seen.push e.born, clk, hb2, hput.here, hold, hbn, hsk, hsk, List.Perm.refl _⟩
    · exact ⟨es, clk, since, seen, e, hb2, hput.here, hem, hbn, rfl⟩
theorem entryQ {o : Oper} {it : Operand} {l : Env} {w : World} {b r : Nat} {p : Value × Value} (hW : WalkAt w b r p) (ho : o.op = .entry it) (hit : evo l it = some (.pointer (some ⟨r, 0, none⟩))) : QuietRun C o l w (.tuple #[p.1, p.2]) := by
  intro ρ hρ w' hw
  obtain ⟨es, clk, since, seen, e, hb, hr, he, hn, rfl⟩ := hW.ext hw
  have := run_entry_at (P := C.P) w' r b since seen es clk e hr hb he hn
  unfold execOp
  rw [ho]
  simp only [hρ _ _ hit]
  simp [this]
end
end Go.Eng
namespace Go.Proofs.YtcnbpfecgokhiaaGreatDoor
open Go.Eng Go.RowKit
open Go.Maps (Keyed)
theorem u8K : Keyed C.P 5 := Go.Maps.int_keyed under5
theorem wfU8 {x : Int} (h : 0 ≤ x ∧ x ≤ 255) : (Lit.int .u8 x).wf = true := by
  simp [Lit.wf, IntKind.min, IntKind.max, IntKind.bits, IntKind.signed]
  omega
theorem u8Key {x : Int} (h : 0 ≤ x ∧ x ≤ 255) : keyOf C.P 5 (.int .u8 x) = some (.int .u8 x) := Go.Maps.keyOf_int_mk under5 (wfU8 h)
theorem StGo.of_ext {w w1 w' : World} {s : SV} {es : List Entry} (e : Ext w w1) (hs : ∀ k, s.has k → k < w.heap.size) (h : StGo w1 s es w') : StGo w s es w' := by
  obtain ⟨s', h1, h2, h3, h4⟩ := h
  exact ⟨s', h1, h2, keep_trans (keep_ext e) h3 fun _ hq _ => hq, fun k hk => (h4 k hk).imp id fun h => Nat.le_trans e.size h⟩
theorem set_facts {sg : Int} {es : List Entry} {x : Entry} (hk : x.kind = 1 ∨ x.kind = 2) (hx : doE sg es x = 0) : x.n ≠ 0 := by
  obtain ⟨hf, hl, hr⟩ := do_zero hx
  obtain ⟨hok, _, _⟩ := form_okE hf
  unfold okE at hok
  rcases hk with hk | hk
  · rw [if_pos hk] at hok
    simp only [Bool.and_eq_true, decide_eq_true_eq] at hok
    omega
  · rw [if_neg (by omega), if_pos hk] at hok
    simp only [Bool.and_eq_true, decide_eq_true_eq] at hok
    omega
set_option maxRecDepth 100000 in
theorem do_spec {w : World} {s : SV} {es : List Entry} {x : Entry} {sg : Int} (h : StateIs w s es) (hA : Acc es) (hx : x.Nums) (hdo : doE sg es x = 0) :
    CallsV C.P 124 #[.pointer (some ⟨s.gs, 0, none⟩), x.val] w fun _ w' => StGo w s (es ++ [x]) w' := by
  have hkind := ok_kind (form_okE (do_zero hdo).1).1
  refine callsV_of C_ok (args := [_, _]) (plans := []) Tryz.func124 rfl Tryz.ntmps124 (by kernel_rfl) (Nat.le_of_ble_eq_true rfl) ?_
  intro g1 w1 h1
  have M1 : Mem w w1 [(g1, .cells x.cells.toArray 39 (0, 0))] := (Mem.start w).alloc h1
  intro g2 w2 h2
  have M2 := M1.alloc h2
  have m2 : MapIs C.P 5 w2 g2 _ := MapIs.empty (M2.get 0 rfl)
  refine insPut C_ok u8K (u8Key (x := 1) (by decide)) m2 rfl rfl rfl rfl rfl rfl ?_
  intro o3 w3 h3 m3
  have M3 := M2.put 0 rfl h3
  refine insPut C_ok u8K (u8Key (x := 2) (by decide)) m3 rfl rfl rfl rfl rfl rfl ?_
  intro o4 w4 h4 m4
  have M4 := M3.put 0 rfl h4
  refine insPut C_ok u8K (u8Key (x := 3) (by decide)) m4 rfl rfl rfl rfl rfl rfl ?_
  intro o5 w5 h5 m5
  have M5 := M4.put 0 rfl h5
  refine insPut C_ok u8K (u8Key (x := 4) (by decide)) m5 rfl rfl rfl rfl rfl rfl ?_
  intro o6 w6 h6 m6
  have M6 := M5.put 0 rfl h6
  refine insPut C_ok u8K (u8Key (x := 5) (by decide)) m6 rfl rfl rfl rfl rfl rfl ?_
  intro o7 w7 h7 m7
  have M7 := M6.put 0 rfl h7
  refine insPut C_ok u8K (u8Key (x := 6) (by decide)) m7 rfl rfl rfl rfl rfl rfl ?_
  intro o8 w8 h8 m8
  have M8 := M7.put 0 rfl h8
  refine insPut C_ok u8K (u8Key (x := 7) (by decide)) m8 rfl rfl rfl rfl rfl rfl ?_
  intro o9 w9 h9 m9
  have M9 := M8.put 0 rfl h9
  have M : Mem w w9 [(g2, o9), (g1, .cells x.cells.toArray 39 (0, 0))] := M9
  have hs := h.ext M.ext
  clear M1 M2 M3 M4 M5 M6 M7 M8 M9 m2 m3 m4 m5 m6 m7 m8
  refine ⟨_, M.cell 1 rfl rfl, ?_⟩
  rcases hkind with k | k | k | k | k | k | k
  · refine ⟨.func (.func 154) #[] #[], mapGet1 C_ok (x := .int .u8 x.kind) (u8Key hx.kind) m9 u8K rfl rfl rfl rfl rfl rfl (by rw [k]; simp [updV]), ?_⟩
    refine ⟨x.cells, rfl, M.rd 1 rfl, ?_⟩
    refine (rate_spec hs k hx (set_facts (.inl k) hdo)).mono ?_
    intro v w10 hgo
    exact hgo.of_ext M.ext fun _ hk => h.lt hk
  · refine ⟨.func (.func 155) #[] #[], mapGet1 C_ok (x := .int .u8 x.kind) (u8Key hx.kind) m9 u8K rfl rfl rfl rfl rfl rfl (by rw [k]; simp [updV]), ?_⟩
    refine ⟨x.cells, rfl, M.rd 1 rfl, ?_⟩
    refine (ceiling_spec hs k hx (set_facts (.inr k) hdo)).mono ?_
    intro v w10 hgo
    exact hgo.of_ext M.ext fun _ hk => h.lt hk
  · refine ⟨.func (.func 156) #[] #[], mapGet1 C_ok (x := .int .u8 x.kind) (u8Key hx.kind) m9 u8K rfl rfl rfl rfl rfl rfl (by rw [k]; simp [updV]), ?_⟩
    refine ⟨x.cells, rfl, M.rd 1 rfl, ?_⟩
    refine (grant_spec hs k hx hdo).mono ?_
    intro v w10 hgo
    exact hgo.of_ext M.ext fun _ hk => h.lt hk
  · refine ⟨.func (.func 157) #[] #[], mapGet1 C_ok (x := .int .u8 x.kind) (u8Key hx.kind) m9 u8K rfl rfl rfl rfl rfl rfl (by rw [k]; simp [updV]), ?_⟩
    refine ⟨x.cells, rfl, M.rd 1 rfl, ?_⟩
    refine (end_spec hs hA k hx hdo).mono ?_
    intro v w10 hgo
    exact hgo.of_ext M.ext fun _ hk => h.lt hk
  · refine ⟨.func (.func 158) #[] #[], mapGet1 C_ok (x := .int .u8 x.kind) (u8Key hx.kind) m9 u8K rfl rfl rfl rfl rfl rfl (by rw [k]; simp [updV]), ?_⟩
    refine ⟨x.cells, rfl, M.rd 1 rfl, ?_⟩
    refine (offer_spec hs hA k hx hdo).mono ?_
    intro v w10 hgo
    exact hgo.of_ext M.ext fun _ hk => h.lt hk
  · refine ⟨.func (.func 159) #[] #[], mapGet1 C_ok (x := .int .u8 x.kind) (u8Key hx.kind) m9 u8K rfl rfl rfl rfl rfl rfl (by rw [k]; simp [updV]), ?_⟩
    refine ⟨x.cells, rfl, M.rd 1 rfl, ?_⟩
    refine (take_spec hs hA k hx hdo).mono ?_
    intro v w10 hgo
    exact hgo.of_ext M.ext fun _ hk => h.lt hk
  · refine ⟨.func (.func 160) #[] #[], mapGet1 C_ok (x := .int .u8 x.kind) (u8Key hx.kind) m9 u8K rfl rfl rfl rfl rfl rfl (by rw [k]; simp [updV]), ?_⟩
    refine ⟨x.cells, rfl, M.rd 1 rfl, ?_⟩
    refine (refuse_spec hs hA k hx hdo).mono ?_
    intro v w10 hgo
    exact hgo.of_ext M.ext fun _ hk => h.lt hk
end Go.Proofs.YtcnbpfecgokhiaaGreatDoor
namespace Go.Proofs.YtcnbpfecgokhiaaGreatDoor
open Go.Eng Go.RowKit
theorem ownsRow_grown {w w' : World} {base e size n : Nat} {v : Value} {xs : List Value} {row : Option Nat} (h : w.ownsRow base e size v n xs) (hg : w.grownBy w' row) (hne : v.ownBlock ≠ row) : w'.ownsRow base e size v n xs := by
  obtain ⟨hl, hv | ⟨g', cap, cur, hv, hb, hg', h1⟩⟩ := h
  · exact ⟨hl, .inl hv⟩
  · refine ⟨hl, .inr ⟨g', cap, cur, hv, hb, ?_, h1⟩⟩
    rw [hg.block g' (lt_of_heap hg') (fun e => hne (by rw [hv, ← e]; rfl))]
    exact hg'
theorem rev_get {l : List Fact} {k : Nat} (hk : k < l.length) : l.reverse[k]? = l[l.length - 1 - k]? := by
  rw [List.getElem?_reverse hk]
set_option maxRecDepth 100000 in
theorem ReverseF_spec {B : Nat} {w : World} {v : Value} {l : List Fact} (ho : NewF B w v l) (hl : l.length ≤ 2 ^ 20) :
    CallsV C.P 251 #[v] w fun v' w' => v' = .tuple #[] ∧ NewF B w' v l.reverse ∧ Below B w w' := by
  obtain ⟨A, cap, rfl, hR, hlc⟩ := ho.slice
  refine callsV_of C_ok (args := [_]) (plans := plans251) Tryz.func251 rfl Tryz.ntmps251 (by kernel_rfl) (Nat.le_of_ble_eq_true rfl) ?_
  refine ⟨(l.length : Int) - 1, fit ⟨by omega, by omega⟩, ?_⟩
  refine loopE C_ok (fun (s : Nat × List Fact) => [(0, .slice A l.length cap), (2, .int .i64 s.1), (3, .int .i64 ((l.length : Int) - 1 - s.1))])
    (fun s w' => 2 * s.1 ≤ l.length ∧ s.2.length = l.length ∧ w'.ownsRow B 81 9 (.slice A l.length cap) l.length (fcells s.2) ∧ (∀ k, k < s.1 → s.2[k]? = l.reverse[k]?) ∧ (∀ k, l.length - s.1 ≤ k → s.2[k]? = l.reverse[k]?) ∧ (∀ k, s.1 ≤ k → k < l.length - s.1 → s.2[k]? = l[k]?) ∧ Below B w w')
    (fun s => l.length - s.1) (0, l) ⟨rfl, rfl, congrArg (fun z : Int => some (Value.int .i64 z)) (by omega : (l.length : Int) - 1 = (l.length : Int) - 1 - ((0 : Nat) : Int)), trivial⟩ ⟨Nat.zero_le _, rfl, ho, fun k h => absurd h (Nat.not_lt_zero _), fun k h => by rw [List.getElem?_eq_none (by simpa using h), List.getElem?_eq_none (by simpa using h)], fun _ _ _ => rfl, Below.refl _ _⟩ ?_
  rintro ⟨i, R⟩ w1 ⟨hi2', hRl', ho1', hlo', hhi', hmid', b1⟩
  have hi2 : 2 * i ≤ l.length := hi2'
  have hRl : R.length = l.length := hRl'
  have ho1 : w1.ownsRow B 81 9 (.slice A l.length cap) l.length (fcells R) := ho1'
  have hlo : ∀ k, k < i → R[k]? = l.reverse[k]? := hlo'
  have hhi : ∀ k, l.length - i ≤ k → R[k]? = l.reverse[k]? := hhi'
  have hmid : ∀ k, i ≤ k → k < l.length - i → R[k]? = l[k]? := hmid'
  clear hRl' hhi' hi2' hlo' hmid' ho1'
  refine brE_dec (fun hlt => ?_) (fun hge => ?_)
  · have hlt : (i : Int) < (l.length : Int) - 1 - i := hlt
    obtain ⟨j, hj⟩ : ∃ j : Nat, j = l.length - 1 - i := ⟨_, rfl⟩
    have hij : i < j := by omega
    have hjl : j < l.length := by omega
    have hA : ∃ g, A = some ⟨g, 0, none⟩ := by
      obtain ⟨_, ⟨hv, h0⟩ | ⟨g, cap', cur, hv, _⟩⟩ := ho
      · omega
      · simp at hv; exact ⟨g, hv.1⟩
    obtain ⟨g, rfl⟩ := hA
    have hreads : Reads w1 (some ⟨g, 0, none⟩) (fcells R) := by
      obtain ⟨A', c', e, h, _⟩ := reads_of_owns ho1
      cases e; exact h
    have hRi : R[i]'(by omega) = l[i]'(by omega) := by
      have := hmid i (Nat.le_refl _) (by omega)
      rw [List.getElem?_eq_getElem (by omega), List.getElem?_eq_getElem (by omega)] at this
      exact Option.some.inj this
    have hRj : R[j]'(by omega) = l[j]'hjl := by
      have := hmid j (by omega) (by omega)
      rw [List.getElem?_eq_getElem (by omega), List.getElem?_eq_getElem (by omega)] at this
      exact Option.some.inj this
    obtain ⟨b2, o2, hA2, hc2⟩ := Reads.fact hreads (i := j) (by omega)
    obtain ⟨b3, o3, hA3, hc3⟩ := Reads.fact hreads (i := i) (by omega)
    cases hA2
    cases hA3
    rw [hRj] at hc2
    rw [hRi] at hc3
    obtain ⟨cur, hg, hgB, hcl, hccap, hncap, hdl, hct, hput⟩ := ownsRow_open ho1
    refine ⟨j, g, 0, by omega, hjl, rfl, ?_⟩
    refine ⟨l[j].cells, rfl, hc2, ?_⟩
    refine ⟨i, g, 0, rfl, (by omega : i < l.length), rfl, ?_⟩
    refine ⟨l[i].cells, rfl, hc3, ?_⟩
    refine ⟨i, g, 0, rfl, (by omega : i < l.length), rfl, ?_⟩
    refine ⟨rfl, _, _, hg, by show 0 + i * 9 + 9 ≤ cur.length; omega, rfl, ?_⟩
    intro w4 h4
    have h4 : Put w1 g (.cells (splice cur (0 + i * 9) l[j].cells).toArray 81 (0, 0)) w4 := h4
    have ho4 := hput (0 + i * 9) l[j].cells w4 (by show 0 + i * 9 + 9 ≤ _; omega) h4
    have e0 : 0 + i * 9 = i * 9 := by omega
    have hset : splice (fcells R) (i * 9) l[j].cells = fcells (R.set i l[j]) := flat_set Fact.len (by omega) _
    rw [e0, hset] at ho4
    obtain ⟨cur4, hg4, hgB4, hcl4, hccap4, hncap4, hdl4, hct4, hput4⟩ := ownsRow_open ho4
    refine ⟨j, g, 0, by omega, hjl, rfl, ?_⟩
    refine ⟨rfl, _, _, hg4, by show 0 + j * 9 + 9 ≤ cur4.length; omega, rfl, ?_⟩
    intro w5 h5
    have h5 : Put w4 g (.cells (splice cur4 (0 + j * 9) l[i].cells).toArray 81 (0, 0)) w5 := h5
    have ho5 := hput4 (0 + j * 9) l[i].cells w5 (by show 0 + j * 9 + 9 ≤ _; omega) h5
    have e1 : 0 + j * 9 = j * 9 := by omega
    have hset2 : splice (fcells (R.set i l[j])) (j * 9) l[i].cells = fcells ((R.set i l[j]).set j l[i]) := flat_set Fact.len (by rw [List.length_set]; omega) _
    rw [e1, hset2] at ho5
    refine ⟨((i + 1 : Nat) : Int), fit ⟨by omega, by omega⟩, ?_⟩
    refine ⟨(l.length : Int) - 1 - ((i + 1 : Nat) : Int), by rw [fit ⟨by omega, by omega⟩]; omega, ?_⟩
    have get : ∀ k, ((R.set i l[j]).set j l[i])[k]? = if k = j then some l[i] else if k = i then some l[j] else R[k]? := by
      intro k
      rw [List.getElem?_set, List.length_set]
      by_cases h1 : j = k
      · subst h1; rw [if_pos rfl, if_pos rfl, if_pos (by omega)]
      · rw [if_neg h1, if_neg (fun e => h1 e.symm), List.getElem?_set]
        by_cases h2 : i = k
        · subst h2; rw [if_pos rfl, if_pos rfl, if_pos (by omega)]
        · rw [if_neg h2, if_neg (fun e => h2 e.symm)]
    refine ⟨(i + 1, (R.set i l[j]).set j l[i]), ⟨rfl, rfl, rfl, trivial⟩, ⟨by show 2 * (i + 1) ≤ l.length; omega, by show ((R.set i l[j]).set j l[i]).length = l.length; rw [List.length_set, List.length_set, hRl], ho5, ?_, ?_, ?_, below_put (below_put b1 h4 hgB) h5 hgB⟩, by show l.length - (i + 1) < l.length - i; omega⟩
    · intro k hk
      have hk : k < i + 1 := hk
      show ((R.set i l[j]).set j l[i])[k]? = _
      rw [get, if_neg (by omega)]
      by_cases hki : k = i
      · subst hki
        rw [if_pos rfl, rev_get (by omega), ← hj, List.getElem?_eq_getElem hjl]
      · rw [if_neg hki]; exact hlo k (by omega)
    · intro k hk
      have hk : l.length - (i + 1) ≤ k := hk
      show ((R.set i l[j]).set j l[i])[k]? = _
      rw [get]
      by_cases hkj : k = j
      · subst hkj
        rw [if_pos rfl, rev_get (by omega), show l.length - 1 - k = i by omega, List.getElem?_eq_getElem (by omega)]
      · rw [if_neg hkj, if_neg (by omega)]; exact hhi k (by omega)
    · intro k hk1 hk2
      have hk1 : i + 1 ≤ k := hk1
      have hk2 : k < l.length - (i + 1) := hk2
      show ((R.set i l[j]).set j l[i])[k]? = _
      rw [get, if_neg (by omega), if_neg (by omega)]
      exact hmid k (by omega) (by omega)
  · have hge : ¬ (i : Int) < (l.length : Int) - 1 - i := hge
    have : R = l.reverse := by
      apply List.ext_getElem?
      intro k
      by_cases h1 : k < i
      · exact hlo k h1
      · by_cases h2 : l.length - i ≤ k
        · exact hhi k h2
        · rw [hmid k (by omega) (by omega), rev_get (by omega), show l.length - 1 - k = k by omega]
    subst this
    refine ⟨rfl, ?_, b1⟩
    show w1.ownsRow _ _ _ _ l.reverse.length _
    rw [List.length_reverse]
    exact ho1
/-- The map of what is voided. -/
def VoidIs (w : World) (g : Nat) (acc : List Fact) : Prop := ∃ f, MapIs C.P 3 w g f ∧ ∀ q : Int, (f (.int .i64 q)).getD (.bool false) = .bool (voidedBy acc q)
theorem VoidIs.ext {w w' : World} {g : Nat} {acc : List Fact} (h : VoidIs w g acc) (e : Ext w w') : VoidIs w' g acc := let ⟨f, h1, h2⟩ := h; ⟨f, h1.ext e, h2⟩
theorem VoidIs.lt {w : World} {g : Nat} {acc : List Fact} (h : VoidIs w g acc) : ∃ es clk, w.heap[g]? = some (.map es clk) := let ⟨_, ⟨es, clk, hb, _⟩, _⟩ := h; ⟨es, clk, hb⟩
theorem voidedBy_snoc (acc : List Fact) (x : Fact) (q : Int) : voidedBy (acc ++ [x]) q = (voidedBy acc q || decide (x.kind = 11 ∧ x.what = q)) := by
  unfold voidedBy; rw [List.any_append]; simp
theorem Counting1_spec {w : World} {x : Fact} {g6 gm T : Nat} {acc : List Fact} (hx : x.Nums) (hc : w.heap[g6]? = some (.cells #[.map (some gm)] T (0, 0))) (hv : VoidIs w gm acc) :
    CallsV C.P 250 (#[] ++ [x.val].toArray ++ #[.pointer (some ⟨g6, 0, none⟩)]) w fun v w' => v = .bool (!voidedBy acc x.id) ∧ w.grownBy w' (some gm) ∧ VoidIs w' gm (if voidedBy acc x.id = true then acc else acc ++ [x]) := by
  refine callsV_of C_ok (args := [_, _]) (plans := []) Tryz.func250 rfl Tryz.ntmps250 (by kernel_rfl) (Nat.le_of_ble_eq_true rfl) ?_
  intro g2 w1 h1
  have M1 := (Mem.start w).alloc h1
  have hc1 := h1.ext.heap hc
  have hv1 := hv.ext h1.ext
  obtain ⟨f, hf, hfv⟩ := hv1
  refine ⟨_, cell_of_block hc1 rfl, ?_⟩
  refine ⟨_, M1.cell 0 rfl rfl, ?_⟩
  refine ⟨.bool (voidedBy acc x.id), mapGet1 C_ok (te := ty4) (x := .int .i64 x.id) (intKey hx.id) hf intK rfl rfl rfl rfl rfl rfl (hfv _), ?_⟩
  refine brE_mk (fun hb => ?_) (fun hb => ?_)
  · rw [hb, if_pos rfl]
    exact ⟨rfl, ext_grownBy h1.ext _, ⟨f, hf, hfv⟩⟩
  rw [hb, if_neg (by decide)]
  refine ⟨_, M1.cell 0 rfl rfl, ?_⟩
  refine brE_dec (fun hk => ?_) (fun hk => ?_)
  · have hk : x.kind = 11 := hk
    refine ⟨_, cell_of_block hc1 rfl, ?_⟩
    refine ⟨_, M1.cell 0 rfl rfl, ?_⟩
    refine mapPut C_ok rfl rfl (x := .int .i64 x.what) rfl rfl rfl rfl intK (intKey hx.what) hf ?_
    intro o' w2 h2 hf2
    refine ⟨rfl, grownBy_trans (ext_grownBy h1.ext _) h2.grownBy, ⟨_, hf2, fun q => ?_⟩⟩
    rw [voidedBy_snoc]
    unfold updV
    by_cases e : q = x.what
    · subst e; rw [if_pos rfl]; simp [hk]
    · rw [if_neg (fun h => e (by injection h)), hfv]
      have : decide (x.kind = 11 ∧ x.what = q) = false := decide_eq_false fun h => e h.2.symm
      rw [this, Bool.or_false]
  · have hk : ¬ x.kind = 11 := hk
    refine ⟨rfl, ext_grownBy h1.ext _, ⟨f, hf, fun q => ?_⟩⟩
    rw [voidedBy_snoc, hfv]
    have : decide (x.kind = 11 ∧ x.what = q) = false := decide_eq_false fun h => hk h.1
    rw [this, Bool.or_false]
set_option maxRecDepth 100000 in
theorem Counting_spec {w : World} {A : Option Addr} {l : List Fact} {c : Nat} (h : HF w A l c) (hl : l.length ≤ 2 ^ 20) (k : Int) :
    CallsV C.P 229 #[.slice A l.length c, .int .i64 k] w fun v w' => NewF w.heap.size w' v (countL k l) ∧ Ext w w' := by
  refine callsV_of C_ok (args := [_, _]) (plans := []) Tryz.func229 rfl Tryz.ntmps229 (by kernel_rfl) (Nat.le_of_ble_eq_true rfl) ?_
  refine (Known_spec h hl k).mono ?_
  rintro v w1 ⟨hK, e1⟩
  have hkl := knownL_length k l
  have hsub := knownL_sub (k := k) (l := l)
  have hcount : countL k l = (backL [] (knownL k l).reverse).reverse := rfl
  rw [hcount]
  clear hcount
  generalize knownL k l = K at *
  obtain ⟨AK, cK, rfl, hrK, _⟩ := hK.slice
  intro gm w2 h2
  have M2 := (Mem.start w1).alloc h2
  intro g6 w3 h3
  have M3 := M2.alloc h3
  refine ⟨rfl, _, _, M3.get 0 rfl, Nat.le_of_ble_eq_true rfl, rfl, ?_⟩
  intro w4 h4
  have M4 : Mem w1 w4 [(g6, .cells #[.map (some gm)] 181 (0, 0)), (gm, .map #[] 0)] := M3.put 0 rfl h4
  have hgm := M4.new 1 rfl
  have hg6 := M4.new 0 rfl
  have hne : gm ≠ g6 := by
    have := M4.nodup
    simp at this
    exact fun e => this e.symm
  refine ⟨[], [.pointer (some ⟨g6, 0, none⟩)], rfl, rfl, ?_⟩
  refine ⟨(K.length : Int) - 1, fit ⟨by omega, by omega⟩, ?_⟩
  refine loopE C_ok (fun (s : Nat × Value × List Fact) => [(5, .slice AK K.length cK), (7, .func (.func 250) #[] #[.pointer (some ⟨g6, 0, none⟩)]), (8, s.2.1), (9, .int .i64 ((s.1 : Int) - 1))])
    (fun s w' => s.1 ≤ K.length ∧ Mem w1 w' [(g6, .cells #[.map (some gm)] 181 (0, 0))] ∧ VoidIs w' gm s.2.2 ∧ NewF w1.heap.size w' s.2.1 s.2.2 ∧ backL [] K.reverse = backL s.2.2 (K.take s.1).reverse ∧ s.2.2.length + s.1 ≤ K.length) (fun s => s.1) (K.length, .slice none 0 0, [])
    ⟨rfl, rfl, rfl, rfl, trivial⟩ ⟨Nat.le_refl _, M4.sub (List.Sublist.cons_cons _ (List.nil_sublist _)), ⟨_, MapIs.empty (M4.get 1 rfl), fun q => rfl⟩, newF_nil _ _, by rw [List.take_length], by simp⟩ ?_
  rintro ⟨n, v, acc⟩ w5 ⟨hn', M5, hv5', ho', hb', hal'⟩
  have hn : n ≤ K.length := hn'
  have ho : NewF w1.heap.size w5 v acc := ho'
  have hv5 : VoidIs w5 gm acc := hv5'
  have hb : backL [] K.reverse = backL acc (K.take n).reverse := hb'
  have hal : acc.length + n ≤ K.length := hal'
  clear hal' hb' hn' ho' hv5'
  refine brE_dec (fun hge => ?_) (fun hlt => ?_)
  · have hge : (n : Int) - 1 ≥ 0 := hge
    obtain ⟨m, rfl⟩ : ∃ m, n = m + 1 := ⟨n - 1, by omega⟩
    have hm : m < K.length := by omega
    rw [backL_step hm] at hb
    have next : IntKind.i64.wrap ((((m + 1 : Nat) : Int) - 1) - 1) = (m : Int) - 1 := by rw [fit ⟨by omega, by omega⟩]; omega
    obtain ⟨b2, o2, hA2, hc2⟩ := Reads.fact (hrK.ext M5.ext) hm
    refine ⟨m, b2, o2, by omega, hm, hA2, ?_⟩
    refine ⟨K[m].cells, rfl, hc2, ?_⟩
    obtain ⟨es, clk, hmap5⟩ := hv5.lt
    refine (Counting1_spec (h.nums _ (hsub _ (List.getElem_mem hm))) (M5.get 0 rfl) hv5).mono ?_
    rintro v6 w6 ⟨rfl, hg56, hv6⟩
    have M6 : Mem w1 w6 [(g6, .cells #[.map (some gm)] 181 (0, 0))] := M5.grown hg56 (fun q hq => by cases hq; exact hgm) (fun p hp => by simp at hp; subst hp; exact fun e => hne (by injection e with e; exact e.symm))
    have ho6 : NewF w1.heap.size w6 v acc := ownsRow_grown ho hg56 (fun e => own_ne ho hmap5 (fun c fr e => by cases e) e.symm)
    refine brE_mk (fun hbf => ?_) (fun hbt => ?_)
    · have hbf : voidedBy acc K[m].id = false := by simpa using hbf
      rw [hbf, if_neg (by decide)] at hb hv6
      obtain ⟨b3, o3, hA3, hc3⟩ := Reads.fact (hrK.ext M6.ext) hm
      refine ⟨m, b3, o3, by omega, hm, hA3, ?_⟩
      refine ⟨K[m].cells, rfl, hc3, ?_⟩
      intro g w7 h7
      have M7 := M6.alloc h7
      have ho7 : w7.ownsRow w1.heap.size 81 9 v acc.length (fcells acc) := ownsRow_ext ho6 h7.ext
      have hv7 := hv6.ext h7.ext
      obtain ⟨es7, clk7, hmap7⟩ := hv7.lt
      refine ⟨rfl, rfl, rfl, w1.heap.size, _, _, K[m].cells, ho7, M7.ext.size, Nat.le_of_ble_eq_true rfl, rfl, rfl, .inr ⟨g, 0, rfl, Rd.of_block h7.here⟩, rfl, rfl, by omega, by simp only [maxLen]; omega, ?_⟩
      intro v8 w8 ho8 hg8 _
      have M8 : Mem w1 w8 [(g6, .cells #[.map (some gm)] 181 (0, 0))] := M7.tail.grown hg8 (fun q hq => (ho7.lt q hq).1) (fun p hp => by
        simp at hp; subst hp
        exact own_ne ho7 (M7.get 1 rfl) (fun c fr e => by cases e))
      have hv8 : VoidIs w8 gm (acc ++ [K[m]]) := by
        obtain ⟨f, hf, hfv⟩ := hv7
        exact ⟨f, hf.same (hg8.block gm (lt_of_heap hmap7) (own_ne ho7 hmap7 (fun c fr e => by cases e))), hfv⟩
      refine ⟨_, next, ?_⟩
      refine ⟨(m, v8, acc ++ [K[m]]), ⟨rfl, rfl, rfl, rfl, trivial⟩, ⟨by show m ≤ K.length; omega, M8, hv8, ?_, hb, by show (acc ++ [K[m]]).length + m ≤ K.length; simp; omega⟩, by show m < m + 1; omega⟩
      show w8.ownsRow _ _ _ v8 (acc ++ [K[m]]).length (fcells (acc ++ [K[m]]))
      rw [fcells_append, fcells_one, List.length_append]
      exact ho8
    · have hbt : voidedBy acc K[m].id = true := by simpa using hbt
      rw [hbt, if_pos rfl] at hb hv6
      refine ⟨_, next, ?_⟩
      exact ⟨(m, v, acc), ⟨rfl, rfl, rfl, rfl, trivial⟩, ⟨by show m ≤ K.length; omega, M6, hv6, ho6, hb, by show acc.length + m ≤ K.length; omega⟩, by show m < m + 1; omega⟩
  · have : n = 0 := by have : ¬ (n : Int) - 1 ≥ 0 := hlt; omega
    subst this
    have hb : backL [] K.reverse = acc := hb
    rw [hb]
    refine (ReverseF_spec ho (by omega)).mono ?_
    rintro v6 w6 ⟨rfl, ho6, b6⟩
    exact ⟨ho6.base e1.size, e1.trans (Below.trans M5.ext b6)⟩
end Go.Proofs.YtcnbpfecgokhiaaGreatDoor
namespace Go.Proofs.YtcnbpfecgokhiaaGreatDoor
open Go.Eng Go.RowKit
theorem At1_spec {w : World} {x : Fact} {g5 : Nat} {day : Int} (hc : w.heap[g5]? = some (.cells #[.int .i64 day] 3 (0, 0))) :
    CallsV C.P 230 (#[] ++ [x.val].toArray ++ #[.pointer (some ⟨g5, 0, none⟩)]) w fun v w' => v = .bool (decide (x.kind = 11) || !holdsB day x) ∧ Ext w w' := by
  refine callsV_of C_ok (args := [_, _]) (plans := []) Tryz.func230 rfl Tryz.ntmps230 (by kernel_rfl) (Nat.le_of_ble_eq_true rfl) ?_
  intro g2 w1 h1
  have M1 := (Mem.start w).alloc h1
  refine ⟨_, M1.cell 0 rfl rfl, ?_⟩
  refine brE_dec (fun hk => ?_) (fun hk => ?_)
  · have hk : x.kind = 11 := hk
    exact ⟨by rw [decide_eq_true hk]; rfl, M1.ext⟩
  · have hk : ¬ x.kind = 11 := hk
    refine ⟨x.cells, rfl, M1.rd 0 rfl, ?_⟩
    refine ⟨_, cell_of_block (h1.ext.heap hc) rfl, ?_⟩
    refine (Holds_spec x day w1).mono ?_
    rintro v w2 ⟨rfl, e2⟩
    exact ⟨by rw [decide_eq_false hk]; rfl, M1.ext.trans e2⟩
theorem At_spec {w : World} {A : Option Addr} {l : List Fact} {c : Nat} (h : HF w A l c) (hl : l.length ≤ 2 ^ 20) (k day : Int) :
    CallsV C.P 187 #[.slice A l.length c, .int .i64 k, .int .i64 day] w fun v w' => NewF w.heap.size w' v (atL k day l) ∧ Ext w w' := by
  refine callsV_of C_ok (args := [_, _, _]) (plans := []) Tryz.func187 rfl Tryz.ntmps187 (by kernel_rfl) (Nat.le_of_ble_eq_true rfl) ?_
  intro g5 w1 h1
  have M1 := (Mem.start w).alloc h1
  refine (Counting_spec (h.ext M1.ext) hl k).mono ?_
  rintro v w2 ⟨ho, e2⟩
  have hcl := countL_length k l
  refine ⟨[], [.pointer (some ⟨g5, 0, none⟩)], rfl, rfl, ?_⟩
  have hc2 : w2.heap[g5]? = some (.cells #[.int .i64 day] 3 (0, 0)) := e2.heap h1.here
  have hlt : g5 < w1.heap.size := lt_of_heap h1.here
  refine (DeleteFuncF_spec (p := fun x => decide (x.kind = 11) || !holdsB day x) ho e2.size (by omega) rfl (fun x w' b => At1_spec (by rw [b.block g5 hlt]; exact hc2))).mono ?_
  rintro v' w3 ⟨ho3, b3⟩
  refine ⟨?_, M1.ext.trans (Below.trans e2 b3)⟩
  have e : ((countL k l).filter fun x => !(decide (x.kind = 11) || !holdsB day x)) = atL k day l := by
    unfold atL
    congr 1
    funext x
    rw [Bool.not_or, Bool.not_not]
  rw [← e]
  exact ho3.base M1.ext.size
end Go.Proofs.YtcnbpfecgokhiaaGreatDoor
namespace Go.Proofs.YtcnbpfecgokhiaaGreatDoor
open Go.Eng Go.RowKit
def ptrs (g : Nat) (os : List Nat) : List Value := os.map fun o => Value.pointer (some ⟨g, o, none⟩)
/-- The pointers to a fact's fields. -/
def OffsPost (g : Nat) (os : List Nat) (w : World) (v : Value) (w' : World) : Prop := (∃ h, v = .slice (some ⟨h, 0, none⟩) os.length os.length ∧ w'.heap[h]? = some (.cells (ptrs g os).toArray 167 (0, 0)) ∧ w.heap.size ≤ h) ∧ Ext w w'
theorem forms1_spec (g : Nat) (w : World) : CallsV C.P 210 (#[] ++ [.pointer (some ⟨g, 0, none⟩)].toArray ++ #[]) w (OffsPost g [3, 4, 5, 6, 7] w) := by
  refine callsV_of C_ok (args := [_]) (plans := plans210) Tryz.func210 rfl Tryz.ntmps210 (by kernel_rfl) (Nat.le_of_ble_eq_true rfl) ?_
  intro h w1 h1
  exact ⟨⟨h, rfl, h1.here, by rw [h1.new]; exact Nat.le_refl _⟩, h1.ext⟩
theorem forms2_spec (g : Nat) (w : World) : CallsV C.P 211 (#[] ++ [.pointer (some ⟨g, 0, none⟩)].toArray ++ #[]) w (OffsPost g [3, 5, 6, 7] w) := by
  refine callsV_of C_ok (args := [_]) (plans := plans211) Tryz.func211 rfl Tryz.ntmps211 (by kernel_rfl) (Nat.le_of_ble_eq_true rfl) ?_
  intro h w1 h1
  exact ⟨⟨h, rfl, h1.here, by rw [h1.new]; exact Nat.le_refl _⟩, h1.ext⟩
theorem forms7_spec (g : Nat) (w : World) : CallsV C.P 219 (#[] ++ [.pointer (some ⟨g, 0, none⟩)].toArray ++ #[]) w (OffsPost g [3, 4, 6, 7] w) := by
  refine callsV_of C_ok (args := [_]) (plans := plans219) Tryz.func219 rfl Tryz.ntmps219 (by kernel_rfl) (Nat.le_of_ble_eq_true rfl) ?_
  intro h w1 h1
  exact ⟨⟨h, rfl, h1.here, by rw [h1.new]; exact Nat.le_refl _⟩, h1.ext⟩
theorem forms9_spec (g : Nat) (w : World) : CallsV C.P 221 (#[] ++ [.pointer (some ⟨g, 0, none⟩)].toArray ++ #[]) w (OffsPost g [3, 6, 7] w) := by
  refine callsV_of C_ok (args := [_]) (plans := plans221) Tryz.func221 rfl Tryz.ntmps221 (by kernel_rfl) (Nat.le_of_ble_eq_true rfl) ?_
  intro h w1 h1
  exact ⟨⟨h, rfl, h1.here, by rw [h1.new]; exact Nat.le_refl _⟩, h1.ext⟩
theorem forms12_spec (g : Nat) (w : World) : CallsV C.P 224 (#[] ++ [.pointer (some ⟨g, 0, none⟩)].toArray ++ #[]) w (OffsPost g [3, 6] w) := by
  refine callsV_of C_ok (args := [_]) (plans := plans224) Tryz.func224 rfl Tryz.ntmps224 (by kernel_rfl) (Nat.le_of_ble_eq_true rfl) ?_
  intro h w1 h1
  exact ⟨⟨h, rfl, h1.here, by rw [h1.new]; exact Nat.le_refl _⟩, h1.ext⟩
theorem forms14_spec (g : Nat) (w : World) : CallsV C.P 226 (#[] ++ [.pointer (some ⟨g, 0, none⟩)].toArray ++ #[]) w (OffsPost g [4] w) := by
  refine callsV_of C_ok (args := [_]) (plans := []) Tryz.func226 rfl Tryz.ntmps226 (by kernel_rfl) (Nat.le_of_ble_eq_true rfl) ?_
  intro h w1 h1
  exact ⟨⟨h, rfl, h1.here, by rw [h1.new]; exact Nat.le_refl _⟩, h1.ext⟩
theorem none_spec (x : Fact) (w : World) : CallsV C.P 216 (#[] ++ [x.val].toArray ++ #[]) w fun v w' => NewInts w.heap.size w' v [] ∧ Ext w w' := by
  refine callsV_of C_ok (args := [_]) (plans := []) Tryz.func216 rfl Tryz.ntmps216 (by kernel_rfl) (Nat.le_of_ble_eq_true rfl) ?_
  intro g w1 h1
  exact ⟨newInts_nil _ _, h1.ext⟩
theorem what_spec (x : Fact) (w : World) : CallsV C.P 217 (#[] ++ [x.val].toArray ++ #[]) w fun v w' => NewInts w.heap.size w' v [x.what] ∧ Ext w w' := by
  refine callsV_of C_ok (args := [_]) (plans := []) Tryz.func217 rfl Tryz.ntmps217 (by kernel_rfl) (Nat.le_of_ble_eq_true rfl) ?_
  intro g w1 h1
  have M1 := (Mem.start w).alloc h1
  refine ⟨_, M1.cell 0 rfl rfl, ?_⟩
  intro g2 w2 h2
  have M2 := M1.alloc h2
  exact ⟨owns_block (cs := ints [x.what]) (M2.get 0 rfl) (M2.new 0 rfl) rfl (Nat.le_of_ble_eq_true rfl), M2.ext⟩
theorem forms11_spec (x : Fact) (w : World) : CallsV C.P 223 (#[] ++ [x.val].toArray ++ #[]) w fun v w' => NewInts w.heap.size w' v [x.who] ∧ Ext w w' := by
  refine callsV_of C_ok (args := [_]) (plans := []) Tryz.func223 rfl Tryz.ntmps223 (by kernel_rfl) (Nat.le_of_ble_eq_true rfl) ?_
  intro g w1 h1
  have M1 := (Mem.start w).alloc h1
  refine ⟨_, M1.cell 0 rfl rfl, ?_⟩
  intro g2 w2 h2
  have M2 := M1.alloc h2
  exact ⟨owns_block (cs := ints [x.who]) (M2.get 0 rfl) (M2.new 0 rfl) rfl (Nat.le_of_ble_eq_true rfl), M2.ext⟩
theorem forms6_spec (x : Fact) (w : World) : CallsV C.P 218 (#[] ++ [x.val].toArray ++ #[]) w fun v w' => NewInts w.heap.size w' v [x.who, x.what] ∧ Ext w w' := by
  refine callsV_of C_ok (args := [_]) (plans := []) Tryz.func218 rfl Tryz.ntmps218 (by kernel_rfl) (Nat.le_of_ble_eq_true rfl) ?_
  intro g w1 h1
  have M1 := (Mem.start w).alloc h1
  refine ⟨_, M1.cell 0 rfl rfl, ?_⟩
  refine ⟨_, M1.cell 0 rfl rfl, ?_⟩
  intro g2 w2 h2
  have M2 := M1.alloc h2
  exact ⟨owns_block (cs := ints [x.who, x.what]) (M2.get 0 rfl) (M2.new 0 rfl) rfl (Nat.le_of_ble_eq_true rfl), M2.ext⟩
theorem classed_spec (x : Fact) (w : World) {g : Nat} {m : Int} (hc : w.heap[g]? = some (.cells #[.int .i64 m] 3 (0, 0))) :
    CallsV C.P 213 (#[] ++ [x.val].toArray ++ #[.pointer (some ⟨g, 0, none⟩)]) w fun v w' => v = .bool (idB x.who && idB x.what && decide (1 ≤ x.other ∧ x.other ≤ m)) ∧ Ext w w' := by
  refine callsV_of C_ok (args := [_, _]) (plans := []) Tryz.func213 rfl Tryz.ntmps213 (by kernel_rfl) (Nat.le_of_ble_eq_true rfl) ?_
  intro g2 w1 h1
  have M1 := (Mem.start w).alloc h1
  refine ⟨_, M1.cell 0 rfl rfl, ?_⟩
  refine (id_spec x.who w1).mono ?_
  rintro v w2 ⟨rfl, rfl⟩
  refine brE_mk (fun a1 => ?_) (fun a1 => ?_)
  case' refine_2 => exact ⟨by rw [a1]; rfl, M1.ext⟩
  refine ⟨_, M1.cell 0 rfl rfl, ?_⟩
  refine (id_spec x.what w2).mono ?_
  rintro v w3 ⟨rfl, rfl⟩
  refine brE_mk (fun a2 => ?_) (fun a2 => ?_)
  case' refine_2 => exact ⟨by rw [a1, a2]; rfl, M1.ext⟩
  refine ⟨_, M1.cell 0 rfl rfl, ?_⟩
  rw [a1, a2]
  refine brE_dec (fun a3 => ?_) (fun a3 => ?_)
  case' refine_2 =>
    have a3 : ¬ x.other ≥ 1 := a3
    exact ⟨by rw [decide_eq_false (fun h : 1 ≤ x.other ∧ x.other ≤ m => a3 h.1)]; rfl, M1.ext⟩
  have a3 : x.other ≥ 1 := a3
  refine ⟨_, M1.cell 0 rfl rfl, ?_⟩
  refine ⟨_, cell_of_block (h1.ext.heap hc) rfl, ?_⟩
  refine ⟨congrArg Value.bool ?_, M1.ext⟩
  rw [Bool.eq_iff_iff]
  simp only [Bool.true_and, decide_eq_true_eq]
  omega
theorem forms4_spec (x : Fact) (w : World) : CallsV C.P 214 (#[] ++ [x.val].toArray ++ #[]) w fun v w' => v = .bool (idB x.who && idB x.other && !decide (x.who = x.other)) ∧ Ext w w' := by
  refine callsV_of C_ok (args := [_]) (plans := []) Tryz.func214 rfl Tryz.ntmps214 (by kernel_rfl) (Nat.le_of_ble_eq_true rfl) ?_
  intro g2 w1 h1
  have M1 := (Mem.start w).alloc h1
  refine ⟨_, M1.cell 0 rfl rfl, ?_⟩
  refine (id_spec x.who w1).mono ?_
  rintro v w2 ⟨rfl, rfl⟩
  refine brE_mk (fun a1 => ?_) (fun a1 => ?_)
  case' refine_2 => exact ⟨by rw [a1]; rfl, M1.ext⟩
  refine ⟨_, M1.cell 0 rfl rfl, ?_⟩
  refine (id_spec x.other w2).mono ?_
  rintro v w3 ⟨rfl, rfl⟩
  refine brE_mk (fun a2 => ?_) (fun a2 => ?_)
  case' refine_2 => exact ⟨by rw [a1, a2]; rfl, M1.ext⟩
  refine ⟨_, M1.cell 0 rfl rfl, ?_⟩
  refine ⟨_, M1.cell 0 rfl rfl, ?_⟩
  exact ⟨by rw [a1, a2]; rfl, M1.ext⟩
theorem forms5_spec (x : Fact) (w : World) : CallsV C.P 215 (#[] ++ [x.val].toArray ++ #[]) w fun v w' => v = .bool (idB x.who && decide (1 ≤ x.other ∧ x.other ≤ 3)) ∧ Ext w w' := by
  refine callsV_of C_ok (args := [_]) (plans := []) Tryz.func215 rfl Tryz.ntmps215 (by kernel_rfl) (Nat.le_of_ble_eq_true rfl) ?_
  intro g2 w1 h1
  have M1 := (Mem.start w).alloc h1
  refine ⟨_, M1.cell 0 rfl rfl, ?_⟩
  refine (id_spec x.who w1).mono ?_
  rintro v w2 ⟨rfl, rfl⟩
  refine brE_mk (fun a1 => ?_) (fun a1 => ?_)
  case' refine_2 => exact ⟨by rw [a1]; rfl, M1.ext⟩
  refine ⟨_, M1.cell 0 rfl rfl, ?_⟩
  rw [a1]
  refine brE_dec (fun a3 => ?_) (fun a3 => ?_)
  case' refine_2 =>
    have a3 : ¬ x.other ≥ 1 := a3
    exact ⟨by rw [decide_eq_false (fun h : 1 ≤ x.other ∧ x.other ≤ 3 => a3 h.1)]; rfl, M1.ext⟩
  have a3 : x.other ≥ 1 := a3
  refine ⟨_, M1.cell 0 rfl rfl, ?_⟩
  refine ⟨congrArg Value.bool ?_, M1.ext⟩
  rw [Bool.eq_iff_iff]
  simp only [Bool.true_and, decide_eq_true_eq]
  omega
theorem forms8_spec (x : Fact) (w : World) : CallsV C.P 220 (#[] ++ [x.val].toArray ++ #[]) w fun v w' => v = .bool (idB x.who && idB x.what) ∧ Ext w w' := by
  refine callsV_of C_ok (args := [_]) (plans := []) Tryz.func220 rfl Tryz.ntmps220 (by kernel_rfl) (Nat.le_of_ble_eq_true rfl) ?_
  intro g2 w1 h1
  have M1 := (Mem.start w).alloc h1
  refine ⟨_, M1.cell 0 rfl rfl, ?_⟩
  refine (id_spec x.who w1).mono ?_
  rintro v w2 ⟨rfl, rfl⟩
  refine brE_mk (fun a1 => ?_) (fun a1 => ?_)
  case' refine_2 => exact ⟨by rw [a1]; rfl, M1.ext⟩
  refine ⟨_, M1.cell 0 rfl rfl, ?_⟩
  refine (id_spec x.what w2).mono ?_
  rintro v w3 ⟨rfl, rfl⟩
  exact ⟨by rw [a1]; rfl, M1.ext⟩
theorem forms10_spec (x : Fact) (w : World) : CallsV C.P 222 (#[] ++ [x.val].toArray ++ #[]) w fun v w' => v = .bool (idB x.who) ∧ Ext w w' := by
  refine callsV_of C_ok (args := [_]) (plans := []) Tryz.func222 rfl Tryz.ntmps222 (by kernel_rfl) (Nat.le_of_ble_eq_true rfl) ?_
  intro g2 w1 h1
  have M1 := (Mem.start w).alloc h1
  refine ⟨_, M1.cell 0 rfl rfl, ?_⟩
  refine (id_spec x.who w1).mono ?_
  rintro v w2 ⟨rfl, rfl⟩
  exact ⟨rfl, M1.ext⟩
theorem forms13_spec (x : Fact) (w : World) : CallsV C.P 225 (#[] ++ [x.val].toArray ++ #[]) w fun v w' => v = .bool (idB x.who) ∧ Ext w w' := by
  refine callsV_of C_ok (args := [_]) (plans := []) Tryz.func225 rfl Tryz.ntmps225 (by kernel_rfl) (Nat.le_of_ble_eq_true rfl) ?_
  intro g2 w1 h1
  have M1 := (Mem.start w).alloc h1
  refine ⟨_, M1.cell 0 rfl rfl, ?_⟩
  refine (id_spec x.who w1).mono ?_
  rintro v w2 ⟨rfl, rfl⟩
  exact ⟨rfl, M1.ext⟩
theorem forms15_spec (x : Fact) (w : World) : CallsV C.P 227 (#[] ++ [x.val].toArray ++ #[]) w fun v w' => v = .bool (idB x.what && !decide (x.what = x.id)) ∧ Ext w w' := by
  refine callsV_of C_ok (args := [_]) (plans := []) Tryz.func227 rfl Tryz.ntmps227 (by kernel_rfl) (Nat.le_of_ble_eq_true rfl) ?_
  intro g2 w1 h1
  have M1 := (Mem.start w).alloc h1
  refine ⟨_, M1.cell 0 rfl rfl, ?_⟩
  refine (id_spec x.what w1).mono ?_
  rintro v w2 ⟨rfl, rfl⟩
  refine brE_mk (fun a1 => ?_) (fun a1 => ?_)
  case' refine_2 => exact ⟨by rw [a1]; rfl, M1.ext⟩
  refine ⟨_, M1.cell 0 rfl rfl, ?_⟩
  refine ⟨_, M1.cell 0 rfl rfl, ?_⟩
  exact ⟨by rw [a1]; rfl, M1.ext⟩
end Go.Proofs.YtcnbpfecgokhiaaGreatDoor
namespace Go.Proofs.YtcnbpfecgokhiaaGreatDoor
open Go.Eng Go.RowKit
theorem forms3_spec (m : Int) (w : World) : CallsV C.P 212 (#[] ++ [.int .i64 m].toArray ++ #[]) w fun v w' => (∃ g, v = .func (.func 213) #[] #[.pointer (some ⟨g, 0, none⟩)] ∧ w'.heap[g]? = some (.cells #[.int .i64 m] 3 (0, 0))) ∧ Ext w w' := by
  refine callsV_of C_ok (args := [_]) (plans := []) Tryz.func212 rfl Tryz.ntmps212 (by kernel_rfl) (Nat.le_of_ble_eq_true rfl) ?_
  intro g w1 h1
  refine ⟨[], [.pointer (some ⟨g, 0, none⟩)], rfl, rfl, ?_⟩
  exact ⟨⟨g, rfl, h1.here⟩, h1.ext⟩
def form88 (wd : ByteArray) (a b c : Value) (n : Bool) : List Value := [.string wd, a, b, c, .bool n]
def fv (f : Nat) : Value := .func (.func f) #[] #[]
def clV (g : Nat) : Value := .func (.func 213) #[] #[.pointer (some ⟨g, 0, none⟩)]
def wordA (k : Nat) : ByteArray := match k with
  | 1 => ⟨#[110, 97, 109, 101]⟩
  | 2 => ⟨#[111, 102, 102, 105, 99, 101]⟩
  | 3 => ⟨#[97, 99, 116, 105, 110, 103]⟩
  | 4 => ⟨#[114, 101, 99, 111, 103, 110, 105, 115, 101]⟩
  | 5 => ⟨#[99, 114, 101, 100, 101, 110, 116, 105, 97, 108, 115]⟩
  | 6 => ⟨#[109, 97, 114, 114, 105, 101, 100]⟩
  | 7 => ⟨#[109, 111, 117, 114, 110, 105, 110, 103]⟩
  | 8 => ⟨#[118, 105, 115, 105, 116]⟩
  | 9 => ⟨#[100, 101, 112, 117, 116, 121]⟩
  | 10 => ⟨#[100, 101, 97, 116, 104]⟩
  | 11 => ⟨#[118, 111, 105, 100]⟩
  | _ => ⟨#[]⟩
def formK (p2 p3 p4 p8 : Nat) (k : Nat) : List Value := match k with
  | 1 => form88 (wordA 1) (fv 211) (fv 215) (fv 216) true
  | 2 => form88 (wordA 2) (fv 210) (clV p2) (fv 217) false
  | 3 => form88 (wordA 3) (fv 210) (clV p3) (fv 217) false
  | 4 => form88 (wordA 4) (fv 210) (clV p4) (fv 218) false
  | 5 => form88 (wordA 5) (fv 219) (fv 220) (fv 217) false
  | 6 => form88 (wordA 6) (fv 211) (fv 214) (fv 216) false
  | 7 => form88 (wordA 7) (fv 221) (fv 222) (fv 223) false
  | 8 => form88 (wordA 8) (fv 210) (clV p8) (fv 217) false
  | 9 => form88 (wordA 9) (fv 211) (fv 214) (fv 216) false
  | 10 => form88 (wordA 10) (fv 224) (fv 225) (fv 216) false
  | 11 => form88 (wordA 11) (fv 226) (fv 227) (fv 216) false
  | _ => [.string ⟨#[]⟩, .nilFunc, .nilFunc, .nilFunc, .bool false]
def formsL (p2 p3 p4 p8 : Nat) : List Value := (List.range 12).flatMap (formK p2 p3 p4 p8)
theorem put_eq {w w' : World} {g : Nat} {o o' : Obj} (h : Put w g o w') (e : o = o') : Put w g o' w' := e ▸ h
set_option maxRecDepth 100000 in
theorem forms_spec (w : World) : CallsV C.P 186 #[] w fun v w' => (∃ p2 p3 p4 p8, v = .agg (formsL p2 p3 p4 p8).toArray ∧ w'.heap[p2]? = some (.cells #[.int .i64 4] 3 (0, 0)) ∧ w'.heap[p3]? = some (.cells #[.int .i64 4] 3 (0, 0)) ∧ w'.heap[p4]? = some (.cells #[.int .i64 1000000] 3 (0, 0)) ∧ w'.heap[p8]? = some (.cells #[.int .i64 2] 3 (0, 0))) ∧ Ext w w' := by
  refine callsV_of C_ok (args := []) (plans := []) Tryz.func186 rfl Tryz.ntmps186 (by kernel_rfl) (Nat.le_of_ble_eq_true rfl) ?_
  intro g0 w1 h1
  have M1 := (Mem.start w).alloc h1
  refine (forms3_spec 4 w1).mono ?_
  rintro v w2 ⟨⟨p2, rfl, c2⟩, e2⟩
  refine (forms3_spec 4 w2).mono ?_
  rintro v w3 ⟨⟨p3, rfl, c3⟩, e3⟩
  refine (forms3_spec 1000000 w3).mono ?_
  rintro v w4 ⟨⟨p4, rfl, c4⟩, e4⟩
  refine (forms3_spec 2 w4).mono ?_
  rintro v w5 ⟨⟨p8, rfl, c8⟩, e5⟩
  have M5 := (((M1.grow e2).grow e3).grow e4).grow e5
  refine ⟨by kernel_rfl, _, _, M5.get 0 rfl, Nat.le_of_ble_eq_true (by kernel_rfl), by kernel_rfl, ?_⟩
  intro w6 h6
  have h6 := put_eq h6 (o' := .cells (formsL p2 p3 p4 p8).toArray 227 (0, 0)) (by kernel_rfl)
  have M6 := M5.put 0 rfl h6
  have hE : Ext w1 w5 := ((e2.trans e3).trans e4).trans e5
  have hne : ∀ {p : Nat} {m : Int}, w5.heap[p]? = some (.cells #[.int .i64 m] 3 (0, 0)) → p ≠ g0 := fun hp e => by
    subst e
    have := M5.get 0 rfl
    rw [hp] at this
    cases this
  have keep : ∀ {p : Nat} {m : Int}, w5.heap[p]? = some (.cells #[.int .i64 m] 3 (0, 0)) → w6.heap[p]? = some (.cells #[.int .i64 m] 3 (0, 0)) := fun hp => (h6.there _ (hne hp)).trans hp
  refine ⟨formsL p2 p3 p4 p8, by kernel_rfl, Rd.of_block h6.here, ?_⟩
  exact ⟨⟨p2, p3, p4, p8, rfl, keep (e5.heap (e4.heap (e3.heap c2))), keep (e5.heap (e4.heap c3)), keep (e5.heap c4), keep c8⟩, M6.ext⟩
end Go.Proofs.YtcnbpfecgokhiaaGreatDoor
namespace Go.Proofs.YtcnbpfecgokhiaaGreatDoor
open Go.Eng Go.RowKit
abbrev inRng (n : Nat) : Prop := C.can n = true
/-- What a form of a kind does. -/
def FormOk (w : World) (k : Nat) (v : Value) : Prop :=
  ∃ n1 n2 n3 c2, v = .agg #[.string (wordA k), .func (.func n1) #[] #[], .func (.func n2) #[] c2, .func (.func n3) #[] #[], .bool (Nat.beq k 1)] ∧ inRng n1 ∧ inRng n2 ∧ inRng n3 ∧
    (∀ g w', CallsV C.P n1 (#[] ++ [.pointer (some ⟨g, 0, none⟩)].toArray ++ #[]) w' (OffsPost g (offs k) w')) ∧
    (∀ (x : Fact) w', x.kind = k → Ext w w' → CallsV C.P n2 (#[] ++ [x.val].toArray ++ c2) w' fun r w'' => r = .bool (rightB x) ∧ Ext w' w'') ∧
    (∀ (x : Fact) w', x.kind = k → Ext w w' → CallsV C.P n3 (#[] ++ [x.val].toArray ++ #[]) w' fun r w'' => NewInts w'.heap.size w'' r (speaks x) ∧ Ext w' w'')
theorem FormOk.ext {w w' : World} {k : Nat} {v : Value} (h : FormOk w k v) (e : Ext w w') : FormOk w' k v := by
  obtain ⟨n1, n2, n3, c2, h0, r1, r2, r3, a1, a2, a3⟩ := h
  exact ⟨n1, n2, n3, c2, h0, r1, r2, r3, a1, fun x w2 hk e2 => a2 x w2 hk (e.trans e2), fun x w2 hk e2 => a3 x w2 hk (e.trans e2)⟩
theorem form_ok {w : World} {p2 p3 p4 p8 : Nat} (h2 : w.heap[p2]? = some (.cells #[.int .i64 4] 3 (0, 0))) (h3 : w.heap[p3]? = some (.cells #[.int .i64 4] 3 (0, 0))) (h4 : w.heap[p4]? = some (.cells #[.int .i64 1000000] 3 (0, 0))) (h8 : w.heap[p8]? = some (.cells #[.int .i64 2] 3 (0, 0))) {k : Nat} (h1 : 1 ≤ k) (hk : k ≤ 11) :
    FormOk w k (.agg (formK p2 p3 p4 p8 k).toArray) := by
  have cases : k = 1 ∨ k = 2 ∨ k = 3 ∨ k = 4 ∨ k = 5 ∨ k = 6 ∨ k = 7 ∨ k = 8 ∨ k = 9 ∨ k = 10 ∨ k = 11 := by omega
  rcases cases with rfl | rfl | rfl | rfl | rfl | rfl | rfl | rfl | rfl | rfl | rfl
  · exact ⟨_, _, _, _, rfl, rfl, rfl, rfl, fun g w' => forms2_spec g w', fun x w' hk e => by
      have : rightB x = (idB x.who && decide (1 ≤ x.other ∧ x.other ≤ 3)) := by simp [rightB, hk]
      rw [this]; exact forms5_spec x w', fun x w' hk e => by
      have : speaks x = [] := by simp [speaks, hk]
      rw [this]; exact none_spec x w'⟩
  · exact ⟨_, _, _, _, rfl, rfl, rfl, rfl, fun g w' => forms1_spec g w', fun x w' hk e => by
      have : rightB x = (idB x.who && idB x.what && decide (1 ≤ x.other ∧ x.other ≤ 4)) := by simp [rightB, hk]
      rw [this]; exact classed_spec x w' (e.heap h2), fun x w' hk e => by
      have : speaks x = [x.what] := by simp [speaks, hk]
      rw [this]; exact what_spec x w'⟩
  · exact ⟨_, _, _, _, rfl, rfl, rfl, rfl, fun g w' => forms1_spec g w', fun x w' hk e => by
      have : rightB x = (idB x.who && idB x.what && decide (1 ≤ x.other ∧ x.other ≤ 4)) := by simp [rightB, hk]
      rw [this]; exact classed_spec x w' (e.heap h3), fun x w' hk e => by
      have : speaks x = [x.what] := by simp [speaks, hk]
      rw [this]; exact what_spec x w'⟩
  · exact ⟨_, _, _, _, rfl, rfl, rfl, rfl, fun g w' => forms1_spec g w', fun x w' hk e => by
      have : rightB x = (idB x.who && idB x.what && decide (1 ≤ x.other ∧ x.other ≤ 1000000)) := by simp [rightB, hk]
      rw [this]; exact classed_spec x w' (e.heap h4), fun x w' hk e => by
      have : speaks x = [x.who, x.what] := by simp [speaks, hk]
      rw [this]; exact forms6_spec x w'⟩
  · exact ⟨_, _, _, _, rfl, rfl, rfl, rfl, fun g w' => forms7_spec g w', fun x w' hk e => by
      have : rightB x = (idB x.who && idB x.what) := by simp [rightB, hk]
      rw [this]; exact forms8_spec x w', fun x w' hk e => by
      have : speaks x = [x.what] := by simp [speaks, hk]
      rw [this]; exact what_spec x w'⟩
  · exact ⟨_, _, _, _, rfl, rfl, rfl, rfl, fun g w' => forms2_spec g w', fun x w' hk e => by
      have : rightB x = (idB x.who && idB x.other && !decide (x.who = x.other)) := by simp [rightB, hk]
      rw [this]; exact forms4_spec x w', fun x w' hk e => by
      have : speaks x = [] := by simp [speaks, hk]
      rw [this]; exact none_spec x w'⟩
  · exact ⟨_, _, _, _, rfl, rfl, rfl, rfl, fun g w' => forms9_spec g w', fun x w' hk e => by
      have : rightB x = idB x.who := by simp [rightB, hk]
      rw [this]; exact forms10_spec x w', fun x w' hk e => by
      have : speaks x = [x.who] := by simp [speaks, hk]
      rw [this]; exact forms11_spec x w'⟩
  · exact ⟨_, _, _, _, rfl, rfl, rfl, rfl, fun g w' => forms1_spec g w', fun x w' hk e => by
      have : rightB x = (idB x.who && idB x.what && decide (1 ≤ x.other ∧ x.other ≤ 2)) := by simp [rightB, hk]
      rw [this]; exact classed_spec x w' (e.heap h8), fun x w' hk e => by
      have : speaks x = [x.what] := by simp [speaks, hk]
      rw [this]; exact what_spec x w'⟩
  · exact ⟨_, _, _, _, rfl, rfl, rfl, rfl, fun g w' => forms2_spec g w', fun x w' hk e => by
      have : rightB x = (idB x.who && idB x.other && !decide (x.who = x.other)) := by simp [rightB, hk]
      rw [this]; exact forms4_spec x w', fun x w' hk e => by
      have : speaks x = [] := by simp [speaks, hk]
      rw [this]; exact none_spec x w'⟩
  · exact ⟨_, _, _, _, rfl, rfl, rfl, rfl, fun g w' => forms12_spec g w', fun x w' hk e => by
      have : rightB x = idB x.who := by simp [rightB, hk]
      rw [this]; exact forms13_spec x w', fun x w' hk e => by
      have : speaks x = [] := by simp [speaks, hk]
      rw [this]; exact none_spec x w'⟩
  · exact ⟨_, _, _, _, rfl, rfl, rfl, rfl, fun g w' => forms14_spec g w', fun x w' hk e => by
      have : rightB x = (idB x.what && !decide (x.what = x.id)) := by simp [rightB, hk]
      rw [this]; exact forms15_spec x w', fun x w' hk e => by
      have : speaks x = [] := by simp [speaks, hk]
      rw [this]; exact none_spec x w'⟩
end Go.Proofs.YtcnbpfecgokhiaaGreatDoor
namespace Go.Proofs.YtcnbpfecgokhiaaGreatDoor
open Go.Eng Go.RowKit
theorem formK_len (p2 p3 p4 p8 k : Nat) : (formK p2 p3 p4 p8 k).length = 5 := by unfold formK; split <;> rfl
theorem formK_one (p2 p3 p4 p8 k : Nat) : (formK p2 p3 p4 p8 k).all (·.oneCell') = true := by unfold formK; split <;> rfl
theorem splice_whole {cs vs : List Value} (h : cs.length ≤ vs.length) : splice cs 0 vs = vs := by
  unfold splice
  rw [List.take_zero, List.nil_append, List.drop_eq_nil_of_le (by omega), List.append_nil]
theorem forms_at {p2 p3 p4 p8 : Nat} : ∀ {k : Nat}, 1 ≤ k → k ≤ 11 → (formsL p2 p3 p4 p8).toArray.extract (k * 5) (k * 5 + 5) = (formK p2 p3 p4 p8 k).toArray
  | 0, h, _ => absurd h (by decide)
  | 1, _, _ => by kernel_rfl
  | 2, _, _ => by kernel_rfl
  | 3, _, _ => by kernel_rfl
  | 4, _, _ => by kernel_rfl
  | 5, _, _ => by kernel_rfl
  | 6, _, _ => by kernel_rfl
  | 7, _, _ => by kernel_rfl
  | 8, _, _ => by kernel_rfl
  | 9, _, _ => by kernel_rfl
  | 10, _, _ => by kernel_rfl
  | 11, _, _ => by kernel_rfl
  | n + 12, _, h => absurd h (by omega)
set_option maxRecDepth 100000 in
theorem formOf_spec (k : Nat) (w : World) : CallsV C.P 163 #[.int .u8 k] w fun v w' =>
    (if 1 ≤ k ∧ k ≤ 11 then ∃ cs : List Value, v = .tuple #[.agg cs.toArray, .bool true] ∧ cs.length = 5 ∧ cs.all (·.oneCell') = true ∧ FormOk w' k (.agg cs.toArray) else v = .tuple #[.agg (formK 0 0 0 0 0).toArray, .bool false]) ∧ Ext w w' := by
  refine callsV_of C_ok (args := [_]) (plans := []) Tryz.func163 rfl Tryz.ntmps163 (by kernel_rfl) (Nat.le_of_ble_eq_true rfl) ?_
  intro g2 w1 h1
  have M1 := (Mem.start w).alloc h1
  have no : ¬ (1 ≤ k ∧ k ≤ 11) → ∀ {w' : World}, Put w1 g2 (.cells (formK 0 0 0 0 0).toArray 203 (0, 0)) w' → Ext w w' := fun _ w' h => (M1.put 0 rfl h).ext
  refine brE_dec (fun a1 => ?_) (fun a1 => ?_)
  · have a1 : (k : Int) < 1 := a1
    refine ⟨rfl, _, _, M1.get 0 rfl, Nat.le_of_ble_eq_true rfl, rfl, ?_⟩
    intro w2 h2
    have h2 : Put w1 g2 (.cells (formK 0 0 0 0 0).toArray 203 (0, 0)) w2 := h2
    refine ⟨formK 0 0 0 0 0, rfl, Rd.of_block h2.here, ?_⟩
    refine ⟨?_, no (by omega) h2⟩
    rw [if_neg (by omega)]
  have a1 : ¬ (k : Int) < 1 := a1
  refine brE_dec (fun a2 => ?_) (fun a2 => ?_)
  · have a2 : (k : Int) > 11 := a2
    refine ⟨rfl, _, _, M1.get 0 rfl, Nat.le_of_ble_eq_true rfl, rfl, ?_⟩
    intro w2 h2
    have h2 : Put w1 g2 (.cells (formK 0 0 0 0 0).toArray 203 (0, 0)) w2 := h2
    refine ⟨formK 0 0 0 0 0, rfl, Rd.of_block h2.here, ?_⟩
    refine ⟨?_, no (by omega) h2⟩
    rw [if_neg (by omega)]
  have a2 : ¬ (k : Int) > 11 := a2
  refine (forms_spec w1).mono ?_
  rintro v w2 ⟨⟨p2, p3, p4, p8, rfl, c2, c3, c4, c8⟩, e2⟩
  have M2 := M1.grow e2
  have hx := forms_at (p2 := p2) (p3 := p3) (p4 := p4) (p8 := p8) (k := k) (by omega) (by omega)
  have hlen := formK_len p2 p3 p4 p8 k
  refine ⟨k, rfl, by omega, ?_⟩
  refine ⟨?s, _, _, M2.get 0 rfl, Nat.le_of_ble_eq_true rfl, ?o, ?_⟩
  case s =>
    show ((formsL p2 p3 p4 p8).toArray.extract (k * 5) (k * 5 + 5)).size = 5
    rw [hx]; exact hlen
  case o =>
    show ((formsL p2 p3 p4 p8).toArray.extract (k * 5) (k * 5 + 5)).toList.all (·.oneCell') = true
    rw [hx]; exact formK_one p2 p3 p4 p8 k
  intro w3 h3
  have h3 := put_eq h3 (o' := .cells (formK p2 p3 p4 p8 k).toArray 203 (0, 0)) (by
    show Obj.cells (splice _ 0 ((formsL p2 p3 p4 p8).toArray.extract (k * 5) (k * 5 + 5)).toList).toArray _ _ = _
    rw [hx]
    congr 2
    exact splice_whole (by rw [hlen]; exact Nat.le_of_ble_eq_true rfl))
  have M3 := M2.put 0 rfl h3
  have keep : ∀ {p : Nat} {m : Int}, w2.heap[p]? = some (.cells #[.int .i64 m] 3 (0, 0)) → w3.heap[p]? = some (.cells #[.int .i64 m] 3 (0, 0)) := fun hp => (h3.there _ (fun e => by
    subst e
    have := M2.get 0 rfl
    rw [hp] at this
    cases this)).trans hp
  refine ⟨formK p2 p3 p4 p8 k, hlen, Rd.of_block h3.here, ?_⟩
  refine ⟨?_, M3.ext⟩
  rw [if_pos ⟨by omega, by omega⟩]
  exact ⟨_, rfl, hlen, formK_one _ _ _ _ _, form_ok (keep c2) (keep c3) (keep c4) (keep c8) (by omega) (by omega)⟩
end Go.Proofs.YtcnbpfecgokhiaaGreatDoor
namespace Go.Proofs.YtcnbpfecgokhiaaGreatDoor
open Go.Eng Go.RowKit
theorem formE_head {x : Fact} (h : headB x = false) : formE x = 1 := by unfold formE; rw [h]; rfl
theorem headB_iff {x : Fact} : headB x = true ↔ (1 ≤ x.kind ∧ x.kind ≤ 11) ∧ idB x.id = true ∧ (0 ≤ x.known ∧ x.known ≤ 100000) ∧ (0 ≤ x.since ∧ x.since ≤ 100000) ∧ (x.til = 0 ∨ x.since < x.til ∧ x.til ≤ 100000) := by
  simp only [headB, Bool.and_eq_true, Bool.or_eq_true, decide_eq_true_eq]
  constructor
  · rintro ⟨⟨⟨⟨a, b⟩, c⟩, d⟩, e⟩; exact ⟨a, b, c, d, e⟩
  · rintro ⟨a, b, c, d, e⟩; exact ⟨⟨⟨⟨a, b⟩, c⟩, d⟩, e⟩
theorem headB_no {x : Fact} (h : headB x = true → False) : headB x = false := by
  cases hh : headB x with
  | false => rfl
  | true => exact (h hh).elim
/-- A fact some of whose fields are struck. -/
def zeroAt (x : Fact) : List Nat → List Value := fun os => os.foldl (fun cs o => splice cs o [.int .i64 0]) x.cells
theorem zeroAt_snoc (x : Fact) (os : List Nat) (o : Nat) : zeroAt x (os ++ [o]) = splice (zeroAt x os) o [.int .i64 0] := by simp [zeroAt]
theorem zeroAt_length (x : Fact) : ∀ (os : List Nat), (∀ o ∈ os, o < 9) → (zeroAt x os).length = 9 := by
  suffices h : ∀ (os : List Nat) (cs : List Value), cs.length = 9 → (∀ o ∈ os, o < 9) → (os.foldl (fun cs o => splice cs o [.int .i64 0]) cs).length = 9 from fun os ho => h os _ rfl ho
  intro os
  induction os with
  | nil => intro cs h _; exact h
  | cons o r ih =>
    intro cs h ho
    have := ho o (by simp)
    exact ih _ (by rw [splice_length (by rw [h]; simp; omega)]; exact h) fun o' h' => ho o' (by simp [h'])
/-- What is left of a fact when the fields that its kind uses are struck. -/
def restF (x : Fact) : Fact := ⟨0, 0, 0, if 3 ∈ offs x.kind then 0 else x.who, if 4 ∈ offs x.kind then 0 else x.what, if 5 ∈ offs x.kind then 0 else x.other, if 6 ∈ offs x.kind then 0 else x.since, if 7 ∈ offs x.kind then 0 else x.til, if x.kind = 1 then ⟨#[]⟩ else x.name⟩
theorem restF_zero (x : Fact) : restF x = factZ ↔ restB x = true := by
  unfold restF factZ restB
  simp only [Fact.mk.injEq, Bool.and_eq_true, Bool.or_eq_true, decide_eq_true_eq, true_and]
  have key : ∀ {p : Prop} [Decidable p] {a : Int}, (if p then 0 else a) = 0 ↔ p ∨ a = 0 := fun {p} _ {a} => by
    by_cases h : p <;> simp [h]
  have key2 : ∀ {p : Prop} [Decidable p] {a : ByteArray}, (if p then ⟨#[]⟩ else a) = ⟨#[]⟩ ↔ p ∨ a = ⟨#[]⟩ := fun {p} _ {a} => by
    by_cases h : p <;> simp [h]
  rw [key, key, key, key, key, key2]
  constructor
  · rintro ⟨a, b, c, d, e, f⟩; exact ⟨⟨⟨⟨⟨a, b⟩, c⟩, d⟩, e⟩, f⟩
  · rintro ⟨⟨⟨⟨⟨a, b⟩, c⟩, d⟩, e⟩, f⟩; exact ⟨a, b, c, d, e, f⟩
theorem struck {x : Fact} {k : Nat} (hk : x.kind = (k : Int)) (h1 : 1 ≤ k) (h2 : k ≤ 11) :
    (if k = 1 then splice (splice (splice (splice (zeroAt x (offs k)) 0 [.int .i64 0]) 1 [.int .i64 0]) 2 [.int .u8 0]) 8 [.string ⟨#[]⟩] else splice (splice (splice (zeroAt x (offs k)) 0 [.int .i64 0]) 1 [.int .i64 0]) 2 [.int .u8 0]) = (restF x).cells := by
  have cases : k = 1 ∨ k = 2 ∨ k = 3 ∨ k = 4 ∨ k = 5 ∨ k = 6 ∨ k = 7 ∨ k = 8 ∨ k = 9 ∨ k = 10 ∨ k = 11 := by omega
  obtain ⟨x0, x1, x2, x3, x4, x5, x6, x7, x8⟩ := x
  have hk : x2 = (k : Int) := hk
  subst hk
  rcases cases with rfl | rfl | rfl | rfl | rfl | rfl | rfl | rfl | rfl | rfl | rfl <;> simp [zeroAt, offs, restF, Fact.cells, splice]
end Go.Proofs.YtcnbpfecgokhiaaGreatDoor
namespace Go.Proofs.YtcnbpfecgokhiaaGreatDoor
open Go.Eng Go.RowKit
theorem ptrs_get {g : Nat} {os : List Nat} {i : Nat} (hi : i < os.length) : (ptrs g os)[i]? = some (.pointer (some ⟨g, os[i], none⟩)) := by
  simp [ptrs, hi]
theorem offs_lt (k : Int) : ∀ o ∈ offs k, o < 9 := by
  intro o ho
  unfold offs at ho
  split at ho
  · simp at ho; omega
  · split at ho
    · simp at ho; omega
    · split at ho
      · simp at ho; omega
      · split at ho
        · simp at ho; omega
        · split at ho
          · simp at ho; omega
          · simp at ho; omega
theorem offs_len (k : Int) : (offs k).length ≤ 5 := by
  unfold offs
  split
  · decide
  · split
    · decide
    · split
      · decide
      · split
        · decide
        · split <;> decide
theorem formE_rest {x : Fact} (h : restB x = true → False) : formE x = 1 := by
  unfold formE
  rw [if_neg]
  intro hh
  simp only [Bool.and_eq_true] at hh
  exact h hh.1.2
theorem formE_right {x : Fact} (h : rightB x = true → False) : formE x = 1 := by
  unfold formE
  rw [if_neg]
  intro hh
  simp only [Bool.and_eq_true] at hh
  exact h hh.2
theorem formE_ok {x : Fact} (h1 : headB x = true) (h2 : restB x = true) (h3 : rightB x = true) : formE x = if x.kind = 1 ∧ nameB x.name.data.toList = false then 4 else 0 := by
  unfold formE
  rw [if_pos (by rw [h1, h2, h3]; rfl)]
set_option maxRecDepth 100000 in
theorem formedF_spec (x : Fact) (hx : x.Nums) (w : World) : CallsV C.P 162 #[x.val] w fun v w' => v = .int .i64 (formE x) ∧ Ext w w' := by
  obtain ⟨k, hk⟩ := Int.eq_ofNat_of_zero_le hx.kind.1
  refine callsV_of C_ok (args := [_]) (plans := []) Tryz.func162 rfl Tryz.ntmps162 (by kernel_rfl) (Nat.le_of_ble_eq_true rfl) ?_
  intro g1 w1 h1
  have M1 := (Mem.start w).alloc h1
  have bad : ∀ {w' : World}, (headB x = true → False) → Ext w w' → Value.int .i64 1 = .int .i64 (formE x) ∧ Ext w w' := fun h e => ⟨by rw [formE_head (headB_no h)], e⟩
  refine ⟨.int .u8 (k : Int), by rw [← hk]; exact M1.cell 0 rfl rfl, ?_⟩
  refine (formOf_spec k w1).mono ?_
  rintro v w2 ⟨hv, e2⟩
  have M2 := M1.grow e2
  by_cases hr : 1 ≤ k ∧ k ≤ 11
  case neg =>
    rw [if_neg hr] at hv
    subst hv
    intro g3 w3 h3
    have M3 := M2.alloc h3
    refine ⟨rfl, _, _, M3.get 0 rfl, Nat.le_of_ble_eq_true rfl, rfl, ?_⟩
    intro w4 h4
    exact bad (fun h => hr (by have := (headB_iff.1 h).1; omega)) (M3.put 0 rfl h4).ext
  rw [if_pos hr] at hv
  obtain ⟨cs, rfl, hlen, hone, hform⟩ := hv
  obtain ⟨n1, n2, n3, c2, heq, r1, r2, r3, a1, a2, a3⟩ := hform
  have hcs : cs = [.string (wordA k), .func (.func n1) #[] #[], .func (.func n2) #[] c2, .func (.func n3) #[] #[], .bool (Nat.beq k 1)] := by
    injection heq with h
    exact congrArg Array.toList h
  subst hcs
  intro g3 w3 h3
  have M3 := M2.alloc h3
  refine ⟨rfl, _, _, M3.get 0 rfl, Nat.le_of_ble_eq_true rfl, hone, ?_⟩
  intro w4 h4
  have M4 : Mem w w4 [(g3, .cells #[.string (wordA k), .func (.func n1) #[] #[], .func (.func n2) #[] c2, .func (.func n3) #[] #[], .bool (Nat.beq k 1)] 203 (0, 0)), (g1, .cells x.cells.toArray 81 (0, 0))] := M3.put 0 rfl h4
  refine ⟨_, M4.cell 1 rfl rfl, ?_⟩
  refine (id_spec x.id w4).mono ?_
  rintro v w5 ⟨rfl, rfl⟩
  refine brE_mk (fun b1 => ?_) (fun b1 => ?_)
  · exact bad (fun h => by rw [(headB_iff.1 h).2.1] at b1; cases b1) M4.ext
  have b1 : idB x.id = true := by simpa using b1
  refine ⟨_, M4.cell 1 rfl rfl, ?_⟩
  refine brE_dec (fun b2 => ?_) (fun b2 => ?_)
  · have b2 : x.known < 0 := b2
    exact bad (fun h => by have := (headB_iff.1 h).2.2.1; omega) M4.ext
  have b2 : ¬ x.known < 0 := b2
  refine ⟨_, M4.cell 1 rfl rfl, ?_⟩
  refine brE_dec (fun b3 => ?_) (fun b3 => ?_)
  · have b3 : x.known > 100000 := b3
    exact bad (fun h => by have := (headB_iff.1 h).2.2.1; omega) M4.ext
  have b3 : ¬ x.known > 100000 := b3
  refine ⟨_, M4.cell 1 rfl rfl, ?_⟩
  refine brE_dec (fun b4 => ?_) (fun b4 => ?_)
  · have b4 : x.since < 0 := b4
    exact bad (fun h => by have := (headB_iff.1 h).2.2.2.1; omega) M4.ext
  have b4 : ¬ x.since < 0 := b4
  refine ⟨_, M4.cell 1 rfl rfl, ?_⟩
  refine brE_dec (fun b5 => ?_) (fun b5 => ?_)
  · have b5 : x.since > 100000 := b5
    exact bad (fun h => by have := (headB_iff.1 h).2.2.2.1; omega) M4.ext
  have b5 : ¬ x.since > 100000 := b5
  refine ⟨_, M4.cell 1 rfl rfl, ?_⟩
  refine brE_ndec (fun b6 => ?A) (fun b6 => ?B)
  case' A =>
    have b6 : ¬ x.til = 0 := b6
    refine ⟨_, M4.cell 1 rfl rfl, ?_⟩
    refine ⟨_, M4.cell 1 rfl rfl, ?_⟩
    refine brE_dec (fun b7 => ?A1) (fun b7 => ?A2)
    case' A1 =>
      have b7 : x.til ≤ x.since := b7
      exact bad (fun h => by have := (headB_iff.1 h).2.2.2.2; omega) M4.ext
    have b7 : ¬ x.til ≤ x.since := b7
    refine ⟨_, M4.cell 1 rfl rfl, ?_⟩
    refine brE_dec (fun b8 => ?A3) (fun b8 => ?A4)
    case' A3 =>
      have b8 : x.til > 100000 := b8
      exact bad (fun h => by have := (headB_iff.1 h).2.2.2.2; omega) M4.ext
    have b8 : ¬ x.til > 100000 := b8
    have hhead : headB x = true := headB_iff.2 ⟨by omega, b1, by omega, by omega, .inr (by omega)⟩
  case' B =>
    have b6 : x.til = 0 := b6
    have hhead : headB x = true := headB_iff.2 ⟨by omega, b1, by omega, by omega, .inl b6⟩
  all_goals
    clear bad
    have N4 : Mem w2 w5 [(g3, .cells #[.string (wordA k), .func (.func n1) #[] #[], .func (.func n2) #[] c2, .func (.func n3) #[] #[], .bool (Nat.beq k 1)] 203 (0, 0))] := ((Mem.start w2).alloc h3).put 0 rfl h4
    have hg1 : w2.heap[g1]? = some (.cells x.cells.toArray 81 (0, 0)) := M2.get 0 rfl
    have e02 := M2.ext
    clear M4 M2 M1
    refine ⟨x.cells, rfl, Rd.of_block (N4.ext.heap hg1), ?_⟩
    intro g5 w6 h6
    have N6 := N4.alloc h6
    refine ⟨rfl, _, _, N6.get 0 rfl, Nat.le_of_ble_eq_true rfl, rfl, ?_⟩
    intro w7 h7
    have h7 : Put w6 g5 (.cells x.cells.toArray 81 (0, 0)) w7 := h7
    have N7 : Mem w2 w7 [(g5, .cells x.cells.toArray 81 (0, 0)), (g3, .cells #[.string (wordA k), .func (.func n1) #[] #[], .func (.func n2) #[] c2, .func (.func n3) #[] #[], .bool (Nat.beq k 1)] 203 (0, 0))] := N6.put 0 rfl h7
    refine ⟨_, N7.cell 1 rfl rfl, ?_⟩
    refine brE_true r1 ?_
    refine (a1 g5 w7).mono ?_
    rintro v w8 ⟨⟨h, rfl, hh, hnew⟩, e8⟩
    have N8 := (N7.grow e8).add hh (Nat.le_trans N7.ext.size hnew) (fun p hp => by
      have := N7.lt (g := p.1) (o := p.2) hp
      omega)
    have hlen5 := offs_len k
    refine loopE C_ok (fun (i : Nat) => [(1, .pointer (some ⟨g1, 0, none⟩)), (3, .pointer (some ⟨g3, 0, none⟩)), (5, .pointer (some ⟨g5, 0, none⟩)), (62, .slice (some ⟨h, 0, none⟩) (offs k).length (offs k).length), (63, .int .i64 (offs k).length), (64, .int .i64 i)])
      (fun i w' => i ≤ (offs k).length ∧ Mem w2 w' [(h, .cells (ptrs g5 (offs k)).toArray 167 (0, 0)), (g5, .cells (zeroAt x ((offs k).take i)).toArray 81 (0, 0)), (g3, .cells #[.string (wordA k), .func (.func n1) #[] #[], .func (.func n2) #[] c2, .func (.func n3) #[] #[], .bool (Nat.beq k 1)] 203 (0, 0))]) (fun i => (offs k).length - i) 0
      ⟨rfl, rfl, rfl, rfl, rfl, rfl, trivial⟩ ⟨Nat.zero_le _, N8⟩ ?_
    rintro i w9 ⟨hi, N9⟩
    have hzl := zeroAt_length x ((offs k).take i) (fun o ho => offs_lt k o (List.mem_of_mem_take ho))
    refine brE_dec (fun hlt => ?_) (fun hge => ?_)
    · have hlt : i < (offs k).length := by have : (i : Int) < ((offs k).length : Nat) := hlt; omega
      have hol := offs_lt k _ (List.getElem_mem hlt)
      refine ⟨i, h, 0, rfl, hlt, rfl, ?_⟩
      refine ⟨.pointer (some ⟨g5, (offs k)[i], none⟩), by have := (N9.rd 0 rfl) i _ (ptrs_get hlt); simpa using this, ?_⟩
      refine ⟨rfl, _, _, N9.get 1 rfl, by rw [hzl]; show (offs k)[i] + 1 ≤ 9; omega, rfl, ?_⟩
      intro w10 h10
      have h10 : Put w9 g5 (.cells (splice (zeroAt x ((offs k).take i)) (offs k)[i] [.int .i64 0]).toArray 81 (0, 0)) w10 := h10
      rw [← zeroAt_snoc, ← List.take_succ_eq_append_getElem hlt] at h10
      refine ⟨((i + 1 : Nat) : Int), fit ⟨by omega, by omega⟩, ?_⟩
      exact ⟨i + 1, ⟨rfl, rfl, rfl, rfl, rfl, rfl, trivial⟩, ⟨hlt, N9.put 1 rfl h10⟩, by omega⟩
    have : i = (offs k).length := by have : ¬ (i : Int) < ((offs k).length : Nat) := hge; omega
    subst this
    rw [List.take_length] at N9 hzl
    have hst := struck hk hr.1 hr.2
    generalize zeroAt x (offs k) = Z at N9 hzl hst
    refine ⟨rfl, _, _, N9.get 1 rfl, by rw [hzl]; exact Nat.le_of_ble_eq_true rfl, rfl, ?_⟩
    intro w10 h10
    have N10 := N9.put 1 rfl h10
    have hz0 : (splice Z 0 [.int .i64 0]).length = 9 := by rw [splice_length (by rw [hzl]; exact Nat.le_of_ble_eq_true rfl)]; exact hzl
    refine ⟨rfl, _, _, N10.get 1 rfl, by show _ ≤ (splice Z 0 [.int .i64 0]).length; rw [hz0]; exact Nat.le_of_ble_eq_true rfl, rfl, ?_⟩
    intro w11 h11
    have N11 := N10.put 1 rfl h11
    have hz1 : (splice (splice Z 0 [.int .i64 0]) 1 [.int .i64 0]).length = 9 := by rw [splice_length (by rw [hz0]; exact Nat.le_of_ble_eq_true rfl)]; exact hz0
    refine ⟨rfl, _, _, N11.get 1 rfl, by show _ ≤ (splice (splice Z 0 [.int .i64 0]) 1 [.int .i64 0]).length; rw [hz1]; exact Nat.le_of_ble_eq_true rfl, rfl, ?_⟩
    intro w12 h12
    have N12 := N11.put 1 rfl h12
    have hz2 : (splice (splice (splice Z 0 [.int .i64 0]) 1 [.int .i64 0]) 2 [.int .u8 0]).length = 9 := by rw [splice_length (by rw [hz1]; exact Nat.le_of_ble_eq_true rfl)]; exact hz1
    refine ⟨_, N12.cell 2 rfl rfl, ?_⟩
    refine brE_mk (fun hn => ?_) (fun hn => ?_)
    case' refine_1 =>
      have hn : k = 1 := Nat.eq_of_beq_eq_true hn
      rw [if_pos hn] at hst
      refine ⟨rfl, _, _, N12.get 1 rfl, by show _ ≤ (splice (splice (splice Z 0 [.int .i64 0]) 1 [.int .i64 0]) 2 [.int .u8 0]).length; rw [hz2]; exact Nat.le_of_ble_eq_true rfl, rfl, ?_⟩
      intro w13 h13
      have N13 : Mem w2 w13 [(h, .cells (ptrs g5 (offs k)).toArray 167 (0, 0)), (g5, .cells (restF x).cells.toArray 81 (0, 0)), (g3, .cells #[.string (wordA k), .func (.func n1) #[] #[], .func (.func n2) #[] c2, .func (.func n3) #[] #[], .bool (Nat.beq k 1)] 203 (0, 0))] := by
        rw [← hst]; exact N12.put 1 rfl h13
    case' refine_2 =>
      have hn : ¬ k = 1 := fun e => by rw [e] at hn; cases hn
      rw [if_neg hn] at hst
      have N13 : Mem w2 w12 [(h, .cells (ptrs g5 (offs k)).toArray 167 (0, 0)), (g5, .cells (restF x).cells.toArray 81 (0, 0)), (g3, .cells #[.string (wordA k), .func (.func n1) #[] #[], .func (.func n2) #[] c2, .func (.func n3) #[] #[], .bool (Nat.beq k 1)] 203 (0, 0))] := by
        rw [← hst]; exact N12
    all_goals
      clear hst hz2 hz1 hz0 N12 N11 N10 N9
      have hrz := restF_zero x
      refine ⟨(restF x).cells, rfl, N13.rd 1 rfl, ?_⟩
      refine ⟨_, neqF _ _ (restF x) factZ, ?_⟩
      refine brE_ndec (fun hd => ?_) (fun hd => ?_)
      · exact ⟨by rw [formE_rest fun h => hd (hrz.2 h)], e02.trans N13.ext⟩
      have hrest := hrz.1 hd
      refine ⟨_, N13.cell 2 rfl rfl, ?_⟩
      refine ⟨x.cells, rfl, Rd.of_block (N13.ext.heap hg1), ?_⟩
      refine brE_true r2 ?_
      refine (a2 x _ hk N13.ext).mono ?_
      rintro v w14 ⟨rfl, e14⟩
      have N14 := N13.grow e14
      refine brE_mk (fun hri => ?_) (fun hri => ?_)
      · exact ⟨by rw [formE_right fun h => by rw [h] at hri; cases hri], e02.trans N14.ext⟩
      have hri : rightB x = true := by simpa using hri
      have hok := formE_ok hhead hrest hri
      refine ⟨_, N14.cell 2 rfl rfl, ?_⟩
      first
      | (have hk1 : x.kind = 1 := by omega
         refine brE_mk (fun hb => ?_) (fun hb => ?_)
         · refine ⟨_, cell_of_block (N14.ext.heap hg1) rfl, ?_⟩
           refine (isName_spec x.name w14 hx.name).mono ?_
           rintro v w15 ⟨rfl, rfl⟩
           refine brE_mk (fun hm => ?_) (fun hm => ?_)
           · exact ⟨by rw [hok, if_pos ⟨hk1, by simpa using hm⟩], e02.trans N14.ext⟩
           · have hm : nameB x.name.data.toList = true := by simpa using hm
             exact ⟨by rw [hok, if_neg (fun h => by rw [hm] at h; cases h.2)], e02.trans N14.ext⟩
         · exact absurd hb (by rw [show k = 1 by omega]; decide))
      | (have hk1 : ¬ x.kind = 1 := by omega
         refine brE_mk (fun hb => ?_) (fun hb => ?_)
         · exact absurd (Nat.eq_of_beq_eq_true hb) (by omega)
         · exact ⟨by rw [hok, if_neg (fun h => hk1 h.1)], e02.trans N14.ext⟩)
end Go.Proofs.YtcnbpfecgokhiaaGreatDoor
namespace Go.Proofs.YtcnbpfecgokhiaaGreatDoor
open Go.Eng Go.RowKit
theorem formE_zero {x : Fact} (h : formE x = 0) : headB x = true ∧ restB x = true ∧ rightB x = true ∧ (x.kind = 1 → nameB x.name.data.toList = true) := by
  unfold formE at h
  split at h
  · rename_i h1
    simp only [Bool.and_eq_true] at h1
    refine ⟨h1.1.1, h1.1.2, h1.2, fun hk => ?_⟩
    cases hn : nameB x.name.data.toList with
    | true => rfl
    | false => rw [if_pos ⟨hk, hn⟩] at h; cases h
  · cases h
end Go.Proofs.YtcnbpfecgokhiaaGreatDoor
