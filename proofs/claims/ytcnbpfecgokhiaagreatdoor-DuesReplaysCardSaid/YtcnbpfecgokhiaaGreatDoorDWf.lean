/- Dues: a gift is taken, refused. -/
import Derived.Test.YtcnbpfecgokhiaaGreatDoorDWe
set_option linter.unusedVariables false
set_option linter.unusedSimpArgs false
set_option linter.unnecessarySimpa false
set_option linter.unusedSectionVars false
namespace Go.Proofs.YtcnbpfecgokhiaaGreatDoor
open Go.Eng Go.RowKit
open Go.Maps (Keyed)

/-- A part of a state's gifts is written: the rest is as it was. -/
theorem gifts_put {w w' : World} {s : SV} {es es' : List Entry} {x : Entry} {g : Nat} (h : StateIs w s es) (hk : x.kind = 6 ∨ x.kind = 7) (he : es' = es ++ [x]) (hown : s.vG.ownBlock = some g) (hput : ∀ k, s.has k → k ≠ g → k ≠ s.bM → w'.heap[k]? = w.heap[k]?)
    (hrow : w'.ownsRow 0 37 10 s.vG (giftL es').length ((giftL es').flatMap Gift.cells)) (hmet : ∃ f, MapIs C.P 3 w' s.bM f ∧ ∀ c, c ≠ 0 → f (.int .i64 c) = numV (metL (giftL es') c)) : StateIs w' s es' := by
  subst he
  have hG := h.apartG hown
  have hnd := h.nodup
  simp only [List.nodup_cons, List.mem_cons, List.not_mem_nil, or_false, not_or, not_false_eq_true, List.nodup_nil, and_true] at hnd
  refine ⟨?_, ?_, ?_, ?_, ?_, hrow, hmet, h.nodup⟩
  · rw [hput _ (.inl rfl) hG.1.symm (by omega)]; exact h.block
  · obtain ⟨f, hm, hf⟩ := h.rates
    exact ⟨f, hm.same (hput _ (.inr (.inl rfl)) hG.2.1.symm (by omega)), fun c => by rw [plain_rate (by omega)]; exact hf c⟩
  · obtain ⟨f, hm, hf⟩ := h.ceils
    exact ⟨f, hm.same (hput _ (.inr (.inr (.inl rfl))) hG.2.2.1.symm (by omega)), fun c => by rw [plain_ceil (by omega)]; exact hf c⟩
  · rw [plain_waivs (by omega)]
    exact owns_same h.waivs fun q hq => hput q (.inr (.inr (.inr (.inr (.inr (.inl hq)))))) (fun e => hG.2.2.2.2.2 (by rw [← e]; exact hq)) (h.apartW hq).2.2.2.2.1
  · rw [plain_dues (by omega)]
    exact h.dues.same (hput _ (.inr (.inr (.inr (.inl rfl)))) hG.2.2.2.1.symm (by omega))

theorem metW_off {c : Int} {g : Gift} (h : g.state = 1 ∨ g.state = 3) : metW c g = 0 := by
  unfold metW metB
  rw [if_neg]
  simp only [decide_eq_true_eq]
  omega
theorem metW_on {c : Int} {g : Gift} (h : g.state = 2 ∨ g.state = 4) : metW c g = if g.returns = c then g.worth else 0 := by
  unfold metW metB
  by_cases hr : g.returns = c
  · rw [if_pos hr, if_pos (decide_eq_true ⟨hr, h⟩)]
  · rw [if_neg hr, if_neg (fun e => hr (of_decide_eq_true e).1)]

set_option maxRecDepth 100000 in
theorem refuse_spec {w : World} {s : SV} {es : List Entry} {x : Entry} {sg : Int} (h : StateIs w s es) (hA : Acc es) (hk : x.kind = 7) (hx : x.Nums) (hdo : doE sg es x = 0) :
    CallsV C.P 160 (#[] ++ [.pointer (some ⟨s.gs, 0, none⟩), x.val].toArray ++ #[]) w fun _ w' => StGo w s (es ++ [x]) w' := by
  obtain ⟨k, hlk, hid, hst⟩ := ans_parts (.inr hk) hdo
  have hgl := (acc_ok hA).gifts.len
  refine callsV_of C_ok (args := [_, _]) (plans := plans160) Tryz.func160 rfl Tryz.ntmps160 (by kernel_rfl) (Nat.le_of_ble_eq_true rfl) ?_
  intro g1 w1 h1
  have M1 : Mem w w1 [(g1, .cells x.cells.toArray 39 (0, 0))] := (Mem.start w).alloc h1
  have hs := h.ext M1.ext
  obtain ⟨g, cap, cur, hv, hg, hb, hown, hrd, hput⟩ := row_open Gift.len (by omega) hs.gifts hlk
  have hne : g1 ≠ g := fun e => by
    have := h.lt (k := g) (.inr (.inr (.inr (.inr (.inr (.inr hown))))))
    have := M1.new 0 rfl
    omega
  refine ⟨.slice (some ⟨g, 0, none⟩) (giftL es).length cap, cell_of_block (i := 4) hs.block (by show some s.vG = _; rw [hv]), ?_⟩
  refine ⟨_, M1.cell 0 rfl rfl, ?_⟩
  refine ⟨(k : Int), by show IntKind.i64.wrap (x.g.id - 1) = _; rw [hid, fit ⟨by omega, by omega⟩]; omega, ?_⟩
  refine ⟨k, g, 0, rfl, hlk, rfl, ?_⟩
  refine ⟨fun q => q = g1, ?_⟩
  refine ⟨.int .i64 x.day, fun u hu => ⟨_, hu.cell rfl (M1.cell 0 (i := 1) rfl rfl), rfl⟩, ?_⟩
  refine ⟨rfl, _, _, hg, by show 0 + k * 10 + 7 + 1 ≤ _; omega, rfl, ?_⟩
  intro w2 h2
  refine ⟨(Keep.refl _ w1).put h2 hne.symm, ?_⟩
  have hrow := hput 7 _ { (giftL es)[k] with state := 3 } w2 rfl (Nat.le_of_ble_eq_true rfl) h2
  have hk2 : k < ((giftL es).set k { (giftL es)[k] with state := 3 }).length := by simpa using hlk
  obtain ⟨g', cap', cur', hv', hg', hb', hown', hrd', hput'⟩ := row_open Gift.len (by omega) hrow hk2
  have egg : g' = g := by rw [hown] at hown'; exact (Option.some.inj hown').symm
  subst egg
  refine ⟨rfl, _, _, hg', by show 0 + k * 10 + 8 + 1 ≤ _; omega, rfl, ?_⟩
  intro w3 h3
  have hrow3 := hput' 8 _ (refuseG x.day (giftL es)[k]) w3 (by rw [List.getElem_set_self]; rfl) (Nat.le_of_ble_eq_true rfl) h3
  rw [List.set_set] at hrow3
  refine ⟨s, rfl, gifts_put (x := x) h (.inr hk) rfl hown (fun q hq hne _ => by rw [h3.there q hne, h2.there q hne, M1.ext.block q (h.lt hq)]) (by rw [gift_refuse hk hlk hid]; exact hrow3) (by
    obtain ⟨f, hm, hf⟩ := h.mets
    have hbm : s.bM ≠ g' := (h.apartG hown).2.2.2.2.1.symm
    exact ⟨f, hm.same (by rw [h3.there _ hbm, h2.there _ hbm, M1.ext.block _ (h.lt (.inr (.inr (.inr (.inr (.inl rfl))))))]), fun c hc => by
      rw [gift_refuse hk hlk hid, metL_set hlk, metW_off (.inl hst), metW_off (g := refuseG x.day (giftL es)[k]) (.inr rfl), Int.sub_zero, Int.add_zero]; exact hf c hc⟩),
    (((keep_ext M1.ext).put h2 (fun hn => hn (.inr (.inr (.inr (.inr (.inr (.inr hown)))))))).put h3 (fun hn => hn (.inr (.inr (.inr (.inr (.inr (.inr hown)))))))), fun k hk => .inl hk⟩

/-- What a gift that is taken adds to what met a debt. -/
theorem met_take {gs : List Gift} {k : Nat} (hk : k < gs.length) (hst : gs[k].state = 1) (d c : Int) : metL (gs.set k (takeG d gs[k])) c = if gs[k].returns = c then metL gs c + gs[k].worth else metL gs c := by
  rw [metL_set hk, metW_off (.inl hst), metW_on (g := takeG d gs[k]) (.inl rfl)]
  show metL gs c - 0 + (if gs[k].returns = c then gs[k].worth else 0) = _
  split <;> omega
theorem met_back {gs : List Gift} {j : Nat} (hj : j < gs.length) (hst : gs[j].state = 2 ∨ gs[j].state = 4) (c : Int) : metL (gs.set j (backG gs[j])) c = metL gs c := by
  rw [metL_set hj, metW_on hst, metW_on (g := backG gs[j]) (.inr rfl)]
  show metL gs c - (if gs[j].returns = c then gs[j].worth else 0) + (if gs[j].returns = c then gs[j].worth else 0) = _
  omega

set_option maxRecDepth 100000 in
set_option maxHeartbeats 2000000 in
theorem take_spec {w : World} {s : SV} {es : List Entry} {x : Entry} {sg : Int} (h : StateIs w s es) (hA : Acc es) (hk : x.kind = 6) (hx : x.Nums) (hdo : doE sg es x = 0) :
    CallsV C.P 159 (#[] ++ [.pointer (some ⟨s.gs, 0, none⟩), x.val].toArray ++ #[]) w fun _ w' => StGo w s (es ++ [x]) w' := by
  obtain ⟨k, hlk, hid, hst⟩ := ans_parts (.inl hk) hdo
  have hGok := (acc_ok hA).gifts
  have hgl := hGok.len
  have hgift := gift_take hk hlk hid
  refine callsV_of C_ok (args := [_, _]) (plans := plans159) Tryz.func159 rfl Tryz.ntmps159 (by kernel_rfl) (Nat.le_of_ble_eq_true rfl) ?_
  intro g1 w1 h1
  have M1 : Mem w w1 [(g1, .cells x.cells.toArray 39 (0, 0))] := (Mem.start w).alloc h1
  have hs := h.ext M1.ext
  obtain ⟨g, cap, cur, hv, hg, hb, hown, hrd, hput⟩ := row_open Gift.len (by omega) hs.gifts hlk
  have hne : g1 ≠ g := fun e => by
    have := h.lt (k := g) (.inr (.inr (.inr (.inr (.inr (.inr hown))))))
    have := M1.new 0 rfl
    omega
  refine ⟨.slice (some ⟨g, 0, none⟩) (giftL es).length cap, cell_of_block (i := 4) hs.block (by show some s.vG = _; rw [hv]), ?_⟩
  refine ⟨_, M1.cell 0 rfl rfl, ?_⟩
  refine ⟨(k : Int), by show IntKind.i64.wrap (x.g.id - 1) = _; rw [hid, fit ⟨by omega, by omega⟩]; omega, ?_⟩
  refine ⟨k, g, 0, rfl, hlk, rfl, ?_⟩
  refine ⟨fun q => q = g1, ?_⟩
  refine ⟨.int .i64 x.day, fun u hu => ⟨_, hu.cell rfl (M1.cell 0 (i := 1) rfl rfl), rfl⟩, ?_⟩
  refine ⟨rfl, _, _, hg, by show 0 + k * 10 + 7 + 1 ≤ _; omega, rfl, ?_⟩
  intro w2 h2
  refine ⟨(Keep.refl _ w1).put h2 hne.symm, ?_⟩
  have hrow := hput 7 _ { (giftL es)[k] with state := 2 } w2 rfl (Nat.le_of_ble_eq_true rfl) h2
  have hk2 : k < ((giftL es).set k { (giftL es)[k] with state := 2 }).length := by simpa using hlk
  obtain ⟨g', cap', cur', hv', hg', hb', hown', hrd', hput'⟩ := row_open Gift.len (by omega) hrow hk2
  have egg : g' = g := by rw [hown] at hown'; exact (Option.some.inj hown').symm
  subst egg
  refine ⟨rfl, _, _, hg', by show 0 + k * 10 + 8 + 1 ≤ _; omega, rfl, ?_⟩
  intro w3 h3
  have hrow3 := hput' 8 _ (takeG x.day (giftL es)[k]) w3 (by rw [List.getElem_set_self]; rfl) (Nat.le_of_ble_eq_true rfl) h3
  rw [List.set_set] at hrow3
  clear hput hput' hrd' hv' hg' hb' hown' hrow hb hg hrd
  have hG := h.apartG hown
  have same3 : ∀ q, s.has q → q ≠ g' → w3.heap[q]? = w.heap[q]? := fun q hq hne => by rw [h3.there q hne, h2.there q hne, M1.ext.block q (h.lt hq)]
  have keep3 : Keep (fun k => ¬ s.has k) w w3 := (((keep_ext M1.ext).put h2 (fun hn => hn (.inr (.inr (.inr (.inr (.inr (.inr hown)))))))).put h3 (fun hn => hn (.inr (.inr (.inr (.inr (.inr (.inr hown))))))))
  have hmt := met_take hlk hst x.day
  generalize hgs : (giftL es).set k (takeG x.day (giftL es)[k]) = gs at *
  have hkg : k < gs.length := by rw [← hgs]; simpa using hlk
  have hgl2 : gs.length = (giftL es).length := by rw [← hgs]; simp
  have egk : gs[k] = takeG x.day (giftL es)[k] := by simp [← hgs]
  obtain ⟨ga, ca, cua, hva, hga, hba, howna, hrda, hputa⟩ := row_open Gift.len (by omega) hrow3 hkg
  have ega : ga = g' := by rw [hown] at howna; exact (Option.some.inj howna).symm
  subst ega
  rw [egk] at hrda
  have hb3 : w3.heap[s.gs]? = some (.cells s.cells.toArray 125 (0, 0)) := by rw [same3 _ (.inl rfl) hG.1.symm]; exact h.block
  obtain ⟨f, hm, hf⟩ := h.mets
  have hm3 : MapIs C.P 3 w3 s.bM f := hm.same (same3 _ (.inr (.inr (.inr (.inr (.inl rfl))))) hG.2.2.2.2.1.symm)
  refine ⟨_, hrda 9 _ rfl, ?_⟩
  refine brE_dec (fun r0 => ?_) (fun r0 => ?_)
  · have r0 : (giftL es)[k].returns = 0 := r0
    rw [r0] at hgift
    simp only [if_true] at hgift
    refine ⟨s, rfl, gifts_put (x := x) h (.inl hk) rfl hown (fun q hq hne _ => same3 q hq hne) (by rw [hgift]; exact hrow3) ⟨f, hm3, fun c hc => by rw [hgift, hmt, if_neg (by omega)]; exact hf c hc⟩, keep3, fun k hk => .inl hk⟩
  have r0 : (giftL es)[k].returns ≠ 0 := r0
  rcases hGok.refs k hlk with hr0 | ⟨j, hj, hr1, hjk, hj2, hj3, hj4⟩
  · exact absurd hr0 r0
  have hjg : j < gs.length := by omega
  have egj : gs[j] = (giftL es)[j] := by simp only [← hgs]; rw [List.getElem_set_ne (fun e => hjk e.symm)]
  have hmb := metL_bounds hGok (giftL es)[k].returns
  have hwk := hGok.worth k hlk
  have hr64 : In64 (giftL es)[k].returns := ⟨by omega, by omega⟩
  refine ⟨_, cell_of_block (i := 5) hb3 rfl, ?_⟩
  refine ⟨_, hrda 9 _ rfl, ?_⟩
  refine ⟨.int .i64 (metL (giftL es) (giftL es)[k].returns), mapGet1 C_ok (te := ty3) (x := .int .i64 (giftL es)[k].returns) (intKey hr64) hm3 intK rfl rfl rfl rfl rfl rfl (by rw [hf _ r0]; exact numV_getD _), ?_⟩
  refine ⟨_, hrda 6 _ rfl, ?_⟩
  refine ⟨metL (giftL es) (giftL es)[k].returns + (giftL es)[k].worth, fit (show In64 (metL (giftL es) (giftL es)[k].returns + (giftL es)[k].worth) from ⟨by omega, by omega⟩), ?_⟩
  refine mapPut C_ok rfl rfl (x := .int .i64 (giftL es)[k].returns) rfl rfl rfl rfl intK (intKey hr64) hm3 ?_
  intro o4 w4 h4 hm4
  have hf4 : ∀ c, c ≠ 0 → updV f (.int .i64 (giftL es)[k].returns) (.int .i64 (metL (giftL es) (giftL es)[k].returns + (giftL es)[k].worth)) (.int .i64 c) = numV (metL gs c) := fun c hc => by
    unfold updV
    rw [hmt]
    by_cases he : (giftL es)[k].returns = c
    · subst he
      rw [if_pos rfl, if_pos rfl, numV, if_neg (by omega)]
    · rw [if_neg (fun e => he (by injection e with _ e; exact e.symm)), if_neg he]; exact hf c hc
  have hgm : ga ≠ s.bM := hG.2.2.2.2.1
  have hb4 : w4.heap[s.gs]? = some (.cells s.cells.toArray 125 (0, 0)) := by
    rw [h4.there _ (by have hnd := h.nodup; simp only [List.nodup_cons, List.mem_cons, List.not_mem_nil, or_false, not_or, not_false_eq_true, List.nodup_nil, and_true] at hnd; omega)]; exact hb3
  have hrow4 : w4.ownsRow 0 37 10 s.vG gs.length (gs.flatMap Gift.cells) := ownsRow_put hrow3 h4 (fun e => hgm (by rw [hown] at e; exact Option.some.inj e))
  have keep4 : Keep (fun k => ¬ s.has k) w w4 := keep3.put h4 (fun hn => hn (.inr (.inr (.inr (.inr (.inl rfl))))))
  have same4 : ∀ q, s.has q → q ≠ ga → q ≠ s.bM → w4.heap[q]? = w.heap[q]? := fun q hq h5 h6 => by rw [h4.there q h6, same3 q hq h5]
  obtain ⟨gb, cb, cub, hvb, hgb, hbb, hownb, hrdb, hputb⟩ := row_open Gift.len (by omega) hrow4 hjg
  have egb : gb = ga := by rw [hown] at hownb; exact (Option.some.inj hownb).symm
  subst egb
  obtain ⟨gc, cc, cuc, _, _, _, hownc, hrdc, _⟩ := row_open Gift.len (by omega) hrow4 hkg
  have egc : gc = gb := by rw [hown] at hownc; exact (Option.some.inj hownc).symm
  subst egc
  rw [egk] at hrdc
  refine ⟨.slice (some ⟨gc, 0, none⟩) gs.length cb, cell_of_block (i := 4) hb4 (by show some s.vG = _; rw [hvb]), ?_⟩
  refine ⟨_, hrdc 9 _ rfl, ?_⟩
  refine ⟨(j : Int), by show IntKind.i64.wrap ((giftL es)[k].returns - 1) = _; rw [hr1, fit ⟨by omega, by omega⟩]; omega, ?_⟩
  refine ⟨j, gc, 0, rfl, hjg, rfl, ?_⟩
  refine ⟨_, cell_of_block (i := 5) hb4 rfl, ?_⟩
  refine ⟨_, hrdc 9 _ rfl, ?_⟩
  refine ⟨.int .i64 (metL gs (giftL es)[k].returns), mapGet1 C_ok (te := ty3) (x := .int .i64 (giftL es)[k].returns) (intKey hr64) hm4 intK rfl rfl rfl rfl rfl rfl (by rw [hf4 _ r0]; exact numV_getD _), ?_⟩
  refine ⟨.int .i64 gs[j].worth, hrdb 6 _ rfl, ?_⟩
  simp only at hgift
  rw [if_neg r0, hr1, atN_get hjg, ← hr1] at hgift
  refine brE_dec (fun c1 => ?_) (fun c1 => ?_)
  · have c1 : gs[j].worth ≤ metL gs (giftL es)[k].returns := c1
    rw [if_pos c1, hr1, updAt_eq hjg] at hgift
    refine ⟨rfl, _, _, hgb, by show 0 + j * 10 + 7 + 1 ≤ _; omega, rfl, ?_⟩
    intro w5 h5
    have hrow5 := hputb 7 _ (backG gs[j]) w5 rfl (Nat.le_of_ble_eq_true rfl) h5
    refine ⟨s, rfl, gifts_put (x := x) h (.inl hk) rfl hown (fun q hq h6 h7 => by rw [h5.there q h6, same4 q hq h6 h7]) (by rw [hgift]; exact hrow5) ⟨_, hm4.same (h5.there _ hgm.symm), fun c hc => by rw [hgift, met_back hjg (by rw [egj]; exact hj3)]; exact hf4 c hc⟩,
      keep4.put h5 (fun hn => hn (.inr (.inr (.inr (.inr (.inr (.inr hown))))))), fun k hk => .inl hk⟩
  · have c1 : ¬ gs[j].worth ≤ metL gs (giftL es)[k].returns := c1
    rw [if_neg c1] at hgift
    exact ⟨s, rfl, gifts_put (x := x) h (.inl hk) rfl hown same4 (by rw [hgift]; exact hrow4) ⟨_, hm4, fun c hc => by rw [hgift]; exact hf4 c hc⟩, keep4, fun k hk => .inl hk⟩

end Go.Proofs.YtcnbpfecgokhiaaGreatDoor
