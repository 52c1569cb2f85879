/- a part of the proof: steps, walks and plain laws that the law below stands on; no condition. -/
import Derived.Test.YtcnbpfecgokhiaaGreatDoorDWc
set_option linter.unusedVariables false
set_option linter.unusedSimpArgs false
set_option linter.unnecessarySimpa false
set_option linter.unusedSectionVars false
namespace Go.Proofs.YtcnbpfecgokhiaaGreatDoor
open Go.Eng Go.RowKit
open Go.Maps (Keyed)

/-! ### keys: a creditor and a debtor -/
def sidesV (c d : Int) : Value := .agg #[.int .i64 c, .int .i64 d]
theorem sidesRow : (136 : TypeId) < Tryz.prog.types.size := of_decide_eq_true (by kernel_rfl)
theorem sidesAt : Tryz.prog.keyTypeAt 2 136 = true := by kernel_rfl
theorem sidesT : Tryz.prog.keyType 136 = true := by kernel_rfl
theorem sidesC : Tryz.prog.cellsOf 136 = 2 := by kernel_rfl
theorem intC : Tryz.prog.cellsOf 3 = 1 := by kernel_rfl
theorem sidesU : Tryz.prog.underlying 136 = some (.struct #[⟨ "creditor", 3, 0, false, "", "sennet/dues", 0⟩, ⟨ "debtor", 3, 1, false, "", "sennet/dues", 8⟩]) := by kernel_rfl
theorem sidesK : Keyed C.P 136 := Keyed.of_law (deep_law_laid laidOut (m := 2) (by omega) sidesRow sidesAt (by rw [sidesU]))
theorem succ_ofL {k n : Nat} (h : k < n) : ∃ m, n = m + 1 := ⟨n - 1, by omega⟩
theorem sidesKey {c d : Int} (h1 : In64 c) (h2 : In64 d) : keyOf C.P 136 (sidesV c d) = some (.string (keyBytes [.int .i64 c, .int .i64 d])) := by
  show keyOf Tryz.prog 136 _ = _
  have w1 := wf64 h1
  have w2 := wf64 h2
  obtain ⟨m, hm⟩ : ∃ m, Tryz.prog.types.size = m + 1 := succ_ofL sidesRow
  have hk : Tryz.prog.keyLits (m + 2) 136 [.int .i64 c, .int .i64 d] = some [.int .i64 c, .int .i64 d] := by
    simp [Program.keyLits, sidesC, intC, w1, w2]
  simp [keyOf, sidesT, sidesV, Value.formed, sidesC, Value.cells, hm, hk]
theorem sidesV_inj {a b c d : Int} (h : sidesV a b = sidesV c d) : a = c ∧ b = d := by
  simp [sidesV] at h
  exact h
def dueP (d : Due) : Value × Value := (sidesV d.cred d.debt, .int .i64 d.waiver)
theorem dueP_mem {l : List Due} {c d : Int} {u : Value} : (sidesV c d, u) ∈ l.map dueP ↔ ∃ x ∈ l, x.cred = c ∧ x.debt = d ∧ u = .int .i64 x.waiver := by
  rw [List.mem_map]
  constructor
  · rintro ⟨x, hx, e⟩
    unfold dueP at e
    injection e with e1 e2
    obtain ⟨h1, h2⟩ := sidesV_inj e1
    exact ⟨x, hx, h1, h2, e2.symm⟩
  · rintro ⟨x, hx, h1, h2, h3⟩
    exact ⟨x, hx, by unfold dueP; rw [h1, h2, h3]⟩

/-! ### rows and blocks -/
theorem owns_at {w : World} {base e size n : Nat} {v : Value} {xs : List Value} (h : w.ownsRow base e size v n xs) {k : Nat} (hk : v.ownBlock = some k) : base ≤ k ∧ ∃ cur, w.heap[k]? = some (.cells cur e (0, 0)) := by
  obtain ⟨_, hv | ⟨g, cap, cur, hv, hb, hg, _⟩⟩ := h
  · rw [hv.1] at hk; cases hk
  · rw [hv] at hk
    have hk : g = k := by simpa [Value.ownBlock] using hk
    subst hk
    exact ⟨hb, cur, hg⟩
theorem owns_same {w w' : World} {base e size n : Nat} {v : Value} {xs : List Value} (h : w.ownsRow base e size v n xs) (hs : ∀ k, v.ownBlock = some k → w'.heap[k]? = w.heap[k]?) : w'.ownsRow base e size v n xs := by
  obtain ⟨hl, hv | ⟨g, cap, cur, hv, hb, hg, h1⟩⟩ := h
  · exact ⟨hl, .inl hv⟩
  · exact ⟨hl, .inr ⟨g, cap, cur, hv, hb, by rw [hs g (by rw [hv]; rfl)]; exact hg, h1⟩⟩
theorem map_at {P : Program} {k b : Nat} {w : World} {f : Value → Option Value} (h : MapIs P k w b f) : ∃ es clk, w.heap[b]? = some (.map es clk) := by
  obtain ⟨es, clk, h, _⟩ := h
  exact ⟨es, clk, h⟩
theorem mapL_at {P : Program} {k b : Nat} {w : World} {D : List (Value × Value)} (h : MapL P k w b D) : ∃ es clk, w.heap[b]? = some (.map es clk) := by
  obtain ⟨es, clk, h, _⟩ := h
  exact ⟨es, clk, h⟩

/-! ### a state -/
structure SV where
  gs : Nat
  bR : Nat
  bC : Nat
  bD : Nat
  bM : Nat
  vW : Value
  vG : Value
def SV.cells (s : SV) : List Value := [.map (some s.bR), .map (some s.bC), s.vW, .map (some s.bD), s.vG, .map (some s.bM)]
def SV.has (s : SV) (k : Nat) : Prop := k = s.gs ∨ k = s.bR ∨ k = s.bC ∨ k = s.bD ∨ k = s.bM ∨ s.vW.ownBlock = some k ∨ s.vG.ownBlock = some k
def numV (n : Int) : Option Value := if n = 0 then none else some (.int .i64 n)
structure StateIs (w : World) (s : SV) (es : List Entry) : Prop where
  block : w.heap[s.gs]? = some (.cells s.cells.toArray 125 (0, 0))
  rates : ∃ f, MapIs C.P 3 w s.bR f ∧ ∀ c, f (.int .i64 c) = numV (rateL es c)
  ceils : ∃ f, MapIs C.P 3 w s.bC f ∧ ∀ c, f (.int .i64 c) = numV (ceilL es c)
  waivs : w.ownsRow 0 35 9 s.vW (waivL es).length ((waivL es).flatMap Waiv.cells)
  dues : MapL C.P 136 w s.bD ((dueL es).map dueP)
  gifts : w.ownsRow 0 37 10 s.vG (giftL es).length ((giftL es).flatMap Gift.cells)
  mets : ∃ f, MapIs C.P 3 w s.bM f ∧ ∀ c, c ≠ 0 → f (.int .i64 c) = numV (metL (giftL es) c)
  nodup : [s.gs, s.bR, s.bC, s.bD, s.bM].Nodup

theorem StateIs.lt {w : World} {s : SV} {es : List Entry} (h : StateIs w s es) {k : Nat} (hk : s.has k) : k < w.heap.size := by
  rcases hk with rfl | rfl | rfl | rfl | rfl | hk | hk
  · exact lt_of_heap h.block
  · obtain ⟨f, hm, _⟩ := h.rates; obtain ⟨a, b, e⟩ := map_at hm; exact lt_of_heap e
  · obtain ⟨f, hm, _⟩ := h.ceils; obtain ⟨a, b, e⟩ := map_at hm; exact lt_of_heap e
  · exact h.dues.lt
  · obtain ⟨f, hm, _⟩ := h.mets; obtain ⟨a, b, e⟩ := map_at hm; exact lt_of_heap e
  · obtain ⟨_, cur, e⟩ := owns_at h.waivs hk; exact lt_of_heap e
  · obtain ⟨_, cur, e⟩ := owns_at h.gifts hk; exact lt_of_heap e
theorem StateIs.keep {w w' : World} {s : SV} {es : List Entry} (h : StateIs w s es) (hs : ∀ k, s.has k → w'.heap[k]? = w.heap[k]?) : StateIs w' s es := by
  refine ⟨by rw [hs _ (.inl rfl)]; exact h.block, ?_, ?_, owns_same h.waivs fun k hk => hs k (.inr (.inr (.inr (.inr (.inr (.inl hk)))))), h.dues.same (hs _ (.inr (.inr (.inr (.inl rfl))))), owns_same h.gifts fun k hk => hs k (.inr (.inr (.inr (.inr (.inr (.inr hk)))))), ?_, h.nodup⟩
  · obtain ⟨f, hm, hf⟩ := h.rates; exact ⟨f, hm.same (hs _ (.inr (.inl rfl))), hf⟩
  · obtain ⟨f, hm, hf⟩ := h.ceils; exact ⟨f, hm.same (hs _ (.inr (.inr (.inl rfl)))), hf⟩
  · obtain ⟨f, hm, hf⟩ := h.mets; exact ⟨f, hm.same (hs _ (.inr (.inr (.inr (.inr (.inl rfl)))))), hf⟩
theorem StateIs.ext {w w' : World} {s : SV} {es : List Entry} (h : StateIs w s es) (e : Ext w w') : StateIs w' s es := h.keep fun _ hk => e.block _ (h.lt hk)
/-- The rows lie apart from the other blocks, and from one another. -/
theorem StateIs.apartW {w : World} {s : SV} {es : List Entry} (h : StateIs w s es) {k : Nat} (hk : s.vW.ownBlock = some k) : k ≠ s.gs ∧ k ≠ s.bR ∧ k ≠ s.bC ∧ k ≠ s.bD ∧ k ≠ s.bM ∧ s.vG.ownBlock ≠ some k := by
  obtain ⟨_, cur, hc⟩ := owns_at h.waivs hk
  refine ⟨fun e => ?_, fun e => ?_, fun e => ?_, fun e => ?_, fun e => ?_, fun e => ?_⟩
  · rw [e, h.block] at hc; simp at hc
  · obtain ⟨f, hm, _⟩ := h.rates; obtain ⟨a, b, e2⟩ := map_at hm; rw [e, e2] at hc; cases hc
  · obtain ⟨f, hm, _⟩ := h.ceils; obtain ⟨a, b, e2⟩ := map_at hm; rw [e, e2] at hc; cases hc
  · obtain ⟨a, b, e2⟩ := mapL_at h.dues; rw [e, e2] at hc; cases hc
  · obtain ⟨f, hm, _⟩ := h.mets; obtain ⟨a, b, e2⟩ := map_at hm; rw [e, e2] at hc; cases hc
  · obtain ⟨_, cur2, hc2⟩ := owns_at h.gifts e; rw [hc2] at hc; simp at hc
theorem StateIs.apartG {w : World} {s : SV} {es : List Entry} (h : StateIs w s es) {k : Nat} (hk : s.vG.ownBlock = some k) : k ≠ s.gs ∧ k ≠ s.bR ∧ k ≠ s.bC ∧ k ≠ s.bD ∧ k ≠ s.bM ∧ s.vW.ownBlock ≠ some k := by
  obtain ⟨_, cur, hc⟩ := owns_at h.gifts hk
  refine ⟨fun e => ?_, fun e => ?_, fun e => ?_, fun e => ?_, fun e => ?_, fun e => ?_⟩
  · rw [e, h.block] at hc; simp at hc
  · obtain ⟨f, hm, _⟩ := h.rates; obtain ⟨a, b, e2⟩ := map_at hm; rw [e, e2] at hc; cases hc
  · obtain ⟨f, hm, _⟩ := h.ceils; obtain ⟨a, b, e2⟩ := map_at hm; rw [e, e2] at hc; cases hc
  · obtain ⟨a, b, e2⟩ := mapL_at h.dues; rw [e, e2] at hc; cases hc
  · obtain ⟨f, hm, _⟩ := h.mets; obtain ⟨a, b, e2⟩ := map_at hm; rw [e, e2] at hc; cases hc
  · obtain ⟨_, cur2, hc2⟩ := owns_at h.waivs e; rw [hc2] at hc; simp at hc

/-- What becomes of a state: the same block, other entries; all else is as it was. -/
def StGo (w : World) (s : SV) (es : List Entry) (w' : World) : Prop := ∃ s', s'.gs = s.gs ∧ StateIs w' s' es ∧ Keep (fun k => ¬ s.has k) w w' ∧ ∀ k, s'.has k → s.has k ∨ w.heap.size ≤ k
theorem keep_ext {D : Nat → Prop} {w w' : World} (e : Ext w w') : Keep D w w' := (Keep.refl D w).ext e

/-! ### new states -/
theorem newState_spec (w : World) : CallsV C.P 68 #[] w fun v w' => (∃ s, v = .pointer (some ⟨s.gs, 0, none⟩) ∧ StateIs w' s [] ∧ ∀ k, s.has k → w.heap.size ≤ k) ∧ Ext w w' := by
  refine callsV_of C_ok (args := []) (plans := []) Tryz.func68 rfl Tryz.ntmps68 (by kernel_rfl) (Nat.le_of_ble_eq_true rfl) ?_
  intro g1 w1 h1
  have M1 := (Mem.start w).alloc h1
  intro g2 w2 h2
  have M2 := M1.alloc h2
  intro g3 w3 h3
  have M3 := M2.alloc h3
  intro g4 w4 h4
  have M4 := M3.alloc h4
  intro g5 w5 h5
  have M5 : Mem w w5 [(g5, .cells (SV.mk g5 g1 g2 g3 g4 (.slice none 0 0) (.slice none 0 0)).cells.toArray 125 (0, 0)), (g4, .map #[] 0), (g3, .map #[] 0), (g2, .map #[] 0), (g1, .map #[] 0)] := M4.alloc h5
  refine ⟨⟨⟨g5, g1, g2, g3, g4, .slice none 0 0, .slice none 0 0⟩, rfl, ⟨M5.get 0 rfl, ⟨_, MapIs.empty (M5.get 4 rfl), fun c => rfl⟩, ⟨_, MapIs.empty (M5.get 3 rfl), fun c => rfl⟩, World.ownsRow_nil _ _ _ _, MapL.empty (M5.get 2 rfl), World.ownsRow_nil _ _ _ _, ⟨_, MapIs.empty (M5.get 1 rfl), fun c _ => rfl⟩, ?_⟩, ?_⟩, M5.ext⟩
  · have := M5.nodup
    simp only [List.map_cons, List.map_nil, List.nodup_cons, List.mem_cons, List.not_mem_nil, or_false, not_or, not_false_eq_true, List.nodup_nil, and_true] at this ⊢
    omega
  · rintro k (rfl | rfl | rfl | rfl | rfl | hk | hk)
    · exact M5.new 0 rfl
    · exact M5.new 4 rfl
    · exact M5.new 3 rfl
    · exact M5.new 2 rfl
    · exact M5.new 1 rfl
    · cases hk
    · cases hk

/-! ### rates and ceilings -/
theorem upd_num {f : Value → Option Value} {g g' : Int → Int} (hf : ∀ c, f (.int .i64 c) = numV (g c)) {a n : Int} (hn : n ≠ 0) (hg : ∀ c, g' c = if a = c then n else g c) : ∀ c, updV f (.int .i64 a) (.int .i64 n) (.int .i64 c) = numV (g' c) := by
  intro c
  unfold updV
  rw [hg c]
  by_cases h : a = c
  · subst h
    rw [if_pos rfl, if_pos rfl, numV, if_neg hn]
  · rw [if_neg (fun e => h (by injection e with _ e; exact e.symm)), if_neg h, hf c]
theorem plain_gifts {es : List Entry} {x : Entry} (hk : x.kind ≠ 5 ∧ x.kind ≠ 6 ∧ x.kind ≠ 7) : giftL (es ++ [x]) = giftL es := gift_plain hk.1 hk.2.1 hk.2.2
theorem plain_waivs {es : List Entry} {x : Entry} (hk : x.kind ≠ 3 ∧ x.kind ≠ 4) : waivL (es ++ [x]) = waivL es := by
  rw [waivL_snoc]; unfold waivS; rw [if_neg hk.1, if_neg hk.2]
theorem plain_dues {es : List Entry} {x : Entry} (hk : x.kind ≠ 3) : dueL (es ++ [x]) = dueL es := by rw [dueL_snoc, if_neg hk]
theorem plain_rate {es : List Entry} {x : Entry} (hk : x.kind ≠ 1) (c : Int) : rateL (es ++ [x]) c = rateL es c := by
  rw [rateL_snoc]; unfold rateS; rw [if_neg (fun h => hk h.1)]
theorem plain_ceil {es : List Entry} {x : Entry} (hk : x.kind ≠ 2) (c : Int) : ceilL (es ++ [x]) c = ceilL es c := by
  rw [ceilL_snoc]; unfold ceilS; rw [if_neg (fun h => hk h.1)]

theorem rate_spec {w : World} {s : SV} {es : List Entry} {x : Entry} (h : StateIs w s es) (hk : x.kind = 1) (hx : x.Nums) (hn : x.n ≠ 0) :
    CallsV C.P 154 (#[] ++ [.pointer (some ⟨s.gs, 0, none⟩), x.val].toArray ++ #[]) w fun _ w' => StGo w s (es ++ [x]) w' := by
  refine callsV_of C_ok (args := [_, _]) (plans := plans154) Tryz.func154 rfl Tryz.ntmps154 (by kernel_rfl) (Nat.le_of_ble_eq_true rfl) ?_
  intro g1 w1 h1
  have M1 : Mem w w1 [(g1, .cells x.cells.toArray 39 (0, 0))] := (Mem.start w).alloc h1
  have hs := h.ext M1.ext
  refine ⟨_, cell_of_block (i := 0) hs.block rfl, ?_⟩
  refine ⟨_, M1.cell 0 rfl rfl, ?_⟩
  refine ⟨_, M1.cell 0 rfl rfl, ?_⟩
  obtain ⟨f, hm, hf⟩ := hs.rates
  refine mapPut C_ok rfl rfl (x := .int .i64 x.a) rfl rfl rfl rfl intK (intKey hx.a) hm ?_
  intro o' w2 h2 hm2
  have same : ∀ k, s.has k → k ≠ s.bR → w2.heap[k]? = w.heap[k]? := fun k hk hne => by rw [h2.there k hne, M1.ext.block k (h.lt hk)]
  have hnd := h.nodup
  simp only [List.nodup_cons, List.mem_cons, List.not_mem_nil, or_false, not_or, not_false_eq_true, List.nodup_nil, and_true] at hnd
  refine ⟨s, rfl, ⟨by rw [same _ (.inl rfl) (by omega)]; exact h.block, ⟨_, hm2, upd_num hf hn fun c => by rw [rateL_snoc]; unfold rateS; simp only [hk, true_and]⟩, ?_, ?_, ?_, ?_, ?_, h.nodup⟩, ?_, fun k hk => .inl hk⟩
  · obtain ⟨f, hm, hf⟩ := h.ceils
    exact ⟨f, hm.same (same _ (.inr (.inr (.inl rfl))) (by omega)), fun c => by rw [plain_ceil (by omega)]; exact hf c⟩
  · rw [plain_waivs (by omega)]
    exact owns_same h.waivs fun k hk => same k (.inr (.inr (.inr (.inr (.inr (.inl hk)))))) (h.apartW hk).2.1
  · rw [plain_dues (by omega)]
    exact h.dues.same (same _ (.inr (.inr (.inr (.inl rfl)))) (by omega))
  · rw [plain_gifts (by omega)]
    exact owns_same h.gifts fun k hk => same k (.inr (.inr (.inr (.inr (.inr (.inr hk)))))) (h.apartG hk).2.1
  · obtain ⟨f, hm, hf⟩ := h.mets
    exact ⟨f, hm.same (same _ (.inr (.inr (.inr (.inr (.inl rfl))))) (by omega)), fun c hc => by rw [plain_gifts (by omega)]; exact hf c hc⟩
  · exact (keep_ext M1.ext).put h2 (fun hn => hn (.inr (.inl rfl)))
theorem ceiling_spec {w : World} {s : SV} {es : List Entry} {x : Entry} (h : StateIs w s es) (hk : x.kind = 2) (hx : x.Nums) (hn : x.n ≠ 0) :
    CallsV C.P 155 (#[] ++ [.pointer (some ⟨s.gs, 0, none⟩), x.val].toArray ++ #[]) w fun _ w' => StGo w s (es ++ [x]) w' := by
  refine callsV_of C_ok (args := [_, _]) (plans := plans155) Tryz.func155 rfl Tryz.ntmps155 (by kernel_rfl) (Nat.le_of_ble_eq_true rfl) ?_
  intro g1 w1 h1
  have M1 : Mem w w1 [(g1, .cells x.cells.toArray 39 (0, 0))] := (Mem.start w).alloc h1
  have hs := h.ext M1.ext
  refine ⟨_, cell_of_block (i := 1) hs.block rfl, ?_⟩
  refine ⟨_, M1.cell 0 rfl rfl, ?_⟩
  refine ⟨_, M1.cell 0 rfl rfl, ?_⟩
  obtain ⟨f, hm, hf⟩ := hs.ceils
  refine mapPut C_ok rfl rfl (x := .int .i64 x.a) rfl rfl rfl rfl intK (intKey hx.a) hm ?_
  intro o' w2 h2 hm2
  have same : ∀ k, s.has k → k ≠ s.bC → w2.heap[k]? = w.heap[k]? := fun k hk hne => by rw [h2.there k hne, M1.ext.block k (h.lt hk)]
  have hnd := h.nodup
  simp only [List.nodup_cons, List.mem_cons, List.not_mem_nil, or_false, not_or, not_false_eq_true, List.nodup_nil, and_true] at hnd
  refine ⟨s, rfl, ⟨by rw [same _ (.inl rfl) (by omega)]; exact h.block, ?_, ⟨_, hm2, upd_num hf hn fun c => by rw [ceilL_snoc]; unfold ceilS; simp only [hk, true_and]⟩, ?_, ?_, ?_, ?_, h.nodup⟩, ?_, fun k hk => .inl hk⟩
  · obtain ⟨f, hm, hf⟩ := h.rates
    exact ⟨f, hm.same (same _ (.inr (.inl rfl)) (by omega)), fun c => by rw [plain_rate (by omega)]; exact hf c⟩
  · rw [plain_waivs (by omega)]
    exact owns_same h.waivs fun k hk => same k (.inr (.inr (.inr (.inr (.inr (.inl hk)))))) (h.apartW hk).2.2.1
  · rw [plain_dues (by omega)]
    exact h.dues.same (same _ (.inr (.inr (.inr (.inl rfl)))) (by omega))
  · rw [plain_gifts (by omega)]
    exact owns_same h.gifts fun k hk => same k (.inr (.inr (.inr (.inr (.inr (.inr hk)))))) (h.apartG hk).2.2.1
  · obtain ⟨f, hm, hf⟩ := h.mets
    exact ⟨f, hm.same (same _ (.inr (.inr (.inr (.inr (.inl rfl))))) (by omega)), fun c hc => by rw [plain_gifts (by omega)]; exact hf c hc⟩
  · exact (keep_ext M1.ext).put h2 (fun hn => hn (.inr (.inr (.inl rfl))))

end Go.Proofs.YtcnbpfecgokhiaaGreatDoor

namespace Go.Proofs.YtcnbpfecgokhiaaGreatDoor
open Go.Eng Go.RowKit
open Go.Maps (Keyed)

theorem maxQ {o : Oper} {l : Env} {w : World} {x y : Operand} {ts : Array Nat} {a b c : Int} (hm : max a b = c) (ho : o.op = .call ⟨.builtin .max, #[x, y], ts⟩) (hx : evo l x = some (.int .i64 a)) (hy : evo l y = some (.int .i64 b)) :
    QuietRun C o l w (.int .i64 c) := by
  have hm : (if b > a then b else a) = c := by rw [← hm, Int.max_def]; split <;> split <;> omega
  intro ρ hρ w' _
  unfold execOp
  rw [ho, ← hm]
  simp [resolve, invoke, builtin, hρ _ _ hx, hρ _ _ hy, Builtin.max_, Builtin.max2]
theorem minQ {o : Oper} {l : Env} {w : World} {x y : Operand} {ts : Array Nat} {a b c : Int} (hm : min a b = c) (ho : o.op = .call ⟨.builtin .min, #[x, y], ts⟩) (hx : evo l x = some (.int .i64 a)) (hy : evo l y = some (.int .i64 b)) :
    QuietRun C o l w (.int .i64 c) := by
  have hm : (if b < a then b else a) = c := by rw [← hm, Int.min_def]; split <;> split <;> omega
  intro ρ hρ w' _
  unfold execOp
  rw [ho, ← hm]
  simp [resolve, invoke, builtin, hρ _ _ hx, hρ _ _ hy, Builtin.min_, Builtin.min2]

/-- An element of a row of one's own: read, and a part of it written. -/
theorem row_open {α : Type} {enc : α → List Value} {k e : Nat} (hk : ∀ x, (enc x).length = k) (k0 : 0 < k) {w : World} {v : Value} {l : List α} (h : w.ownsRow 0 e k v l.length (l.flatMap enc)) {i : Nat} (hi : i < l.length) :
    ∃ g cap, ∃ cur : List Value, v = .slice (some ⟨g, 0, none⟩) l.length cap ∧ w.heap[g]? = some (.cells cur.toArray e (0, 0)) ∧ 0 + i * k + k ≤ cur.length ∧ v.ownBlock = some g ∧ Rd w g (0 + i * k) (enc l[i]) ∧
      ∀ (c : Nat) (vs : List Value) (y : α) (w' : World), splice (enc l[i]) c vs = enc y → c + vs.length ≤ k → Put w g (.cells (splice cur (0 + i * k + c) vs).toArray e (0, 0)) w' → w'.ownsRow 0 e k v (l.set i y).length ((l.set i y).flatMap enc) := by
  have hv : ∃ g cap, v = .slice (some ⟨g, 0, none⟩) l.length cap := by
    obtain ⟨_, ⟨_, h0⟩ | ⟨g, cap, cur, hv, _⟩⟩ := h
    · omega
    · exact ⟨g, cap, hv⟩
  obtain ⟨g, cap, rfl⟩ := hv
  obtain ⟨cur, hg, _, hn, _, _, hxl, ht, hput⟩ := ownsRow_open h
  have hb : (i + 1) * k ≤ l.length * k := Nat.mul_le_mul_right k hi
  rw [Nat.add_mul, Nat.one_mul] at hb
  obtain ⟨A, c2, hA, hr, _⟩ := reads_of_owns h
  refine ⟨g, cap, cur, rfl, hg, by omega, rfl, ?_, fun c vs y w' h1 h2 h3 => ?_⟩
  · cases hA
    obtain ⟨b, o, hb2, hrd⟩ := Reads.elem hk k0 hr hi
    cases hb2
    exact hrd
  · have := hput (0 + i * k + c) vs w' (by omega) h3
    rw [Nat.zero_add, flat_field hk hi h1 h2] at this
    rw [List.length_set]
    exact this

/-! ### granted -/
theorem grant_facts {sg : Int} {es : List Entry} {x : Entry} (hk : x.kind = 3) (hx : doE sg es x = 0) : (waivL es).length < 500 ∧ x.w.id = (((waivL es).length + 1 : Nat) : Int) ∧ owesB (dueL es) x.w.giver x.w.taker = false := by
  obtain ⟨hf, hl, hr⟩ := do_zero hx
  unfold refusedE at hr
  rw [if_pos hk] at hr
  unfold grantedE at hr
  split at hr
  · cases hr
  rename_i r1
  split at hr
  · cases hr
  rename_i r2
  split at hr
  · rename_i r3; exact absurd hr r3
  split at hr
  · cases hr
  rename_i r4
  have := Decidable.not_not.1 r2
  exact ⟨by omega, by omega, by simpa using r4⟩
theorem dropK_dues (l : List Due) (c d : Int) : dropK (sidesV c d) (l.map dueP) = (l.filter fun x => !decide (x.cred = c ∧ x.debt = d)).map dueP := by
  classical
  unfold dropK
  rw [List.filter_map]
  congr 1
  refine List.filter_congr fun x _ => ?_
  show (!decide ((dueP x).1 = sidesV c d)) = _
  congr 1
  rw [decide_eq_decide]
  constructor
  · intro h; exact sidesV_inj h
  · rintro ⟨h1, h2⟩; unfold dueP; rw [h1, h2]

set_option maxRecDepth 100000 in
theorem grant_spec {w : World} {s : SV} {es : List Entry} {x : Entry} {sg : Int} (h : StateIs w s es) (hk : x.kind = 3) (hx : x.Nums) (hdo : doE sg es x = 0) :
    CallsV C.P 156 (#[] ++ [.pointer (some ⟨s.gs, 0, none⟩), x.val].toArray ++ #[]) w fun _ w' => StGo w s (es ++ [x]) w' := by
  obtain ⟨hlen, hid, how⟩ := grant_facts hk hdo
  refine callsV_of C_ok (args := [_, _]) (plans := plans156) Tryz.func156 rfl Tryz.ntmps156 (by kernel_rfl) (Nat.le_of_ble_eq_true rfl) ?_
  intro g1 w1 h1
  have M1 : Mem w w1 [(g1, .cells x.cells.toArray 39 (0, 0))] := (Mem.start w).alloc h1
  refine ⟨x.w.cells, rfl, (M1.rd 0 rfl).part x.w_part, ?_⟩
  intro g2 w2 h2
  have M2 := M1.alloc h2
  refine ⟨rfl, _, _, M2.get 0 rfl, Nat.le_of_ble_eq_true rfl, rfl, ?_⟩
  intro w3 h3
  have M3 : Mem w w3 [(g2, .cells x.w.cells.toArray 35 (0, 0)), (g1, .cells x.cells.toArray 39 (0, 0))] := M2.put 0 rfl h3
  have hs3 := h.ext M3.ext
  refine ⟨_, cell_of_block (i := 2) hs3.block rfl, ?_⟩
  refine ⟨x.w.cells, rfl, M3.rd 0 rfl, ?_⟩
  intro g4 w4 h4
  refine ⟨h4.ext, ?_⟩
  have M4 := M3.alloc h4
  have hs4 := h.ext M4.ext
  refine ⟨rfl, rfl, rfl, 0, _, _, x.w.cells, hs4.waivs, Nat.zero_le _, Nat.le_of_ble_eq_true rfl, rfl, rfl, .inr ⟨g4, 0, rfl, Rd.of_block h4.here⟩, rfl, rfl, by omega, by simp only [maxLen]; omega, ?_⟩
  intro v5 w5 ho5 hg5 hpl
  obtain ⟨A5, c5, rfl, _, _⟩ := reads_of_owns ho5
  have lt4 : ∀ k, s.has k → k < w4.heap.size := fun k hk => hs4.lt hk
  have hW : ∀ k, s.vW.ownBlock = some k → k ≠ s.gs ∧ k ≠ s.bR ∧ k ≠ s.bC ∧ k ≠ s.bD ∧ k ≠ s.bM ∧ s.vG.ownBlock ≠ some k := fun k hk => h.apartW hk
  have same5 : ∀ k, s.has k → s.vW.ownBlock ≠ some k → w5.heap[k]? = w.heap[k]? := fun k hk hne => by
    rw [hg5.block k (lt4 k hk) (fun e => hne e.symm), M4.ext.block k (h.lt hk)]
  have hb5 : w5.heap[s.gs]? = some (.cells s.cells.toArray 125 (0, 0)) := by
    rw [same5 _ (.inl rfl) (fun e => (hW _ e).1 rfl)]; exact h.block
  have old : ∀ k, s.has k → k < w.heap.size := fun k hk => h.lt hk
  have hg2 : w5.heap[g2]? = some (.cells x.w.cells.toArray 35 (0, 0)) := by
    rw [hg5.block g2 (lt_of_heap (M4.get 1 rfl)) (fun e => by have := old g2 (.inr (.inr (.inr (.inr (.inr (.inl e.symm)))))); have := M4.new 1 rfl; omega)]
    exact M4.get 1 rfl
  refine ⟨rfl, _, _, hb5, Nat.le_of_ble_eq_true rfl, rfl, ?_⟩
  intro w6 h6
  generalize hs' : (SV.mk s.gs s.bR s.bC s.bD s.bM (.slice A5 ((waivL es).length + 1) c5) s.vG) = s'
  have h6 : Put w5 s.gs (.cells s'.cells.toArray 125 (0, 0)) w6 := by rw [← hs']; exact h6
  have hg26 : w6.heap[g2]? = some (.cells x.w.cells.toArray 35 (0, 0)) := by
    rw [h6.there g2 (fun e => by have := old g2 (.inl e); have := M4.new 1 rfl; omega)]; exact hg2
  refine ⟨_, cell_of_block (i := 4) hg26 rfl, ?_⟩
  refine ⟨_, cell_of_block (i := 3) hg26 rfl, ?_⟩
  intro g7 w7 h7
  refine ⟨rfl, _, _, h7.here, Nat.le_of_ble_eq_true rfl, rfl, ?_⟩
  intro w8 h8
  have e68 : Ext w6 w8 := h8.ext_of h7.ext (by rw [h7.new]; exact Nat.le_refl _)
  -- the pieces at w8
  have hb8 : w8.heap[s.gs]? = some (.cells s'.cells.toArray 125 (0, 0)) := e68.heap h6.here
  have size46 : w6.heap.size = w5.heap.size := h6.size
  have same8 : ∀ k, s.has k → s.vW.ownBlock ≠ some k → k ≠ s.gs → w8.heap[k]? = w.heap[k]? := fun k hk hne hng => by
    have : w6.heap[k]? = w.heap[k]? := by rw [h6.there k hng, same5 k hk hne]
    rw [e68.block k (by have := lt4 k hk; have := hg5.size; omega), this]
  have hD8 : MapL C.P 136 w8 s.bD ((dueL es).map dueP) := h.dues.same (same8 _ (.inr (.inr (.inr (.inl rfl)))) (fun e => (hW _ e).2.2.2.1 rfl) (by
    have hnd := h.nodup
    simp only [List.nodup_cons, List.mem_cons, List.not_mem_nil, or_false, not_or, not_false_eq_true, List.nodup_nil, and_true] at hnd
    omega))
  have hg28 : w8.heap[g2]? = some (.cells x.w.cells.toArray 35 (0, 0)) := e68.heap hg26
  have ho8 : w8.ownsRow 0 35 9 (.slice A5 ((waivL es).length + 1) c5) ((waivL es).length + 1) ((waivL es).flatMap Waiv.cells ++ x.w.cells) := by
    refine ownsRow_ext (ownsRow_put ho5 h6 (fun e => ?_)) e68
    obtain ⟨_, cur, hc⟩ := owns_at ho5 e
    rw [hb5] at hc; simp at hc
  have keep8 : Keep (fun k => ¬ s.has k) w w8 := ((((keep_ext M4.ext).grown hg5 (fun k hk hn => hn (.inr (.inr (.inr (.inr (.inr (.inl hk)))))))).put h6 (fun hn => hn (.inl rfl))).ext e68)
  have hnd := h.nodup
  have hnd' : [s'.gs, s'.bR, s'.bC, s'.bD, s'.bM].Nodup := by rw [← hs']; exact hnd
  simp only [List.nodup_cons, List.mem_cons, List.not_mem_nil, or_false, not_or, not_false_eq_true, List.nodup_nil, and_true] at hnd
  have hv5 : ∀ k, (Value.slice A5 ((waivL es).length + 1) c5).ownBlock = some k → s.has k ∨ w.heap.size ≤ k := fun k hk => by
    rcases hpl.2 k hk with h | h
    · exact .inl (.inr (.inr (.inr (.inr (.inr (.inl h))))))
    · exact .inr (Nat.le_trans M4.ext.size h)
  have hv5d : (Value.slice A5 ((waivL es).length + 1) c5).ownBlock ≠ some s.bD := fun e => by
    obtain ⟨_, cur, hc⟩ := owns_at ho8 e
    obtain ⟨a, b, e2⟩ := mapL_at hD8
    rw [e2] at hc; cases hc
  -- what is left to be shown behind the last step
  have fin : ∀ {o' : Obj} {w9 : World}, Put w8 s.bD o' w9 → MapL C.P 136 w9 s.bD ((dueS (dueL es) x.w).map dueP) → StGo w s (es ++ [x]) w9 := fun {o'} {w9} h9 hD9 => by
    have same9 : ∀ k, s.has k → s.vW.ownBlock ≠ some k → k ≠ s.gs → k ≠ s.bD → w9.heap[k]? = w.heap[k]? := fun k hk hne hng hnd => by rw [h9.there k hnd, same8 k hk hne hng]
    refine ⟨s', by rw [← hs'], ⟨?_, ?_, ?_, ?_, ?_, ?_, ?_, hnd'⟩, keep8.put h9 (fun hn => hn (.inr (.inr (.inr (.inl rfl))))), fun k hk => ?_⟩
    · rw [show s'.gs = s.gs by rw [← hs'], h9.there _ (by omega)]; exact hb8
    · obtain ⟨f, hm, hf⟩ := h.rates
      rw [← hs']
      exact ⟨f, hm.same (same9 _ (.inr (.inl rfl)) (fun e => (hW _ e).2.1 rfl) (by omega) (by omega)), fun c => by rw [plain_rate (by omega)]; exact hf c⟩
    · obtain ⟨f, hm, hf⟩ := h.ceils
      rw [← hs']
      exact ⟨f, hm.same (same9 _ (.inr (.inr (.inl rfl))) (fun e => (hW _ e).2.2.1 rfl) (by omega) (by omega)), fun c => by rw [plain_ceil (by omega)]; exact hf c⟩
    · have hw : waivL (es ++ [x]) = waivL es ++ [x.w] := by rw [waivL_snoc]; unfold waivS; rw [if_pos hk]
      rw [hw, ← hs', List.length_append, List.flatMap_append]
      have := ownsRow_put ho8 h9 hv5d
      simpa using this
    · rw [← hs', dueL_snoc, if_pos hk]; exact hD9
    · rw [plain_gifts (by omega), ← hs']
      exact owns_same h.gifts fun k hk => same9 k (.inr (.inr (.inr (.inr (.inr (.inr hk)))))) (h.apartG hk).2.2.2.2.2 (h.apartG hk).1 (h.apartG hk).2.2.2.1
    · obtain ⟨f, hm, hf⟩ := h.mets
      rw [← hs']
      exact ⟨f, hm.same (same9 _ (.inr (.inr (.inr (.inr (.inl rfl))))) (fun e => (hW _ e).2.2.2.2.1 rfl) (by omega) (by omega)), fun c hc => by rw [plain_gifts (by omega)]; exact hf c hc⟩
    · rw [← hs'] at hk
      rcases hk with hk | hk | hk | hk | hk | hk | hk
      · exact .inl (.inl hk)
      · exact .inl (.inr (.inl hk))
      · exact .inl (.inr (.inr (.inl hk)))
      · exact .inl (.inr (.inr (.inr (.inl hk))))
      · exact .inl (.inr (.inr (.inr (.inr (.inl hk)))))
      · exact hv5 k hk
      · exact .inl (.inr (.inr (.inr (.inr (.inr (.inr hk))))))
  refine ⟨_, cell_of_block (i := 3) hb8 (by rw [← hs']; rfl), ?_⟩
  refine ⟨[.int .i64 x.w.taker, .int .i64 x.w.giver], rfl, Rd.of_block h8.here, ?_⟩
  by_cases hd : (dueL es).any (fun d => decide (d.cred = x.w.taker ∧ d.debt = x.w.giver)) = true
  · obtain ⟨d, hd1, hd2⟩ := List.any_eq_true.1 hd
    have hd2 := of_decide_eq_true hd2
    refine ⟨.tuple #[.int .i64 d.waiver, .bool true], mapLGet C_ok (te := ty3) (x := sidesV x.w.taker x.w.giver) (sidesKey hx.w.taker hx.w.giver) hD8 sidesK rfl rfl rfl rfl rfl rfl (.inl ⟨rfl, dueP_mem.2 ⟨d, hd1, hd2.1, hd2.2, rfl⟩⟩), ?_⟩
    refine ⟨_, cell_of_block (i := 3) hb8 (by rw [← hs']; rfl), ?_⟩
    refine ⟨[.int .i64 x.w.taker, .int .i64 x.w.giver], rfl, Rd.of_block h8.here, ?_⟩
    refine mapLDel C_ok (x := sidesV x.w.taker x.w.giver) (sidesKey hx.w.taker hx.w.giver) hD8 sidesK rfl rfl rfl rfl rfl ?_
    intro o' w9 h9 hD9
    refine fin h9 ?_
    rw [dropK_dues] at hD9
    unfold dueS
    rw [if_pos hd]; exact hD9
  · have hno : ∀ u, (sidesV x.w.taker x.w.giver, u) ∉ (dueL es).map dueP := fun u hu => by
      obtain ⟨d, hd1, hd2, hd3, _⟩ := dueP_mem.1 hu
      exact hd (List.any_eq_true.2 ⟨d, hd1, decide_eq_true ⟨hd2, hd3⟩⟩)
    refine ⟨.tuple #[.int .i64 0, .bool false], mapLGet C_ok (te := ty3) (x := sidesV x.w.taker x.w.giver) (sidesKey hx.w.taker hx.w.giver) hD8 sidesK rfl rfl rfl rfl rfl rfl (.inr ⟨rfl, rfl, hno⟩), ?_⟩
    refine ⟨_, cell_of_block (i := 3) hb8 (by rw [← hs']; rfl), ?_⟩
    refine ⟨_, cell_of_block (i := 3) hg28 rfl, ?_⟩
    refine ⟨_, cell_of_block (i := 4) hg28 rfl, ?_⟩
    refine ⟨_, cell_of_block (i := 0) hg28 rfl, ?_⟩
    refine mapLPut C_ok (x := sidesV x.w.giver x.w.taker) (sidesKey hx.w.giver hx.w.taker) hD8 sidesK rfl rfl rfl rfl rfl rfl (fun u hu => by
      obtain ⟨d, hd1, hd2, hd3, _⟩ := dueP_mem.1 hu
      have := owes_iff.2 ⟨d, hd1, hd2, hd3⟩
      rw [how] at this; cases this) ?_
    intro o' w9 h9 hD9
    refine fin h9 ?_
    unfold dueS
    rw [if_neg hd, List.map_append]
    exact hD9

/-! ### ended -/
theorem end_facts {sg : Int} {es : List Entry} {x : Entry} (hk : x.kind = 4) (hx : doE sg es x = 0) : ∃ k, ∃ _ : k < (waivL es).length, x.w.id = ((k + 1 : Nat) : Int) := by
  obtain ⟨hf, hl, hr⟩ := do_zero hx
  obtain ⟨hok, _, _⟩ := form_okE hf
  have hid : 1 ≤ x.w.id := by
    unfold okE at hok
    rw [if_neg (by omega), if_neg (by omega), if_neg (by omega), if_pos hk, decide_eq_true_eq] at hok
    exact hok.1
  unfold refusedE at hr
  rw [if_neg (by omega), if_pos hk] at hr
  split at hr
  · cases hr
  rename_i r1
  obtain ⟨k, hk, he⟩ := num_of (n := (waivL es).length) (i := x.w.id) hid (by omega)
  exact ⟨k, hk, he⟩
set_option maxRecDepth 100000 in
theorem end_spec {w : World} {s : SV} {es : List Entry} {x : Entry} {sg : Int} (h : StateIs w s es) (hA : Acc es) (hk : x.kind = 4) (hx : x.Nums) (hdo : doE sg es x = 0) :
    CallsV C.P 157 (#[] ++ [.pointer (some ⟨s.gs, 0, none⟩), x.val].toArray ++ #[]) w fun _ w' => StGo w s (es ++ [x]) w' := by
  obtain ⟨k, hlk, hid⟩ := end_facts hk hdo
  have hwl := (acc_ok hA).wlen
  refine callsV_of C_ok (args := [_, _]) (plans := plans157) Tryz.func157 rfl Tryz.ntmps157 (by kernel_rfl) (Nat.le_of_ble_eq_true rfl) ?_
  intro g1 w1 h1
  have M1 : Mem w w1 [(g1, .cells x.cells.toArray 39 (0, 0))] := (Mem.start w).alloc h1
  have hs := h.ext M1.ext
  obtain ⟨g, cap, cur, hv, hg, hb, hown, hrd, hput⟩ := row_open Waiv.len (by omega) hs.waivs hlk
  refine ⟨.slice (some ⟨g, 0, none⟩) (waivL es).length cap, cell_of_block (i := 2) hs.block (by show some s.vW = _; rw [hv]), ?_⟩
  refine ⟨_, M1.cell 0 rfl rfl, ?_⟩
  refine ⟨(k : Int), by show IntKind.i64.wrap (x.w.id - 1) = _; rw [hid, fit ⟨by omega, by omega⟩]; omega, ?_⟩
  refine ⟨k, g, 0, rfl, hlk, rfl, ?_⟩
  refine ⟨_, hrd 8 _ rfl, ?_⟩
  refine ⟨_, M1.cell 0 rfl rfl, ?_⟩
  refine ⟨_, hrd 7 _ rfl, ?_⟩
  refine ⟨_, maxQ rfl rfl rfl rfl, ?_⟩
  refine ⟨_, minQ rfl rfl rfl rfl, ?_⟩
  refine ⟨rfl, _, _, hg, by show 0 + k * 9 + 8 + 1 ≤ _; omega, rfl, ?_⟩
  intro w2 h2
  have hrow := hput 8 _ (endW x.day (waivL es)[k]) w2 rfl (Nat.le_of_ble_eq_true rfl) h2
  have hW := h.apartW hown
  have same : ∀ q, s.has q → q ≠ g → w2.heap[q]? = w.heap[q]? := fun q hq hne => by rw [h2.there q hne, M1.ext.block q (h.lt hq)]
  refine ⟨s, rfl, ⟨?_, ?_, ?_, ?_, ?_, ?_, ?_, h.nodup⟩, (keep_ext M1.ext).put h2 (fun hn => hn (.inr (.inr (.inr (.inr (.inr (.inl hown))))))), fun k hk => .inl hk⟩
  · rw [same _ (.inl rfl) hW.1.symm]; exact h.block
  · obtain ⟨f, hm, hf⟩ := h.rates
    exact ⟨f, hm.same (same _ (.inr (.inl rfl)) hW.2.1.symm), fun c => by rw [plain_rate (by omega)]; exact hf c⟩
  · obtain ⟨f, hm, hf⟩ := h.ceils
    exact ⟨f, hm.same (same _ (.inr (.inr (.inl rfl))) hW.2.2.1.symm), fun c => by rw [plain_ceil (by omega)]; exact hf c⟩
  · have hw : waivL (es ++ [x]) = (waivL es).set k (endW x.day (waivL es)[k]) := by rw [waivL_snoc]; unfold waivS; rw [if_neg (by omega), if_pos hk, hid, updAt_eq hlk]
    rw [hw]; exact hrow
  · rw [plain_dues (by omega)]
    exact h.dues.same (same _ (.inr (.inr (.inr (.inl rfl)))) hW.2.2.2.1.symm)
  · rw [plain_gifts (by omega)]
    exact owns_same h.gifts fun q hq => same q (.inr (.inr (.inr (.inr (.inr (.inr hq)))))) (fun e => hW.2.2.2.2.2 (by rw [← e]; exact hq))
  · obtain ⟨f, hm, hf⟩ := h.mets
    exact ⟨f, hm.same (same _ (.inr (.inr (.inr (.inr (.inl rfl))))) hW.2.2.2.2.1.symm), fun c hc => by rw [plain_gifts (by omega)]; exact hf c hc⟩

end Go.Proofs.YtcnbpfecgokhiaaGreatDoor

namespace Go.Proofs.YtcnbpfecgokhiaaGreatDoor
open Go.Eng Go.RowKit
open Go.Maps (Keyed)

theorem numV_getD (n : Int) : (numV n).getD (.int .i64 0) = .int .i64 n := by
  unfold numV
  split
  · rename_i h; rw [h]; rfl
  · rfl
theorem numV_some (n : Int) : (numV n).isSome = !decide (n = 0) := by
  unfold numV
  split
  · rename_i h; rw [h]; rfl
  · rename_i h; rw [decide_eq_false h]; rfl

theorem worth_spec {w : World} {s : SV} {es : List Entry} (h : StateIs w s es) {x : Gift} (hr : 0 ≤ rateL es x.cur ∧ rateL es x.cur ≤ 1000000) (hn : 1 ≤ x.n ∧ x.n ≤ 1000000) (hc : 0 ≤ x.cur ∧ x.cur ≤ 255) :
    CallsV C.P 183 #[.pointer (some ⟨s.gs, 0, none⟩), x.val] w fun v w' => v = .int .i64 (x.n * rateL es x.cur) ∧ Ext w w' := by
  refine callsV_of C_ok (args := [_, _]) (plans := plans183) Tryz.func183 rfl Tryz.ntmps183 (by kernel_rfl) (Nat.le_of_ble_eq_true rfl) ?_
  intro g1 w1 h1
  have M1 : Mem w w1 [(g1, .cells x.cells.toArray 37 (0, 0))] := (Mem.start w).alloc h1
  have hs := h.ext M1.ext
  obtain ⟨f, hm, hf⟩ := hs.rates
  have hb : 0 ≤ x.n * rateL es x.cur ∧ x.n * rateL es x.cur ≤ 1000000 * 1000000 := ⟨Int.mul_nonneg (by omega) hr.1, Int.mul_le_mul hn.2 hr.2 hr.1 (by omega)⟩
  refine ⟨_, M1.cell 0 rfl rfl, ?_⟩
  refine ⟨_, cell_of_block (i := 0) hs.block rfl, ?_⟩
  refine ⟨_, M1.cell 0 rfl rfl, ?_⟩
  refine ⟨x.cur, fit ⟨by omega, by omega⟩, ?_⟩
  refine ⟨.int .i64 (rateL es x.cur), mapGet1 C_ok (te := ty3) (x := .int .i64 x.cur) (intKey ⟨by omega, by omega⟩) hm intK rfl rfl rfl rfl rfl rfl (by rw [hf]; exact numV_getD _), ?_⟩
  refine ⟨x.n * rateL es x.cur, fit ⟨by omega, by omega⟩, ?_⟩
  exact ⟨rfl, M1.ext⟩

/-! ### offered -/
theorem offer_facts {sg : Int} {es : List Entry} {x : Entry} (hk : x.kind = 5) (hx : doE sg es x = 0) : (giftL es).length < 500 ∧ (1 ≤ x.g.n ∧ x.g.n ≤ 1000000) ∧ (1 ≤ x.g.cur ∧ x.g.cur ≤ 2) := by
  obtain ⟨hf, hl, hr⟩ := do_zero hx
  obtain ⟨hok, _, _⟩ := form_okE hf
  unfold refusedE at hr
  rw [if_neg (by omega), if_neg (by omega), if_pos hk] at hr
  unfold offeredE at hr
  split at hr
  · cases hr
  rename_i r1
  rw [okE_5 hk] at hok
  unfold rightG at hok
  simp only [Bool.and_eq_true, decide_eq_true_eq] at hok
  exact ⟨by omega, hok.1.2, hok.1.1.2⟩
set_option maxRecDepth 100000 in
theorem offer_spec {w : World} {s : SV} {es : List Entry} {x : Entry} {sg : Int} (h : StateIs w s es) (hA : Acc es) (hk : x.kind = 5) (hx : x.Nums) (hdo : doE sg es x = 0) :
    CallsV C.P 158 (#[] ++ [.pointer (some ⟨s.gs, 0, none⟩), x.val].toArray ++ #[]) w fun _ w' => StGo w s (es ++ [x]) w' := by
  obtain ⟨hlen, hn, hcur⟩ := offer_facts hk hdo
  have hrate := (acc_ok hA).rate x.g.cur
  refine callsV_of C_ok (args := [_, _]) (plans := plans158) Tryz.func158 rfl Tryz.ntmps158 (by kernel_rfl) (Nat.le_of_ble_eq_true rfl) ?_
  intro g1 w1 h1
  have M1 : Mem w w1 [(g1, .cells x.cells.toArray 39 (0, 0))] := (Mem.start w).alloc h1
  refine ⟨x.g.cells, rfl, (M1.rd 0 rfl).part x.g_part, ?_⟩
  intro g2 w2 h2
  have M2 := M1.alloc h2
  refine ⟨rfl, _, _, M2.get 0 rfl, Nat.le_of_ble_eq_true rfl, rfl, ?_⟩
  intro w3 h3
  have M3 : Mem w w3 [(g2, .cells x.g.cells.toArray 37 (0, 0)), (g1, .cells x.cells.toArray 39 (0, 0))] := M2.put 0 rfl h3
  have hs3 := h.ext M3.ext
  refine ⟨x.g.cells, rfl, M3.rd 0 rfl, ?_⟩
  refine (worth_spec hs3 hrate hn ⟨by omega, by omega⟩).mono ?_
  rintro _ w3' ⟨rfl, e3⟩
  have M3' := M3.grow e3
  refine ⟨rfl, _, _, M3'.get 0 rfl, Nat.le_of_ble_eq_true rfl, rfl, ?_⟩
  intro w3a h3a
  have M3a := M3'.put 0 rfl h3a
  refine ⟨rfl, _, _, M3a.get 0 rfl, Nat.le_of_ble_eq_true rfl, rfl, ?_⟩
  intro w3b h3b
  generalize hy : ({ x.g with worth := x.g.n * rateL es x.g.cur, state := 1 } : Gift) = y
  have M3b : Mem w w3b [(g2, .cells y.cells.toArray 37 (0, 0)), (g1, .cells x.cells.toArray 39 (0, 0))] := by
    rw [← hy]; exact M3a.put 0 rfl h3b
  have hs3b := h.ext M3b.ext
  refine ⟨_, cell_of_block (i := 4) hs3b.block rfl, ?_⟩
  refine ⟨y.cells, rfl, M3b.rd 0 rfl, ?_⟩
  intro g4 w4 h4
  refine ⟨h4.ext, ?_⟩
  have M4 := M3b.alloc h4
  have hs4 := h.ext M4.ext
  refine ⟨rfl, rfl, rfl, 0, _, _, y.cells, hs4.gifts, Nat.zero_le _, Nat.le_of_ble_eq_true rfl, rfl, rfl, .inr ⟨g4, 0, rfl, Rd.of_block h4.here⟩, rfl, rfl, by omega, by simp only [maxLen]; omega, ?_⟩
  intro v5 w5 ho5 hg5 hpl
  obtain ⟨A5, c5, rfl, _, _⟩ := reads_of_owns ho5
  have lt4 : ∀ k, s.has k → k < w4.heap.size := fun k hk => hs4.lt hk
  have hW : ∀ k, s.vG.ownBlock = some k → k ≠ s.gs ∧ k ≠ s.bR ∧ k ≠ s.bC ∧ k ≠ s.bD ∧ k ≠ s.bM ∧ s.vW.ownBlock ≠ some k := fun k hk => h.apartG hk
  have same5 : ∀ k, s.has k → s.vG.ownBlock ≠ some k → w5.heap[k]? = w.heap[k]? := fun k hk hne => by
    rw [hg5.block k (lt4 k hk) (fun e => hne e.symm), M4.ext.block k (h.lt hk)]
  have hb5 : w5.heap[s.gs]? = some (.cells s.cells.toArray 125 (0, 0)) := by
    rw [same5 _ (.inl rfl) (fun e => (hW _ e).1 rfl)]; exact h.block
  refine ⟨rfl, _, _, hb5, Nat.le_of_ble_eq_true rfl, rfl, ?_⟩
  intro w6 h6
  generalize hs' : (SV.mk s.gs s.bR s.bC s.bD s.bM s.vW (.slice A5 ((giftL es).length + 1) c5)) = s'
  have h6 : Put w5 s.gs (.cells s'.cells.toArray 125 (0, 0)) w6 := by rw [← hs']; exact h6
  have same6 : ∀ k, s.has k → s.vG.ownBlock ≠ some k → k ≠ s.gs → w6.heap[k]? = w.heap[k]? := fun k hk hne hng => by rw [h6.there k hng, same5 k hk hne]
  have hnd := h.nodup
  have hnd' : [s'.gs, s'.bR, s'.bC, s'.bD, s'.bM].Nodup := by rw [← hs']; exact hnd
  simp only [List.nodup_cons, List.mem_cons, List.not_mem_nil, or_false, not_or, not_false_eq_true, List.nodup_nil, and_true] at hnd
  have hG : giftL (es ++ [x]) = giftL es ++ [y] := by rw [(offer_gift hk hdo).1, hy]
  have hmy : ∀ c, metW c y = 0 := fun c => by
    unfold metW metB
    rw [if_neg]
    rw [← hy]; simp
  refine ⟨s', by rw [← hs'], ⟨?_, ?_, ?_, ?_, ?_, ?_, ?_, hnd'⟩, ((keep_ext M4.ext).grown hg5 (fun k hk hn => hn (.inr (.inr (.inr (.inr (.inr (.inr hk)))))))).put h6 (fun hn => hn (.inl rfl)), fun k hk => ?_⟩
  · rw [show s'.gs = s.gs by rw [← hs']]; exact h6.here
  · obtain ⟨f, hm, hf⟩ := h.rates
    rw [← hs']
    exact ⟨f, hm.same (same6 _ (.inr (.inl rfl)) (fun e => (hW _ e).2.1 rfl) (by omega)), fun c => by rw [plain_rate (by omega)]; exact hf c⟩
  · obtain ⟨f, hm, hf⟩ := h.ceils
    rw [← hs']
    exact ⟨f, hm.same (same6 _ (.inr (.inr (.inl rfl))) (fun e => (hW _ e).2.2.1 rfl) (by omega)), fun c => by rw [plain_ceil (by omega)]; exact hf c⟩
  · rw [plain_waivs (by omega), ← hs']
    exact owns_same h.waivs fun k hk => same6 k (.inr (.inr (.inr (.inr (.inr (.inl hk)))))) (h.apartW hk).2.2.2.2.2 (h.apartW hk).1
  · rw [plain_dues (by omega), ← hs']
    exact h.dues.same (same6 _ (.inr (.inr (.inr (.inl rfl)))) (fun e => (hW _ e).2.2.2.1 rfl) (by omega))
  · rw [hG, ← hs', List.length_append, List.flatMap_append]
    have := ownsRow_put ho5 h6 (fun e => by
      obtain ⟨_, cur, hc⟩ := owns_at ho5 e
      rw [hb5] at hc; simp at hc)
    simpa using this
  · obtain ⟨f, hm, hf⟩ := h.mets
    rw [← hs']
    exact ⟨f, hm.same (same6 _ (.inr (.inr (.inr (.inr (.inl rfl))))) (fun e => (hW _ e).2.2.2.2.1 rfl) (by omega)), fun c hc => by rw [hG, metL_snoc, hmy, Int.add_zero]; exact hf c hc⟩
  · rw [← hs'] at hk
    rcases hk with hk | hk | hk | hk | hk | hk | hk
    · exact .inl (.inl hk)
    · exact .inl (.inr (.inl hk))
    · exact .inl (.inr (.inr (.inl hk)))
    · exact .inl (.inr (.inr (.inr (.inl hk))))
    · exact .inl (.inr (.inr (.inr (.inr (.inl hk)))))
    · exact .inl (.inr (.inr (.inr (.inr (.inr (.inl hk))))))
    · rcases hpl.2 k hk with h | h
      · exact .inl (.inr (.inr (.inr (.inr (.inr (.inr h))))))
      · exact .inr (Nat.le_trans M4.ext.size h)

end Go.Proofs.YtcnbpfecgokhiaaGreatDoor
