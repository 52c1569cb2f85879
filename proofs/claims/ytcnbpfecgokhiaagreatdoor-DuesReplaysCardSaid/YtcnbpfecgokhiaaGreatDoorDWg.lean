/- a part of the proof: steps, walks and plain laws that the law below stands on; no condition. -/
import Derived.Test.YtcnbpfecgokhiaaGreatDoorDWf
import Derived.Test.YtcnbpfecgokhiaaGreatDoorDEc
set_option linter.unusedVariables false
set_option linter.unusedSimpArgs false
set_option linter.unnecessarySimpa false
set_option linter.unusedSectionVars false
namespace Go.Proofs.YtcnbpfecgokhiaaGreatDoor
open Go.Eng Go.RowKit
open Go.Maps (Keyed)

/-- What the blocks of a state are. -/
theorem StateIs.kind {w : World} {s : SV} {es : List Entry} (h : StateIs w s es) {k : Nat} (hk : s.has k) : (∃ a b, w.heap[k]? = some (.map a b)) ∨ ∃ c t fr, w.heap[k]? = some (.cells c t fr) ∧ (t = 125 ∨ t = 35 ∨ t = 37) := by
  rcases hk with rfl | rfl | rfl | rfl | rfl | hk | hk
  · exact .inr ⟨_, _, _, h.block, .inl rfl⟩
  · obtain ⟨f, hm, _⟩ := h.rates; exact .inl (map_at hm)
  · obtain ⟨f, hm, _⟩ := h.ceils; exact .inl (map_at hm)
  · exact .inl (mapL_at h.dues)
  · obtain ⟨f, hm, _⟩ := h.mets; exact .inl (map_at hm)
  · obtain ⟨_, cur, e⟩ := owns_at h.waivs hk; exact .inr ⟨_, _, _, e, .inr (.inl rfl)⟩
  · obtain ⟨_, cur, e⟩ := owns_at h.gifts hk; exact .inr ⟨_, _, _, e, .inr (.inr rfl)⟩
theorem StateIs.off {w : World} {s : SV} {es : List Entry} (h : StateIs w s es) {k t : Nat} {c : Array Value} {fr : Nat × Nat} (hk : w.heap[k]? = some (.cells c t fr)) (h1 : t ≠ 125) (h2 : t ≠ 35) (h3 : t ≠ 37) : ¬ s.has k := fun hs => by
  rcases h.kind hs with ⟨a, b, e⟩ | ⟨c', t', fr', e, ht⟩
  · rw [hk] at e; cases e
  · rw [hk] at e
    simp at e
    rcases ht with ht | ht | ht
    · exact h1 (e.2.1.trans ht)
    · exact h2 (e.2.1.trans ht)
    · exact h3 (e.2.1.trans ht)
theorem keep_trans {D E : Nat → Prop} {a b c : World} (h : Keep D a b) (k : Keep E b c) (hd : ∀ q, D q → q < a.heap.size → E q) : Keep D a c :=
  ⟨k.os.trans h.os, k.tape.trans h.tape, k.output.trans h.output, Nat.le_trans h.size k.size, fun q hD hq => (k.block q (hd q hD hq) (Nat.lt_of_lt_of_le hq h.size)).trans (h.block q hD hq)⟩
theorem StGo.trans {w w1 w2 : World} {s : SV} {es es' : List Entry} (h : StGo w s es w1) (k : ∀ s1, s1.gs = s.gs → StateIs w1 s1 es → StGo w1 s1 es' w2) : StGo w s es' w2 := by
  obtain ⟨s1, hg, hs, hk, hn⟩ := h
  obtain ⟨s2, hg2, hs2, hk2, hn2⟩ := k s1 hg hs
  refine ⟨s2, hg2.trans hg, hs2, keep_trans hk hk2 (fun q hq hlt h1 => ?_), fun q hq => ?_⟩
  · rcases hn q h1 with h | h
    · exact hq h
    · omega
  · rcases hn2 q hq with h | h
    · exact hn q h
    · exact .inr (Nat.le_trans hk.size h)

/-- The numbers of a row's cells, from a bound on. -/
theorem owns_from {w : World} {base base' e size n : Nat} {v : Value} {xs : List Value} (h : w.ownsRow base e size v n xs) (hb : ∀ k, v.ownBlock = some k → base' ≤ k) : w.ownsRow base' e size v n xs := by
  obtain ⟨hl, hv | ⟨g, cap, cur, hv, _, h1⟩⟩ := h
  · exact ⟨hl, .inl hv⟩
  · exact ⟨hl, .inr ⟨g, cap, cur, hv, hb g (by rw [hv]; rfl), h1⟩⟩

/-! ### a ledger -/
structure LV where
  gl : Nat
  vE : Value
  s : SV
def LV.ptr (l : LV) : Value := .pointer (some ⟨l.gl, 0, none⟩)
def LV.cells (l : LV) : List Value := [l.vE, .pointer (some ⟨l.s.gs, 0, none⟩)]
def LV.has (l : LV) (k : Nat) : Prop := k = l.gl ∨ l.vE.ownBlock = some k ∨ l.s.has k
structure LedgerIs (w : World) (l : LV) (es : List Entry) : Prop where
  block : w.heap[l.gl]? = some (.cells l.cells.toArray 112 (0, 0))
  row : w.ownsRow 0 39 24 l.vE es.length (es.flatMap Entry.cells)
  st : StateIs w l.s es
  acc : Acc es
  nums : ∀ x ∈ es, x.Nums
theorem LedgerIs.lt {w : World} {l : LV} {es : List Entry} (h : LedgerIs w l es) {k : Nat} (hk : l.has k) : k < w.heap.size := by
  rcases hk with rfl | hk | hk
  · exact lt_of_heap h.block
  · obtain ⟨_, cur, e⟩ := owns_at h.row hk; exact lt_of_heap e
  · exact h.st.lt hk
theorem LedgerIs.keep {w w' : World} {l : LV} {es : List Entry} (h : LedgerIs w l es) (hs : ∀ k, l.has k → w'.heap[k]? = w.heap[k]?) : LedgerIs w' l es :=
  ⟨by rw [hs _ (.inl rfl)]; exact h.block, owns_same h.row fun k hk => hs k (.inr (.inl hk)), h.st.keep fun k hk => hs k (.inr (.inr hk)), h.acc, h.nums⟩
theorem LedgerIs.ext {w w' : World} {l : LV} {es : List Entry} (h : LedgerIs w l es) (e : Ext w w') : LedgerIs w' l es := h.keep fun _ hk => e.block _ (h.lt hk)
theorem LedgerIs.offS {w : World} {l : LV} {es : List Entry} (h : LedgerIs w l es) : ¬ l.s.has l.gl := h.st.off h.block (by decide) (by decide) (by decide)
theorem LedgerIs.offE {w : World} {l : LV} {es : List Entry} (h : LedgerIs w l es) {k : Nat} (hk : l.vE.ownBlock = some k) : ¬ l.s.has k ∧ k ≠ l.gl := by
  obtain ⟨_, cur, e⟩ := owns_at h.row hk
  refine ⟨h.st.off e (by decide) (by decide) (by decide), fun he => ?_⟩
  rw [he, h.block] at e
  simp at e

/-- What becomes of a ledger. -/
def LdGo (w : World) (l : LV) (es : List Entry) (w' : World) : Prop := ∃ l', l'.gl = l.gl ∧ LedgerIs w' l' es ∧ Keep (fun k => ¬ l.has k) w w' ∧ ∀ k, l'.has k → l.has k ∨ w.heap.size ≤ k
theorem LdGo.ext {w w' : World} {l : LV} {es : List Entry} (h : LedgerIs w l es) (e : Ext w w') : LdGo w l es w' := ⟨l, rfl, h.ext e, keep_ext e, fun _ hk => .inl hk⟩
theorem LdGo.trans {w w1 w2 : World} {l : LV} {es es' : List Entry} (h : LdGo w l es w1) (k : ∀ l1, l1.gl = l.gl → LedgerIs w1 l1 es → LdGo w1 l1 es' w2) : LdGo w l es' w2 := by
  obtain ⟨s1, hg, hs, hk, hn⟩ := h
  obtain ⟨s2, hg2, hs2, hk2, hn2⟩ := k s1 hg hs
  refine ⟨s2, hg2.trans hg, hs2, keep_trans hk hk2 (fun q hq hlt h1 => ?_), fun q hq => ?_⟩
  · rcases hn q h1 with h | h
    · exact hq h
    · omega
  · rcases hn2 q hq with h | h
    · exact hn q h
    · exact .inr (Nat.le_trans hk.size h)
/-- A ledger made since a world: all that was there is as it was. -/
structure LdNew (w0 w : World) (l : LV) (es : List Entry) : Prop where
  is : LedgerIs w l es
  new : ∀ k, l.has k → w0.heap.size ≤ k
  ext : Ext w0 w
theorem LdNew.go {w0 w w' : World} {l : LV} {es es' : List Entry} (h : LdNew w0 w l es) (k : LdGo w l es' w') : ∃ l', l'.gl = l.gl ∧ LdNew w0 w' l' es' := by
  obtain ⟨l', hg, hi, hk, hn⟩ := k
  refine ⟨l', hg, hi, fun q hq => ?_, ⟨hk.os.trans h.ext.os, hk.tape.trans h.ext.tape, hk.output.trans h.ext.output, Nat.le_trans h.ext.size hk.size, fun q hq => ?_⟩⟩
  · rcases hn q hq with h1 | h1
    · exact h.new q h1
    · exact Nat.le_trans h.ext.size h1
  · rw [hk.block q (fun h1 => by have := h.new q h1; omega) (Nat.lt_of_lt_of_le hq h.ext.size)]
    exact h.ext.block q hq
theorem LdNew.then {w0 w w' : World} {l : LV} {es : List Entry} (h : LdNew w0 w l es) (e : Ext w w') : LdNew w0 w' l es := ⟨h.is.ext e, h.new, h.ext.trans e⟩

end Go.Proofs.YtcnbpfecgokhiaaGreatDoor

namespace Go.Proofs.YtcnbpfecgokhiaaGreatDoor
open Go.Eng Go.RowKit
open Go.Maps (Keyed)

theorem u8K : Keyed C.P 5 := Go.Maps.int_keyed under5
theorem wfU8 {x : Int} (h : 0 ≤ x ∧ x ≤ 255) : (Lit.int .u8 x).wf = true := by
  simp [Lit.wf, IntKind.min, IntKind.max, IntKind.bits, IntKind.signed]
  omega
theorem u8Key {x : Int} (h : 0 ≤ x ∧ x ≤ 255) : keyOf C.P 5 (.int .u8 x) = some (.int .u8 x) := Go.Maps.keyOf_int_mk under5 (wfU8 h)
theorem StGo.of_ext {w w1 w' : World} {s : SV} {es : List Entry} (e : Ext w w1) (hs : ∀ k, s.has k → k < w.heap.size) (h : StGo w1 s es w') : StGo w s es w' := by
  obtain ⟨s', h1, h2, h3, h4⟩ := h
  exact ⟨s', h1, h2, keep_trans (keep_ext e) h3 fun _ hq _ => hq, fun k hk => (h4 k hk).imp id fun h => Nat.le_trans e.size h⟩
theorem set_facts {sg : Int} {es : List Entry} {x : Entry} (hk : x.kind = 1 ∨ x.kind = 2) (hx : doE sg es x = 0) : x.n ≠ 0 := by
  obtain ⟨hf, hl, hr⟩ := do_zero hx
  obtain ⟨hok, _, _⟩ := form_okE hf
  unfold okE at hok
  rcases hk with hk | hk
  · rw [if_pos hk] at hok
    simp only [Bool.and_eq_true, decide_eq_true_eq] at hok
    omega
  · rw [if_neg (by omega), if_pos hk] at hok
    simp only [Bool.and_eq_true, decide_eq_true_eq] at hok
    omega

set_option maxRecDepth 100000 in
theorem do_spec {w : World} {s : SV} {es : List Entry} {x : Entry} {sg : Int} (h : StateIs w s es) (hA : Acc es) (hx : x.Nums) (hdo : doE sg es x = 0) :
    CallsV C.P 124 #[.pointer (some ⟨s.gs, 0, none⟩), x.val] w fun _ w' => StGo w s (es ++ [x]) w' := by
  have hkind := ok_kind (form_okE (do_zero hdo).1).1
  refine callsV_of C_ok (args := [_, _]) (plans := []) Tryz.func124 rfl Tryz.ntmps124 (by kernel_rfl) (Nat.le_of_ble_eq_true rfl) ?_
  intro g1 w1 h1
  have M1 : Mem w w1 [(g1, .cells x.cells.toArray 39 (0, 0))] := (Mem.start w).alloc h1
  intro g2 w2 h2
  have M2 := M1.alloc h2
  have m2 : MapIs C.P 5 w2 g2 _ := MapIs.empty (M2.get 0 rfl)
  refine insPut C_ok u8K (u8Key (x := 1) (by decide)) m2 rfl rfl rfl rfl rfl rfl ?_
  intro o3 w3 h3 m3
  have M3 := M2.put 0 rfl h3
  refine insPut C_ok u8K (u8Key (x := 2) (by decide)) m3 rfl rfl rfl rfl rfl rfl ?_
  intro o4 w4 h4 m4
  have M4 := M3.put 0 rfl h4
  refine insPut C_ok u8K (u8Key (x := 3) (by decide)) m4 rfl rfl rfl rfl rfl rfl ?_
  intro o5 w5 h5 m5
  have M5 := M4.put 0 rfl h5
  refine insPut C_ok u8K (u8Key (x := 4) (by decide)) m5 rfl rfl rfl rfl rfl rfl ?_
  intro o6 w6 h6 m6
  have M6 := M5.put 0 rfl h6
  refine insPut C_ok u8K (u8Key (x := 5) (by decide)) m6 rfl rfl rfl rfl rfl rfl ?_
  intro o7 w7 h7 m7
  have M7 := M6.put 0 rfl h7
  refine insPut C_ok u8K (u8Key (x := 6) (by decide)) m7 rfl rfl rfl rfl rfl rfl ?_
  intro o8 w8 h8 m8
  have M8 := M7.put 0 rfl h8
  refine insPut C_ok u8K (u8Key (x := 7) (by decide)) m8 rfl rfl rfl rfl rfl rfl ?_
  intro o9 w9 h9 m9
  have M9 := M8.put 0 rfl h9
  have M : Mem w w9 [(g2, o9), (g1, .cells x.cells.toArray 39 (0, 0))] := M9
  have hs := h.ext M.ext
  clear M1 M2 M3 M4 M5 M6 M7 M8 M9 m2 m3 m4 m5 m6 m7 m8
  refine ⟨_, M.cell 1 rfl rfl, ?_⟩
  rcases hkind with k | k | k | k | k | k | k
  · refine ⟨.func (.func 154) #[] #[], mapGet1 C_ok (x := .int .u8 x.kind) (u8Key hx.kind) m9 u8K rfl rfl rfl rfl rfl rfl (by rw [k]; simp [updV]), ?_⟩
    refine ⟨x.cells, rfl, M.rd 1 rfl, ?_⟩
    refine (rate_spec hs k hx (set_facts (.inl k) hdo)).mono ?_
    intro v w10 hgo
    exact hgo.of_ext M.ext fun _ hk => h.lt hk
  · refine ⟨.func (.func 155) #[] #[], mapGet1 C_ok (x := .int .u8 x.kind) (u8Key hx.kind) m9 u8K rfl rfl rfl rfl rfl rfl (by rw [k]; simp [updV]), ?_⟩
    refine ⟨x.cells, rfl, M.rd 1 rfl, ?_⟩
    refine (ceiling_spec hs k hx (set_facts (.inr k) hdo)).mono ?_
    intro v w10 hgo
    exact hgo.of_ext M.ext fun _ hk => h.lt hk
  · refine ⟨.func (.func 156) #[] #[], mapGet1 C_ok (x := .int .u8 x.kind) (u8Key hx.kind) m9 u8K rfl rfl rfl rfl rfl rfl (by rw [k]; simp [updV]), ?_⟩
    refine ⟨x.cells, rfl, M.rd 1 rfl, ?_⟩
    refine (grant_spec hs k hx hdo).mono ?_
    intro v w10 hgo
    exact hgo.of_ext M.ext fun _ hk => h.lt hk
  · refine ⟨.func (.func 157) #[] #[], mapGet1 C_ok (x := .int .u8 x.kind) (u8Key hx.kind) m9 u8K rfl rfl rfl rfl rfl rfl (by rw [k]; simp [updV]), ?_⟩
    refine ⟨x.cells, rfl, M.rd 1 rfl, ?_⟩
    refine (end_spec hs hA k hx hdo).mono ?_
    intro v w10 hgo
    exact hgo.of_ext M.ext fun _ hk => h.lt hk
  · refine ⟨.func (.func 158) #[] #[], mapGet1 C_ok (x := .int .u8 x.kind) (u8Key hx.kind) m9 u8K rfl rfl rfl rfl rfl rfl (by rw [k]; simp [updV]), ?_⟩
    refine ⟨x.cells, rfl, M.rd 1 rfl, ?_⟩
    refine (offer_spec hs hA k hx hdo).mono ?_
    intro v w10 hgo
    exact hgo.of_ext M.ext fun _ hk => h.lt hk
  · refine ⟨.func (.func 159) #[] #[], mapGet1 C_ok (x := .int .u8 x.kind) (u8Key hx.kind) m9 u8K rfl rfl rfl rfl rfl rfl (by rw [k]; simp [updV]), ?_⟩
    refine ⟨x.cells, rfl, M.rd 1 rfl, ?_⟩
    refine (take_spec hs hA k hx hdo).mono ?_
    intro v w10 hgo
    exact hgo.of_ext M.ext fun _ hk => h.lt hk
  · refine ⟨.func (.func 160) #[] #[], mapGet1 C_ok (x := .int .u8 x.kind) (u8Key hx.kind) m9 u8K rfl rfl rfl rfl rfl rfl (by rw [k]; simp [updV]), ?_⟩
    refine ⟨x.cells, rfl, M.rd 1 rfl, ?_⟩
    refine (refuse_spec hs hA k hx hdo).mono ?_
    intro v w10 hgo
    exact hgo.of_ext M.ext fun _ hk => h.lt hk

end Go.Proofs.YtcnbpfecgokhiaaGreatDoor
