/- a part of the proof: steps, walks and plain laws that the law below stands on; no condition. -/
import Derived.Test.YtdpdjcopkehdjaaGreatRUa
import Derived.Test.YtdpdjcopkehdjaaGreatRUb
import Derived.Test.YtdpdjcopkehdjaaGreatRUc
import Derived.Test.YtdpdjcopkehdjaaGreatRUd
import Derived.Test.YtdpdjcopkehdjaaGreatRUe
import Derived.Test.YtdpdjcopkehdjaaGreatRUf
import Derived.Test.YtdpdjcopkehdjaaGreatRUg
import Derived.Test.YtdpdjcopkehdjaaGreatRUh
import Derived.Test.YtdpdjcopkehdjaaGreatRUi
import Derived.Test.YtdpdjcopkehdjaaGreatRUj
import Derived.Test.YtdpdjcopkehdjaaGreatRUk
import Derived.Test.YtdpdjcopkehdjaaGreatRUl
import Derived.Test.YtdpdjcopkehdjaaGreatRUm
import Derived.Test.YtdpdjcopkehdjaaGreatRUn
import Derived.Test.YtdpdjcopkehdjaaGreatRUo
import Derived.Shelf.Strings.OnBuilder
import Derived.Shelf.Strconv.AtoiAll
import Derived.Shelf.Strconv.Itoa3
import Derived.Shelf.Strings.Search2
import Derived.KernelRfl
import Derived.Test.YtdpdjcopkehdjaaGreatProg
import Derived.WideLaws
import Derived.Maps.RangeRun
import Derived.Carry
set_option linter.unusedVariables false
set_option linter.unusedSimpArgs false
set_option linter.unnecessarySimpa false
set_option linter.unusedSectionVars false
namespace Go.Proofs.YtdpdjcopkehdjaaGreat.Rk
open Go.Eng Go.RowKit
noncomputable def relTo (l : List Rl) (p : List Prof) (a : Nat) : List Arrow := (List.range a).flatMap fun a => rwR l p a p.length
theorem relTo_succ (l : List Rl) (p : List Prof) (a : Nat) : relTo l p (a + 1) = relTo l p a ++ rwR l p a p.length := by
  unfold relTo; rw [List.range_succ, List.flatMap_append]; simp
theorem relTo_all (l : List Rl) (p : List Prof) : relTo l p p.length = relL l p := rfl
theorem waiveL_append (xs ys : List Arrow) (ps : List (Int × Int)) : waiveL (xs ++ ys) ps = waiveL xs ps ++ waiveL ys ps := List.filter_append _ _
theorem waiveL_arr (l : List Rl) (p : List Prof) (a b : Nat) (ps : List (Int × Int)) : waiveL (arrF l p a b) ps = if (((a : Nat) : Int), ((b : Nat) : Int)) ∈ ps then [] else arrF l p a b := by
  unfold waiveL arrF
  by_cases h : (((a : Nat) : Int), ((b : Nat) : Int)) ∈ ps
  · rw [if_pos h]
    split
    · simp [h]
    · rfl
  · rw [if_neg h]
    split
    · simp [h]
    · rfl
theorem rwR_le (l : List Rl) (p : List Prof) (a k : Nat) : (rwR l p a k).length ≤ k := by
  induction k with
  | zero => simp [rwR]
  | succ k ih =>
    rw [rwR_succ, List.length_append]
    have h1 := arrF_le l p a k
    have : (if a = k then [] else arrF l p a k).length ≤ 1 := by split <;> simp_all
    omega
theorem relTo_le (l : List Rl) (p : List Prof) (a : Nat) : (relTo l p a).length ≤ a * p.length := by
  induction a with
  | zero => simp [relTo]
  | succ a ih =>
    rw [relTo_succ, List.length_append]
    have := rwR_le l p a p.length
    rw [Nat.succ_mul]; omega
theorem waiveL_le (xs : List Arrow) (ps : List (Int × Int)) : (waiveL xs ps).length ≤ xs.length := List.length_filter_le _ _
theorem lt_of_cell {w : World} {b i : Nat} {v : Value} (h : w.cell? ⟨b, i, none⟩ = some v) : b < w.heap.size := by
  unfold World.cell? at h
  cases e : w.heap[b]? with
  | none => simp [e] at h
  | some o => exact lt_of_heap e
theorem reads_grown {w w' : World} {A : Option Addr} {cs : List Value} {row : Option Nat} (h : ∀ b o, A = some ⟨b, o, none⟩ → some b ≠ row) (hr : Reads w A cs) (hg : w.grownBy w' row) : Reads w' A cs := by
  rcases hr with h0 | ⟨b, o, hA, hr⟩
  · exact .inl h0
  · refine .inr ⟨b, o, hA, fun j v hv => ?_⟩
    have h1 := hr j v hv
    rw [← h1]
    exact World.cell?_of_block (hg.block b (lt_of_cell h1) (h b o hA))
set_option maxRecDepth 100000 in
set_option maxHeartbeats 8000000 in
theorem refRelate_spec {w : World} {A R B Q : Option Addr} {f : List Fact} {l : List Rl} {c cl d e : Nat} {gs ps : List (Int × Int)} (hf : HF w A f c) (hl : f.length ≤ 2 ^ 20) (hR : HRs w R l cl) (s : Scn) (hr : Reads w B (prCells gs)) (hg : ∀ g ∈ gs, In64 g.1) (hrp : Reads w Q (prCells ps)) (hpl : ps.length ≤ 2 ^ 44) :
    CallsV C.P 19 #[.slice A f.length c, .agg #[.slice R l.length cl], s.val, .slice B gs.length d, .slice Q ps.length e] w fun v w' =>
      (∃ u, v = .tuple #[u, .int .i64 (chkR f (chkRl l) s gs)] ∧ NewRel w.heap.size w' u (if chkR f (chkRl l) s gs = 0 then ((gs.length : Nat) : Int) else 0) (if chkR f (chkRl l) s gs = 0 then waiveL (relL l (profsOf f s gs)) ps else [])) ∧ Ext w w' := by
  obtain ⟨k, hk⟩ : ∃ k, k = chkR f (chkRl l) s gs := ⟨_, rfl⟩
  have hkE : k = firstE (chkF f).2 (chkRl l) (schk s) (gchk gs) := hk
  have hk0 : chkR f 0 s gs = firstE (chkF f).2 0 (schk s) (gchk gs) := rfl
  rw [← hk]
  refine callsV_of C_ok (args := [_, _, _, _, _]) (plans := plans19) Tryz.func19 rfl Tryz.ntmps19 (by kernel_rfl) (Nat.le_of_ble_eq_true rfl) ?_
  intro g6 w1 h1
  have M : Mem w w1 [(g6, .cells #[.slice R l.length cl] 29 (0, 0))] := (Mem.start w).alloc h1
  intro g7 w2 h2
  have M : Mem w w2 [(g7, .cells s.cells.toArray 24 (0, 0)), (g6, .cells #[.slice R l.length cl] 29 (0, 0))] := M.alloc h2
  intro g10 w3 h3
  have M : Mem w w3 [(g10, .cells #[.int .i64 0, .slice none 0 0] 49 (0, 0)), (g7, .cells s.cells.toArray 24 (0, 0)), (g6, .cells #[.slice R l.length cl] 29 (0, 0))] := M.alloc h3
  clear h1 h2 h3
  refine (Go.Proofs.YtdpdjcopkehdjaaGreat.refCheck_spec (hf.ext M.ext) hl).mono ?_
  rintro v w4 ⟨rfl, e4⟩
  have M := M.grow e4
  refine brE_ndec (fun c0 => ?_) (fun c0 => ?_)
  · have c0 : (chkF f).2 ≠ 0 := c0
    have hke : k = (chkF f).2 := by rw [hkE, firstE, if_pos c0]
    refine ⟨rfl, _, _, M.get 0 rfl, Nat.le_of_ble_eq_true rfl, rfl, ?_⟩
    intro w5 h5
    have M := M.put 0 rfl h5
    refine ⟨[.int .i64 0, .slice none 0 0], rfl, M.rd 0 rfl, ?_⟩
    refine ⟨⟨_, by rw [hke], ?_⟩, M.ext⟩
    rw [if_neg (by rw [hke]; exact c0), if_neg (by rw [hke]; exact c0)]
    exact newRel_zero _ _
  have c0 : (chkF f).2 = 0 := c0
  refine ⟨[.slice R l.length cl], rfl, M.rd 2 rfl, ?_⟩
  refine (refRulesCheck_spec (hR.ext M.ext)).mono ?_
  rintro v w5 ⟨rfl, e5⟩
  have M := M.grow e5
  refine brE_ndec (fun c1 => ?_) (fun c1 => ?_)
  · have c1 : chkRl l ≠ 0 := c1
    have hke : k = chkRl l := by rw [hkE, firstE, if_neg (fun e => e c0), if_pos c1]
    refine ⟨rfl, _, _, M.get 0 rfl, Nat.le_of_ble_eq_true rfl, rfl, ?_⟩
    intro w6 h6
    have M := M.put 0 rfl h6
    refine ⟨[.int .i64 0, .slice none 0 0], rfl, M.rd 0 rfl, ?_⟩
    refine ⟨⟨_, by rw [hke], ?_⟩, M.ext⟩
    rw [if_neg (by rw [hke]; exact c1), if_neg (by rw [hke]; exact c1)]
    exact newRel_zero _ _
  have c1 : chkRl l = 0 := c1
  have hk3 : chkR f 0 s gs = k := by rw [hk0, hkE, c1]
  refine ⟨s.cells, rfl, M.rd 1 rfl, ?_⟩
  have X := refProfiles_spec (c := c) (d := d) (hf.ext M.ext) hl s (hr.ext M.ext) hg
  rw [hk3] at X
  refine X.mono ?_
  clear X
  rintro v w6 ⟨⟨v6, rfl, hp6⟩, e6⟩
  have M := M.grow e6
  obtain ⟨P, cp, rfl, hHL0⟩ := hp6.hl
  refine brE_ndec (fun c2 => ?_) (fun c2 => ?_)
  · have c2 : k ≠ 0 := c2
    refine ⟨rfl, _, _, M.get 0 rfl, Nat.le_of_ble_eq_true rfl, rfl, ?_⟩
    intro w7 h7
    have M := M.put 0 rfl h7
    refine ⟨[.int .i64 0, .slice none 0 0], rfl, M.rd 0 rfl, ?_⟩
    refine ⟨⟨_, rfl, ?_⟩, M.ext⟩
    rw [if_neg c2, if_neg c2]
    exact newRel_zero _ _
  have c2 : k = 0 := c2
  obtain ⟨p, hpE⟩ : ∃ p, p = profsOf f s gs := ⟨_, rfl⟩
  have hpR : profsR f s gs = p := by rw [hpE]; exact if_pos (hk3.trans c2)
  have hpn : p.length = gs.length := by rw [hpE]; exact List.length_map _
  have hgl := gchk_len (chkR_zero (hk3.trans c2)).2.2.2
  have hp24 : p.length ≤ 24 := by omega
  rw [hpR] at hHL0 ⊢
  rw [if_pos c2, if_pos c2, ← hpE]
  intro g17 w7 h7
  have M7 := M.alloc h7
  refine ⟨rfl, _, _, M7.get 0 rfl, Nat.le_of_ble_eq_true rfl, rfl, ?_⟩
  intro w8 h8
  have M : Mem w w8 [(g17, .cells #[.int .i64 (gs.length : Nat), .slice none 0 0] 49 (0, 0)), (g10, .cells #[.int .i64 0, .slice none 0 0] 49 (0, 0)), (g7, .cells s.cells.toArray 24 (0, 0)), (g6, .cells #[.slice R l.length cl] 29 (0, 0))] := M7.put 0 rfl h8
  have hHL : HL Prof.cells w8 P p cp := hHL0.ext (h8.ext_of h7.ext (by rw [h7.new]; exact Nat.le_refl _))
  have hPb : 0 < p.length → ∀ b o, P = some ⟨b, o, none⟩ → b < g17 := fun h0 b o hb => by
    obtain ⟨b', o', e, hc⟩ := hHL0.at (k := 7) (fun _ => rfl) (by omega) h0
    rw [hb] at e
    cases e
    have := lt_of_cell (hc 0 _ rfl)
    rw [h7.new]; exact this
  clear M7 h7 h8 hHL0 hp6
  obtain ⟨BB, hB⟩ : ∃ BB, BB = w8.heap.size := ⟨_, rfl⟩
  have hwB : w.heap.size ≤ BB := by rw [hB]; exact M.ext.size
  have b17 : g17 < BB := by rw [hB]; exact M.lt List.mem_cons_self
  have b10 : g10 < BB := by rw [hB]; exact M.lt (List.mem_cons_of_mem _ List.mem_cons_self)
  have b7 : g7 < BB := by rw [hB]; exact M.lt (List.mem_cons_of_mem _ (List.mem_cons_of_mem _ List.mem_cons_self))
  have b6 : g6 < BB := by rw [hB]; exact M.lt (List.mem_cons_of_mem _ (List.mem_cons_of_mem _ (List.mem_cons_of_mem _ List.mem_cons_self)))
  have keep : ∀ {w5 w6 : World} {v u : Value} {cs : List Value} {n : Nat}, Mem w w5 [(g17, .cells #[.int .i64 (gs.length : Nat), u] 49 (0, 0)), (g10, .cells #[.int .i64 0, .slice none 0 0] 49 (0, 0)), (g7, .cells s.cells.toArray 24 (0, 0)), (g6, .cells #[.slice R l.length cl] 29 (0, 0))] → w5.ownsRow BB 60 4 v n cs → w5.grownBy w6 v.ownBlock →
      Mem w w6 [(g17, .cells #[.int .i64 (gs.length : Nat), u] 49 (0, 0)), (g10, .cells #[.int .i64 0, .slice none 0 0] 49 (0, 0)), (g7, .cells s.cells.toArray 24 (0, 0)), (g6, .cells #[.slice R l.length cl] 29 (0, 0))] := by
    intro w5 w6 v u cs n MM ho hg
    refine MM.grown hg (fun j hj => Nat.le_trans hwB (ho.lt j hj).1) (fun pp hpp e => ?_)
    have := (ho.lt pp.1 e.symm).1
    simp only [List.mem_cons, List.not_mem_nil, or_false] at hpp
    rcases hpp with rfl | rfl | rfl | rfl <;> simp only at this <;> omega
  refine loopE C_ok (fun (t : Nat × Value) => [(3, .slice B gs.length d), (4, .slice Q ps.length e), (6, .pointer (some ⟨g6, 0, none⟩)), (10, .pointer (some ⟨g10, 0, none⟩)), (15, .slice P p.length cp), (17, .pointer (some ⟨g17, 0, none⟩)), (18, .int .i64 (t.1 : Nat))])
    (fun t w' => t.1 ≤ p.length ∧ Mem w w' [(g17, .cells #[.int .i64 (gs.length : Nat), t.2] 49 (0, 0)), (g10, .cells #[.int .i64 0, .slice none 0 0] 49 (0, 0)), (g7, .cells s.cells.toArray 24 (0, 0)), (g6, .cells #[.slice R l.length cl] 29 (0, 0))] ∧ NewL Arrow.cells 60 4 BB w' t.2 (waiveL (relTo l p t.1) ps) ∧ BB ≤ w'.heap.size ∧ HL Prof.cells w' P p cp)
    (fun t => p.length - t.1) (0, .slice none 0 0) ⟨rfl, rfl, rfl, rfl, rfl, rfl, rfl, trivial⟩ ⟨Nat.zero_le _, M, newL_nil, Nat.le_of_eq hB, hHL⟩ ?_
  clear M hB hHL
  rintro ⟨a, v⟩ w9 ⟨ha', M', ho', hs', hH'⟩
  have ha : a ≤ p.length := ha'
  have M : Mem w w9 [(g17, .cells #[.int .i64 (gs.length : Nat), v] 49 (0, 0)), (g10, .cells #[.int .i64 0, .slice none 0 0] 49 (0, 0)), (g7, .cells s.cells.toArray 24 (0, 0)), (g6, .cells #[.slice R l.length cl] 29 (0, 0))] := M'
  have ho : NewL Arrow.cells 60 4 BB w9 v (waiveL (relTo l p a) ps) := ho'
  have hs : BB ≤ w9.heap.size := hs'
  have hH : HL Prof.cells w9 P p cp := hH'
  clear ha' M' ho' hs' hH'
  refine brE_dec (fun hlt => ?_) (fun hge => ?_)
  · have hlta : a < p.length := by have : (a : Int) < (gs.length : Nat) := hlt; omega
    have next : IntKind.i64.wrap ((a : Int) + 1) = ((a + 1 : Nat) : Int) := fit ⟨by omega, by omega⟩
    refine loopE C_ok (fun (t : Nat × Value) => [(3, .slice B gs.length d), (4, .slice Q ps.length e), (6, .pointer (some ⟨g6, 0, none⟩)), (10, .pointer (some ⟨g10, 0, none⟩)), (15, .slice P p.length cp), (17, .pointer (some ⟨g17, 0, none⟩)), (18, .int .i64 (a : Nat)), (19, .int .i64 (t.1 : Nat))])
      (fun t w' => t.1 ≤ p.length ∧ Mem w w' [(g17, .cells #[.int .i64 (gs.length : Nat), t.2] 49 (0, 0)), (g10, .cells #[.int .i64 0, .slice none 0 0] 49 (0, 0)), (g7, .cells s.cells.toArray 24 (0, 0)), (g6, .cells #[.slice R l.length cl] 29 (0, 0))] ∧ NewL Arrow.cells 60 4 BB w' t.2 (waiveL (relTo l p a ++ rwR l p a t.1) ps) ∧ BB ≤ w'.heap.size ∧ HL Prof.cells w' P p cp)
      (fun t => p.length - t.1) (0, v) ⟨rfl, rfl, rfl, rfl, rfl, rfl, rfl, rfl, trivial⟩ ⟨Nat.zero_le _, M, by show NewL _ _ _ _ _ _ (waiveL (relTo l p a ++ rwR l p a 0) ps); rw [show rwR l p a 0 = [] from rfl, List.append_nil]; exact ho, hs, hH⟩ ?_
    clear M ho hs hH
    rintro ⟨b, u⟩ w10 ⟨hb', M', ho', hs', hH'⟩
    have hb : b ≤ p.length := hb'
    have M : Mem w w10 [(g17, .cells #[.int .i64 (gs.length : Nat), u] 49 (0, 0)), (g10, .cells #[.int .i64 0, .slice none 0 0] 49 (0, 0)), (g7, .cells s.cells.toArray 24 (0, 0)), (g6, .cells #[.slice R l.length cl] 29 (0, 0))] := M'
    have ho : NewL Arrow.cells 60 4 BB w10 u (waiveL (relTo l p a ++ rwR l p a b) ps) := ho'
    have hs : BB ≤ w10.heap.size := hs'
    have hH : HL Prof.cells w10 P p cp := hH'
    clear hb' M' ho' hs' hH'
    refine brE_dec (fun hlt2 => ?_) (fun hge2 => ?_)
    · have hltb : b < p.length := by have : (b : Int) < (gs.length : Nat) := hlt2; omega
      have nextb : IntKind.i64.wrap ((b : Int) + 1) = ((b + 1 : Nat) : Int) := fit ⟨by omega, by omega⟩
      have step : p.length - (b + 1) < p.length - b := by omega
      have hsucc := rwR_succ l p a b
      refine brE_dec (fun hab => ?_) (fun hab => ?_)
      · have hab : a = b := by have : ((a : Nat) : Int) = (b : Nat) := hab; omega
        rw [if_pos hab, List.append_nil] at hsucc
        refine ⟨_, nextb, ?_⟩
        exact ⟨(b + 1, u), ⟨rfl, rfl, rfl, rfl, rfl, rfl, rfl, rfl, trivial⟩, ⟨hltb, M, by show NewL _ _ _ _ _ _ (waiveL (relTo l p a ++ rwR l p a (b + 1)) ps); rw [hsucc]; exact ho, hs, hH⟩, step⟩
      have hab : ¬ a = b := by have : ¬ ((a : Nat) : Int) = (b : Nat) := hab; omega
      rw [if_neg hab] at hsucc
      have hW : waiveL (relTo l p a ++ rwR l p a (b + 1)) ps = waiveL (relTo l p a ++ rwR l p a b) ps ++ (if (((a : Nat) : Int), ((b : Nat) : Int)) ∈ ps then [] else arrF l p a b) := by
        rw [hsucc, ← List.append_assoc, waiveL_append, waiveL_arr]
      refine (Has_spec (hrp.ext M.ext) (by omega) _ _).mono ?_
      rintro v11 w11 ⟨rfl, rfl⟩
      refine brE_dec (fun hin => ?_) (fun hin => ?_)
      · have hin : (((a : Nat) : Int), ((b : Nat) : Int)) ∈ ps := hin
        rw [if_pos hin, List.append_nil] at hW
        refine ⟨_, nextb, ?_⟩
        exact ⟨(b + 1, u), ⟨rfl, rfl, rfl, rfl, rfl, rfl, rfl, rfl, trivial⟩, ⟨hltb, M, by show NewL _ _ _ _ _ _ (waiveL (relTo l p a ++ rwR l p a (b + 1)) ps); rw [hW]; exact ho, hs, hH⟩, step⟩
      have hin : ¬ (((a : Nat) : Int), ((b : Nat) : Int)) ∈ ps := hin
      rw [if_neg hin] at hW
      obtain ⟨x, hx⟩ : ∃ x, x = p[a] := ⟨_, rfl⟩
      obtain ⟨y, hy⟩ : ∃ y, y = p[b] := ⟨_, rfl⟩
      have gx : p.getD a default = x := by rw [List.getD_eq_getElem?_getD, List.getElem?_eq_getElem hlta, hx]; rfl
      have gy : p.getD b default = y := by rw [List.getD_eq_getElem?_getD, List.getElem?_eq_getElem hltb, hy]; rfl
      obtain ⟨b1, o1, hA1, hc1⟩ := hH.at (k := 7) (fun _ => rfl) (by omega) hlta
      obtain ⟨b2, o2, hA2, hc2⟩ := hH.at (k := 7) (fun _ => rfl) (by omega) hltb
      rw [← hx] at hc1
      rw [← hy] at hc2
      obtain ⟨r, hrr⟩ : ∃ r, r = ruledI l x y := ⟨_, rfl⟩
      have fa : arrF l p a b = if r ≥ 0 then [⟨(a : Nat), (b : Nat), r, wtOf l r⟩] else [] := by unfold arrF; rw [gx, gy, ← hrr]
      have l1 := ruledI_lt l x y
      rw [← hrr] at l1
      refine ⟨[.slice R l.length cl], rfl, M.rd 3 rfl, ?_⟩
      refine ⟨a, b1, o1, rfl, hlta, hA1, ?_⟩
      refine ⟨x.cells, rfl, hc1, ?_⟩
      refine ⟨b, b2, o2, rfl, hltb, hA2, ?_⟩
      refine ⟨y.cells, rfl, hc2, ?_⟩
      have X := ruled_spec (hR.ext M.ext) x y
      rw [← hrr] at X
      refine X.mono ?_
      clear X
      rintro v12 w12 ⟨rfl, e12⟩
      have M := M.grow e12
      have ho := ho.ext e12
      have hH := hH.ext e12
      refine brE_dec (fun hr0 => ?_) (fun hr0 => ?_)
      · have hr0 : r ≥ 0 := hr0
        obtain ⟨n, hn⟩ := Int.eq_ofNat_of_zero_le hr0
        have hnl : n < l.length := by omega
        have fa2 : arrF l p a b = [⟨(a : Nat), (b : Nat), r, l[n].weight⟩] := by rw [fa, if_pos hr0, hn, wtOf_nat hnl]
        obtain ⟨bb, oo, hRR, hc8⟩ := (hR.ext M.ext).at hnl
        have n3 := relTo_le l p a
        have n4 := rwR_le l p a b
        have n5 : a * p.length ≤ 24 * 24 := Nat.mul_le_mul (by omega) (by omega)
        have n6 := waiveL_le (relTo l p a ++ rwR l p a b) ps
        rw [List.length_append] at n6
        obtain ⟨D, hD⟩ : ∃ D, D = waiveL (relTo l p a ++ rwR l p a b) ps := ⟨_, rfl⟩
        rw [← hD] at n6 hW ho
        refine ⟨_, M.cell 0 (i := 1) rfl rfl, ?_⟩
        refine ⟨_, M.cell 3 rfl rfl, ?_⟩
        refine ⟨n, bb, oo, hn, hnl, hRR, ?_⟩
        refine ⟨_, hc8 2 _ rfl, ?_⟩
        intro g13 w13 h13
        refine ⟨h13.ext, ?_⟩
        have M := M.grow h13.ext
        have ho := ho.ext h13.ext
        have hs13 : BB ≤ w13.heap.size := Nat.le_trans (Nat.le_trans hs e12.size) h13.ext.size
        refine ⟨rfl, rfl, rfl, BB, _, _, (Arrow.mk (a : Nat) (b : Nat) r l[n].weight).cells, ho, hs13, Nat.le_of_ble_eq_true rfl, rfl, rfl, .inr ⟨g13, 0, rfl, Rd.of_block h13.here⟩, rfl, rfl, by omega, by simp only [maxLen]; omega, ?_⟩
        intro v14 w14 ho14 hg14 hpl14
        obtain ⟨A8, n8, c8, e8⟩ : ∃ A8 n8 c8, v14 = .slice A8 n8 c8 := by
          obtain ⟨A8, c8, ee, _, _⟩ := reads_of_owns ho14
          exact ⟨_, _, _, ee⟩
        subst e8
        have M := keep M ho hg14
        refine ⟨rfl, _, _, M.get 0 rfl, Nat.le_of_ble_eq_true rfl, rfl, ?_⟩
        intro w15 h15
        have M15 := M.put 0 rfl h15
        refine ⟨_, nextb, ?_⟩
        have ho9 : NewL Arrow.cells 60 4 BB w14 (.slice A8 n8 c8) (D ++ arrF l p a b) := by
          rw [fa2]
          unfold NewL
          rw [List.length_append, List.flatMap_append]
          simpa using ho14
        refine ⟨(b + 1, _), ⟨rfl, rfl, rfl, rfl, rfl, rfl, rfl, rfl, trivial⟩, ⟨hltb, M15, ?_, ?_, ?_⟩, step⟩
        · show NewL _ _ _ _ _ _ (waiveL (relTo l p a ++ rwR l p a (b + 1)) ps)
          rw [hW]
          exact ownsRow_put ho9 h15 (fun e => by have := (ho9.lt g17 e).1; omega)
        · show BB ≤ w15.heap.size
          rw [h15.size]; exact Nat.le_trans hs13 hg14.size
        · refine ⟨?_, hH.len, hH.cap⟩
          have hlt := hPb (by omega)
          have r14 := reads_grown (fun b o hb e => by have h1 := hlt b o hb; have h2 := (ho.lt b e.symm).1; omega) (hH.reads.ext h13.ext) hg14
          exact reads_grown (row := some g17) (fun b o hb e => by have h1 := hlt b o hb; cases e; omega) r14 h15.grownBy
      · have hr0 : ¬ r ≥ 0 := hr0
        refine ⟨_, nextb, ?_⟩
        exact ⟨(b + 1, u), ⟨rfl, rfl, rfl, rfl, rfl, rfl, rfl, rfl, trivial⟩, ⟨hltb, M, by show NewL _ _ _ _ _ _ (waiveL (relTo l p a ++ rwR l p a (b + 1)) ps); rw [hW, fa, if_neg hr0, List.append_nil]; exact ho, Nat.le_trans hs e12.size, hH⟩, step⟩
    · have hbe : b = p.length := by have : ¬ (b : Int) < (gs.length : Nat) := hge2; omega
      refine ⟨_, next, ?_⟩
      refine ⟨(a + 1, u), ⟨rfl, rfl, rfl, rfl, rfl, rfl, rfl, trivial⟩, ⟨hlta, M, ?_, hs, hH⟩, by show p.length - (a + 1) < p.length - a; omega⟩
      show NewL _ _ _ _ _ _ (waiveL (relTo l p (a + 1)) ps)
      rw [relTo_succ]
      rw [hbe] at ho
      exact ho
  · have hae : a = p.length := by have : ¬ (a : Int) < (gs.length : Nat) := hge; omega
    rw [hae, relTo_all] at ho
    obtain ⟨A8, c8, rfl, _, _⟩ := reads_of_owns ho
    obtain ⟨D, hD⟩ : ∃ D, D = waiveL (relL l p) ps := ⟨_, rfl⟩
    rw [← hD] at ho M ⊢
    refine ⟨[.int .i64 (gs.length : Nat), .slice A8 D.length c8], rfl, M.rd 0 rfl, ?_⟩
    refine ⟨rfl, _, _, M.get 1 rfl, Nat.le_of_ble_eq_true rfl, rfl, ?_⟩
    intro w10 h10
    have M10 := M.put 1 rfl h10
    refine ⟨[.int .i64 (gs.length : Nat), .slice A8 D.length c8], rfl, M10.rd 1 rfl, ?_⟩
    refine ⟨⟨_, by rw [c2]; rfl, A8, c8, rfl, ?_⟩, M10.ext⟩
    exact ownsRow_base (ownsRow_put ho h10 (fun e => by have := (ho.lt g10 e).1; omega)) hwB
end Go.Proofs.YtdpdjcopkehdjaaGreat.Rk
namespace Go.Proofs.YtdpdjcopkehdjaaGreat.Rk
open Go.Eng Go.RowKit
set_option maxRecDepth 100000 in
set_option maxHeartbeats 4000000 in
theorem RankRelates_spec {w : World} {A R B Q : Option Addr} {f : List Fact} {l : List Rl} {c cl d e : Nat} {gs ps : List (Int × Int)} (hf : HF w A f c) (hR : HRs w R l cl) (s : Scn) (hr : Reads w B (prCells gs)) (hg : ∀ g ∈ gs, In64 g.1) (hrp : Reads w Q (prCells ps)) (hps : ∀ p ∈ ps, In64 p.1 ∧ In64 p.2) :
    CallsV C.P 5 #[.slice A f.length c, .agg #[.slice R l.length cl], s.val, .slice B gs.length d, .slice Q ps.length e] w fun v w' => v = .bool true ∧ Ext w w' := by
  have stop : ∀ {w' : World}, Ext w w' → CallsV C.P 11 #[] w' fun v w'' => v = .bool true ∧ Ext w w'' := fun e => (stands_spec _).mono fun v w'' hh => ⟨hh.1, e.trans hh.2⟩
  refine callsV_of C_ok (args := [_, _, _, _, _]) (plans := []) Tryz.func5 rfl Tryz.ntmps5 (by kernel_rfl) (Nat.le_of_ble_eq_true rfl) ?_
  intro g6 w1 h1
  have M : Mem w w1 [(g6, .cells #[.slice R l.length cl] 29 (0, 0))] := (Mem.start w).alloc h1
  intro g7 w2 h2
  have M : Mem w w2 [(g7, .cells s.cells.toArray 24 (0, 0)), (g6, .cells #[.slice R l.length cl] 29 (0, 0))] := M.alloc h2
  refine ⟨[.slice R l.length cl], rfl, M.rd 1 rfl, ?_⟩
  refine (fewR_spec (hf.ext M.ext)).mono ?_
  rintro v w3 ⟨⟨b, rfl, hb⟩, e3⟩
  have M := M.grow e3
  refine brE_mk (fun b0 => ?_) (fun b0 => ?_)
  · refine (stop M.ext).mono ?_
    rintro v w4 ⟨rfl, ee⟩
    exact ⟨rfl, ee⟩
  have hfew := hb (by simpa using b0)
  clear hb b0
  refine brE_dec (fun c0 => ?_) (fun c0 => ?_)
  · refine (stop M.ext).mono ?_
    rintro v w4 ⟨rfl, ee⟩
    exact ⟨rfl, ee⟩
  have c0 : ¬ ((ps.length : Nat) : Int) > 60 := c0
  have hl : f.length ≤ 2 ^ 20 := by have := hfew.1; omega
  have hgl := hfew.2.2
  have hpl : ps.length ≤ 2 ^ 44 := by omega
  refine ⟨[.slice R l.length cl], rfl, M.rd 1 rfl, ?_⟩
  refine ⟨s.cells, rfl, M.rd 0 rfl, ?_⟩
  refine (Relate_spec (hf.ext M.ext) hl (hR.ext M.ext) s (hr.ext M.ext) hg hps (hrp.ext M.ext) hpl).mono ?_
  rintro v w4 ⟨⟨u1, rfl, A1, c1, rfl, ho1⟩, e4⟩
  have M := M.grow e4
  obtain ⟨k, hk⟩ : ∃ k, k = chkR f (chkRl l) s gs := ⟨_, rfl⟩
  obtain ⟨N, hN⟩ : ∃ N : Int, N = (if k = 0 then ((gs.length : Nat) : Int) else 0) := ⟨_, rfl⟩
  obtain ⟨X, hX⟩ : ∃ X, X = (if k = 0 then waiveL (relL l (profsOf f s gs)) ps else []) := ⟨_, rfl⟩
  have hXl : X.length ≤ 2 ^ 20 := by
    rw [hX]
    split
    · rename_i h0
      have hgl := gchk_len (chkR_zero (hk.symm.trans h0)).2.2.2
      have := relL_len l (profsOf f s gs) (by unfold profsOf; rw [List.length_map]; omega)
      have := waiveL_le (relL l (profsOf f s gs)) ps
      omega
    · simp
  rw [← hk, ← hX] at ho1
  rw [← hk, ← hN, ← hX]
  intro g11 w5 h5
  have M5 := M.alloc h5
  refine ⟨rfl, _, _, M5.get 0 rfl, Nat.le_of_ble_eq_true rfl, rfl, ?_⟩
  intro w6 h6
  have M : Mem w w6 [(g11, .cells #[.int .i64 N, .slice A1 X.length c1] 49 (0, 0)), (g7, .cells s.cells.toArray 24 (0, 0)), (g6, .cells #[.slice R l.length cl] 29 (0, 0))] := M5.put 0 rfl h6
  have ho6 := ownsRow_ext ho1 (h6.ext_of h5.ext (by rw [h5.new]; exact Nat.le_refl _))
  clear M5 h5 h6
  refine ⟨[.slice R l.length cl], rfl, M.rd 2 rfl, ?_⟩
  refine ⟨s.cells, rfl, M.rd 1 rfl, ?_⟩
  refine (refRelate_spec (hf.ext M.ext) hl (hR.ext M.ext) s (hr.ext M.ext) hg (hrp.ext M.ext) hpl).mono ?_
  rintro v w7 ⟨⟨u2, rfl, A2, c2, rfl, ho2⟩, e7⟩
  have M := M.grow e7
  rw [← hk, ← hX] at ho2
  rw [← hk, ← hN, ← hX]
  have ho7 := ownsRow_ext ho6 e7
  intro g13 w8 h8
  have M8 := M.alloc h8
  refine ⟨rfl, _, _, M8.get 0 rfl, Nat.le_of_ble_eq_true rfl, rfl, ?_⟩
  intro w9 h9
  have e79 := h9.ext_of h8.ext (by rw [h8.new]; exact Nat.le_refl _)
  have M : Mem w w9 [(g13, .cells #[.int .i64 N, .slice A2 X.length c2] 49 (0, 0)), (g11, .cells #[.int .i64 N, .slice A1 X.length c1] 49 (0, 0)), (g7, .cells s.cells.toArray 24 (0, 0)), (g6, .cells #[.slice R l.length cl] 29 (0, 0))] := M8.put 0 rfl h9
  have ho9 := ownsRow_ext ho7 e79
  have hq9 := ownsRow_ext ho2 e79
  clear M8 h8 h9
  refine (stands_spec w9).mono ?_
  rintro v w10 ⟨rfl, e10⟩
  have M := M.grow e10
  refine brE_dec (fun _ => ?_) (fun hne => absurd rfl hne)
  refine ⟨[.int .i64 N, .slice A1 X.length c1], rfl, M.rd 1 rfl, ?_⟩
  refine ⟨[.int .i64 N, .slice A2 X.length c2], rfl, M.rd 0 rfl, ?_⟩
  obtain ⟨A1', c1', q1, hr1, _⟩ := reads_of_owns (ownsRow_ext ho9 e10)
  obtain ⟨A2', c2', q2, hr2, _⟩ := reads_of_owns (ownsRow_ext hq9 e10)
  cases q1
  cases q2
  refine (Same_spec hr1 hr2 (by omega)).mono ?_
  rintro v w11 ⟨rfl, e11⟩
  exact ⟨rfl, M.ext.trans e11⟩
end Go.Proofs.YtdpdjcopkehdjaaGreat.Rk
namespace Go.Proofs.YtdpdjcopkehdjaaGreat.Rk
open Go.Eng Go.RowKit Go.ChangeShapes Go.WideShapes Go.ChangeAt
theorem flat_range {α : Type} {enc : α → List Value} {k : Nat} (hk : ∀ x, (enc x).length = k) (k0 : 0 < k) (f : Nat → α) (n i : Nat) (v : Value) (h : (((List.range n).map f).flatMap enc)[i]? = some v) : ∃ q j, q < n ∧ j < k ∧ i = q * k + j ∧ (enc (f q))[j]? = some v := by
  have hl := flat_length hk ((List.range n).map f)
  have hi := (List.getElem?_eq_some_iff.1 h).1
  rw [hl] at hi
  simp at hi
  have hq : i / k < n := Nat.div_lt_of_lt_mul (by rw [Nat.mul_comm]; exact hi)
  have hq' : i / k < ((List.range n).map f).length := by simpa using hq
  have hj : i % k < k := Nat.mod_lt _ k0
  have e : i / k * k + i % k = i := Nat.div_add_mod' i k
  refine ⟨i / k, i % k, hq, hj, e.symm, ?_⟩
  have := flat_get hk ((List.range n).map f) (i / k) (i % k) hq' hj
  rw [e, h] at this
  rw [this]
  simp
section
variable {H : Type} {enc : TypeId × Value → H} {W : World}
set_option maxRecDepth 100000 in
theorem open_row {α : Type} [Inhabited α] {ec : α → List Value} {k TS T n : Nat} {Pn : α → Prop} (hk : ∀ x, (ec x).length = k) (k0 : 0 < k) (hfirst : ∀ (a : Addr) (y : α), W.cell? a = (ec y)[0]? → a.spot = none)
    (hu : Tryz.prog.underlying TS = some (.slice T)) (hcl : Tryz.prog.cellsOf T = k)
    (ho : ∀ {cs : List Value} {x : DataW H × List MemPlace}, DataW.trod enc Tryz.prog W 0 (fun _ => true) true n T cs = some x → ∃ y : α, cs = ec y ∧ Pn y)
    {cs : List Value} {x : DataW H × List MemPlace} (h : DataW.trod enc Tryz.prog W 0 (fun _ => true) true (n + 1) TS cs = some x) :
    ∃ A l c, cs = [.slice A l.length c] ∧ HL ec W A l c ∧ ∀ y ∈ l, Pn y := by
  rcases DataW.trod_slice hu h with ⟨e1, _⟩ | ⟨a, len, cap, elems, rest, n', hn, e1, _, hb, hl, hm, hlen, hel, hsp, hns⟩
  · exact ⟨none, [], 0, e1, ⟨.inl rfl, Nat.le_refl _, by simp⟩, by simp⟩
  · obtain rfl : n = n' := by omega
    rw [hcl] at hel
    obtain ⟨f, hf2⟩ := Deep.choose_lt (n := len) (p := fun i (y : α) => W.cells? 0 (a.add (i * k)) k = some (ec y) ∧ Pn y) (fun i hi => by
      have h1 := hel i hi
      rw [List.getElem?_eq_getElem (by omega)] at h1
      obtain ⟨cs', h2, h3⟩ := Option.bind_eq_some_iff.1 h1
      obtain ⟨y, rfl, hy⟩ := ho h3
      exact ⟨y, h2, hy⟩)
    have hll : ((List.range len).map f).length = len := by simp
    refine ⟨some a, (List.range len).map f, cap, by rw [hll]; exact e1, ⟨?_, by rw [hll]; exact hl, by rw [hll]; simp only [maxLen] at hm; omega⟩, ?_⟩
    · by_cases h0 : len = 0
      · subst h0; exact .inl rfl
      · have hc : ∀ i < len, ∀ j < k, W.cell? ((a.add (i * k)).add j) = (ec (f i))[j]? := fun i hi j hj => (World.cells?_some (hf2 i (by omega)).1).2.2 j hj
        have hs : a.spot = none := by
          have h1 := hc 0 (by omega) 0 k0
          have e0 : (a.add (0 * k)).add 0 = a := by
            rw [Nat.zero_mul]; rfl
          rw [e0] at h1
          exact hfirst a _ h1
        obtain ⟨b, o, sp⟩ := a
        simp only at hs
        subst hs
        refine .inr ⟨b, o, rfl, fun i v hv => ?_⟩
        obtain ⟨q, j, hq, hj, rfl, hg⟩ := flat_range hk k0 f len i v hv
        have := hc q hq j hj
        rw [hg] at this
        rw [← this]
        rw [add_spot, add_spot, Nat.add_assoc]
    · intro y hy
      obtain ⟨i, hi, rfl⟩ := List.mem_map.1 hy
      exact (hf2 i (by have := List.mem_range.1 hi; omega)).2
theorem cellsT : Tryz.prog.cellsOf 70 = 5 := by kernel_rfl
theorem cellsTs : Tryz.prog.cellsOf 68 = 1 := by kernel_rfl
theorem cellsRl : Tryz.prog.cellsOf 72 = 8 := by kernel_rfl
theorem cellsRls : Tryz.prog.cellsOf 27 = 1 := by kernel_rfl
theorem cellsRs : Tryz.prog.cellsOf 29 = 1 := by kernel_rfl
theorem recRs : Tryz.prog.readableRec 29 = true := by kernel_rfl
theorem rowRs : (29 : TypeId) < Tryz.prog.types.size := of_decide_eq_true (by kernel_rfl)
theorem underTs : Tryz.prog.underlying 68 = some (.slice 70) := by kernel_rfl
theorem underRls : Tryz.prog.underlying 27 = some (.slice 72) := by kernel_rfl
theorem underT : Tryz.prog.underlying 70 = some (.struct #[⟨ "Op", 5, 0, false, "", "", 0⟩, ⟨ "Attr", 5, 1, false, "", "", 1⟩, ⟨ "Side", 5, 2, false, "", "", 2⟩, ⟨ "N", 3, 3, false, "", "", 8⟩, ⟨ "Of", 68, 4, false, "", "", 16⟩]) := by kernel_rfl
theorem underRl : Tryz.prog.underlying 72 = some (.struct #[⟨ "Name", 9, 0, false, "", "", 0⟩, ⟨ "Rank", 3, 1, false, "", "", 16⟩, ⟨ "Weight", 3, 2, false, "", "", 24⟩, ⟨ "If", 70, 3, false, "", "", 32⟩]) := by kernel_rfl
theorem underRs : Tryz.prog.underlying 29 = some (.struct #[⟨ "List", 27, 0, false, "", "", 0⟩]) := by kernel_rfl
theorem list5' {l : List Value} (h : l.length = 5) : ∃ a b c d e, l = [a, b, c, d, e] := by
  match l, h with
  | [a, b, c, d, e], _ => exact ⟨a, b, c, d, e, rfl⟩
set_option maxRecDepth 100000 in
theorem open_test (fuel : Nat) : ∀ {cs : List Value} {x : DataW H × List MemPlace}, DataW.trod enc Tryz.prog W 0 (fun _ => true) true fuel 70 cs = some x → ∃ t : Tst, cs = t.cells ∧ TestIs W t := by
  induction fuel using Nat.strongRecOn with
  | _ fuel ih =>
  intro cs x h
  obtain ⟨xs, n, hfu, _, hlen, hxs, hg⟩ := DataW.trod_struct underT h
  rw [cellsT] at hlen
  obtain ⟨a0, a1, a2, a3, a4, rfl⟩ := list5' hlen
  have some5 : ∀ i, i < 5 → ∃ y, xs[i]? = some y := fun i hi => ⟨_, List.getElem?_eq_getElem (by rw [hxs]; exact hi)⟩
  obtain ⟨y0, hy0⟩ := some5 0 (by omega)
  obtain ⟨y1, hy1⟩ := some5 1 (by omega)
  obtain ⟨y2, hy2⟩ := some5 2 (by omega)
  obtain ⟨y3, hy3⟩ := some5 3 (by omega)
  obtain ⟨y4, hy4⟩ := some5 4 (by omega)
  have f0 : DataW.trod enc Tryz.prog W 0 (fun _ => true) true n 5 (([a0, a1, a2, a3, a4].drop 0).take (Tryz.prog.cellsOf 5)) = xs[0]? := hg 0 _ rfl
  have f1 : DataW.trod enc Tryz.prog W 0 (fun _ => true) true n 5 (([a0, a1, a2, a3, a4].drop 1).take (Tryz.prog.cellsOf 5)) = xs[1]? := hg 1 _ rfl
  have f2 : DataW.trod enc Tryz.prog W 0 (fun _ => true) true n 5 (([a0, a1, a2, a3, a4].drop 2).take (Tryz.prog.cellsOf 5)) = xs[2]? := hg 2 _ rfl
  have f3 : DataW.trod enc Tryz.prog W 0 (fun _ => true) true n 3 (([a0, a1, a2, a3, a4].drop 3).take (Tryz.prog.cellsOf 3)) = xs[3]? := hg 3 _ rfl
  have f4 : DataW.trod enc Tryz.prog W 0 (fun _ => true) true n 68 (([a0, a1, a2, a3, a4].drop 4).take (Tryz.prog.cellsOf 68)) = xs[4]? := hg 4 _ rfl
  rw [cells5, hy0] at f0
  rw [cells5, hy1] at f1
  rw [cells5, hy2] at f2
  rw [cells3, hy3] at f3
  rw [cellsTs, hy4] at f4
  obtain ⟨z0, q0, _, w0⟩ := DataW.trod_int under5 f0
  obtain ⟨z1, q1, _, w1⟩ := DataW.trod_int under5 f1
  obtain ⟨z2, q2, _, w2⟩ := DataW.trod_int under5 f2
  obtain ⟨z3, q3, _, w3⟩ := DataW.trod_int under3 f3
  have hn : ∃ m, n = m + 1 := by
    cases n with
    | zero => simp [DataW.trod] at f4
    | succ m => exact ⟨m, rfl⟩
  obtain ⟨m, rfl⟩ := hn
  obtain ⟨A, l, c, q4, hHL, hkids⟩ := open_row (ec := Tst.cells) (k := 5) (n := m) (Pn := TestIs W) Tst.len (by omega) (fun a y h2 => by
    have h2 : W.cell? a = some (.int .u8 y.op) := h2
    unfold World.cell? at h2
    cases hsp : a.spot with
    | none => rfl
    | some s =>
      simp only [hsp] at h2
      split at h2 <;> simp at h2) underTs cellsT (fun hh => ih m (by omega) hh) f4
  simp at q0 q1 q2 q3 q4
  subst q0 q1 q2 q3 q4
  exact ⟨.mk z0 z1 z2 z3 A c l, rfl, .mk ⟨wf_u8 w0, wf_u8 w1, wf_u8 w2, wf_in64 w3⟩ hHL.reads hHL.len hHL.cap hkids⟩
set_option maxRecDepth 100000 in
theorem open_rule {fuel : Nat} {cs : List Value} {x : DataW H × List MemPlace} (h : DataW.trod enc Tryz.prog W 0 (fun _ => true) true fuel 72 cs = some x) : ∃ t : Rl, cs = t.cells ∧ RuleIs W t := by
  obtain ⟨xs, n, _, _, hlen, hxs, hg⟩ := DataW.trod_struct underRl h
  rw [cellsRl] at hlen
  have some4 : ∀ i, i < 4 → ∃ y, xs[i]? = some y := fun i hi => ⟨_, List.getElem?_eq_getElem (by rw [hxs]; exact hi)⟩
  obtain ⟨y0, hy0⟩ := some4 0 (by omega)
  obtain ⟨y1, hy1⟩ := some4 1 (by omega)
  obtain ⟨y2, hy2⟩ := some4 2 (by omega)
  obtain ⟨y3, hy3⟩ := some4 3 (by omega)
  have f0 : DataW.trod enc Tryz.prog W 0 (fun _ => true) true n 9 ((cs.drop 0).take (Tryz.prog.cellsOf 9)) = xs[0]? := hg 0 _ rfl
  have f1 : DataW.trod enc Tryz.prog W 0 (fun _ => true) true n 3 ((cs.drop 1).take (Tryz.prog.cellsOf 3)) = xs[1]? := hg 1 _ rfl
  have f2 : DataW.trod enc Tryz.prog W 0 (fun _ => true) true n 3 ((cs.drop 2).take (Tryz.prog.cellsOf 3)) = xs[2]? := hg 2 _ rfl
  have f3 : DataW.trod enc Tryz.prog W 0 (fun _ => true) true n 70 ((cs.drop 3).take (Tryz.prog.cellsOf 70)) = xs[3]? := hg 3 _ rfl
  rw [cells9, hy0] at f0
  rw [cells3, hy1] at f1
  rw [cells3, hy2] at f2
  rw [cellsT, hy3] at f3
  obtain ⟨s0, q0, _, w0⟩ := DataW.trod_string under9 f0
  obtain ⟨z1, q1, _, w1⟩ := DataW.trod_int under3 f1
  obtain ⟨z2, q2, _, w2⟩ := DataW.trod_int under3 f2
  obtain ⟨t, q3, ht⟩ := open_test n f3
  refine ⟨⟨s0, z1, z2, t⟩, ?_, ⟨by simpa [maxLen] using w0, wf_in64 w1, wf_in64 w2, ht⟩⟩
  match cs, hlen, q0, q1, q2, q3 with
  | [a0, a1, a2, a3, a4, a5, a6, a7], _, q0, q1, q2, q3 =>
    simp at q0 q1 q2 q3
    subst q0 q1 q2
    show _ = _ :: _ :: _ :: t.cells
    rw [← q3]
set_option maxRecDepth 100000 in
theorem open_rules {v : Value} {d : DataW H} {p : List MemPlace} {b0 : Nat} (hv : Value.okWide Tryz.prog W .any b0 29 v) (h : DataW.Trod enc Tryz.prog W 0 (fun _ => true) true 29 v d p) :
    ∃ R l c, v = .agg #[.slice R l.length c] ∧ HRs W R l c := by
  obtain ⟨cs, rfl, hsz⟩ := okWide_struct underRs hv
  obtain ⟨fuel, hf⟩ := h
  obtain ⟨xs, n, _, _, hlen, hxs, hg⟩ := DataW.trod_struct underRs hf
  obtain ⟨y0, hy0⟩ : ∃ y, xs[0]? = some y := ⟨_, List.getElem?_eq_getElem (by rw [hxs]; exact Nat.zero_lt_one)⟩
  have f0 : DataW.trod enc Tryz.prog W 0 (fun _ => true) true n 27 (((Value.agg cs).cells.toList.drop 0).take (Tryz.prog.cellsOf 27)) = xs[0]? := hg 0 _ rfl
  rw [cellsRls, hy0] at f0
  have hn : ∃ m, n = m + 1 := by
    cases n with
    | zero => simp [DataW.trod] at f0
    | succ m => exact ⟨m, rfl⟩
  obtain ⟨m, rfl⟩ := hn
  obtain ⟨R, l, c, q, hHL, hk⟩ := open_row (ec := Rl.cells) (k := 8) (n := m) (Pn := RuleIs W) Rl.len (by omega) (fun a y h2 => by
    have h2 : W.cell? a = some (.string y.name) := h2
    unfold World.cell? at h2
    cases hsp : a.spot with
    | none => rfl
    | some s =>
      simp only [hsp] at h2
      split at h2 <;> simp at h2) underRls cellsRl (fun hh => open_rule hh) f0
  refine ⟨R, l, c, ?_, hHL, hk⟩
  have hl1 : cs.toList.length = 1 := by simpa [cellsRs] using hsz
  congr 1
  apply Array.ext'
  have : (Value.agg cs).cells.toList = cs.toList := rfl
  rw [this] at q
  rw [List.drop_zero, List.take_of_length_le (by omega)] at q
  exact q
end
section
variable {H : Type} {enc : TypeId × Value → H} {P : Program} {w : World} {base : Nat} {spare : Nat → Bool} {held : Bool}
theorem trodAll_n5 {t0 t1 t2 t3 t4 : TypeId} {args : Array Value} {ds : List (DataW H)} {ps : List MemPlace} (h : DataW.TrodAll enc P w base spare held [t0, t1, t2, t3, t4] args.toList ds ps) :
    ∃ v0 v1 v2 v3 v4 d0 d1 d2 d3 d4 p0 p1 p2 p3 p4, args = #[v0, v1, v2, v3, v4] ∧ ds = [d0, d1, d2, d3, d4] ∧ ps = p0 ++ (p1 ++ (p2 ++ (p3 ++ (p4)))) ∧ DataW.Trod enc P w base spare held t0 v0 d0 p0 ∧ DataW.Trod enc P w base spare held t1 v1 d1 p1 ∧ DataW.Trod enc P w base spare held t2 v2 d2 p2 ∧ DataW.Trod enc P w base spare held t3 v3 d3 p3 ∧ DataW.Trod enc P w base spare held t4 v4 d4 p4 := by
  obtain ⟨v0, vs0, d0, ds0, p0, q0, hargs, rfl, rfl, h0, r0⟩ := trodAll_cons h
  obtain ⟨v1, vs1, d1, ds1, p1, q1, rfl, rfl, rfl, h1, r1⟩ := trodAll_cons r0
  obtain ⟨v2, vs2, d2, ds2, p2, q2, rfl, rfl, rfl, h2, r2⟩ := trodAll_cons r1
  obtain ⟨v3, vs3, d3, ds3, p3, q3, rfl, rfl, rfl, h3, r3⟩ := trodAll_cons r2
  obtain ⟨v4, vs4, d4, ds4, p4, q4, rfl, rfl, rfl, h4, r4⟩ := trodAll_cons r3
  obtain ⟨rfl, rfl, rfl⟩ := trodAll_nil r4
  exact ⟨v0, v1, v2, v3, v4, d0, d1, d2, d3, d4, p0, p1, p2, p3, p4, by cases args; simp_all, rfl, by simp, h0, h1, h2, h3, h4⟩
theorem trodAll_mkn5 {t0 t1 t2 t3 t4 : TypeId} {v0 v1 v2 v3 v4 : Value} {d0 d1 d2 d3 d4 : DataW H} {p0 p1 p2 p3 p4 : List MemPlace} (h0 : DataW.Trod enc P w base spare held t0 v0 d0 p0) (h1 : DataW.Trod enc P w base spare held t1 v1 d1 p1) (h2 : DataW.Trod enc P w base spare held t2 v2 d2 p2) (h3 : DataW.Trod enc P w base spare held t3 v3 d3 p3) (h4 : DataW.Trod enc P w base spare held t4 v4 d4 p4) :
    DataW.TrodAll enc P w base spare held [t0, t1, t2, t3, t4] [v0, v1, v2, v3, v4] [d0, d1, d2, d3, d4] (p0 ++ (p1 ++ (p2 ++ (p3 ++ (p4))))) := ⟨p0, _, h0, trodAll_mk4 h1 h2 h3 h4, rfl⟩
end
end Go.Proofs.YtdpdjcopkehdjaaGreat.Rk
