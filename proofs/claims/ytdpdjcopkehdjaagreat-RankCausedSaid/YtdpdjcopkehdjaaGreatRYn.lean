/- a part of the proof: steps, walks and plain laws that the law below stands on; no condition. -/
import Derived.Test.YtdpdjcopkehdjaaGreatRYa
import Derived.Test.YtdpdjcopkehdjaaGreatRYb
import Derived.Test.YtdpdjcopkehdjaaGreatRYc
import Derived.Test.YtdpdjcopkehdjaaGreatRYd
import Derived.Test.YtdpdjcopkehdjaaGreatRYe
import Derived.Test.YtdpdjcopkehdjaaGreatRYf
import Derived.Test.YtdpdjcopkehdjaaGreatRYg
import Derived.Test.YtdpdjcopkehdjaaGreatRYh
import Derived.Test.YtdpdjcopkehdjaaGreatRYi
import Derived.Test.YtdpdjcopkehdjaaGreatRYj
import Derived.Test.YtdpdjcopkehdjaaGreatRYk
import Derived.Test.YtdpdjcopkehdjaaGreatRYl
import Derived.Test.YtdpdjcopkehdjaaGreatRYm
import Derived.Shelf.Strings.OnBuilder
import Derived.Shelf.Strconv.AtoiAll
import Derived.Shelf.Strconv.Itoa3
import Derived.Shelf.Strings.Search2
import Derived.KernelRfl
import Derived.Test.YtdpdjcopkehdjaaGreatProg
import Derived.WideLaws
import Derived.Maps.RangeRun
import Derived.Carry
set_option linter.unusedVariables false
set_option linter.unusedSimpArgs false
set_option linter.unnecessarySimpa false
set_option linter.unusedSectionVars false
namespace Go.Proofs.YtdpdjcopkehdjaaGreat.Rk
open Go.Eng Go.RowKit
theorem cause_row {w : World} {v : Value} {B : Nat} {s : List Cause} (h : NewL Cause.cells 83 19 B w v s) : ∃ A n c, v = .slice A n c := by
  obtain ⟨A, c, e, _, _⟩ := reads_of_owns h
  exact ⟨A, _, c, e⟩
set_option maxRecDepth 100000 in
set_option maxHeartbeats 16000000 in
theorem Causes_spec {w : World} {A R B Q : Option Addr} {f : List Fact} {l : List Rl} {c cl d e : Nat} {gs ps : List (Int × Int)} (hf : HF w A f c) (hl : f.length ≤ 2 ^ 20) (hR : HRs w R l cl) (s : Scn) (hr : Reads w B (prCells gs)) (hg : ∀ g ∈ gs, In64 g.1) (hgcap : gs.length ≤ 2 ^ 40) (hps : ∀ p ∈ ps, In64 p.1 ∧ In64 p.2) (hrp : Reads w Q (prCells ps)) (hpl : ps.length ≤ 2 ^ 44) (a b : Int) :
    CallsV C.P 25 #[.slice A f.length c, .agg #[.slice R l.length cl], s.val, .slice B gs.length d, .slice Q ps.length e, .int .i64 a, .int .i64 b] w fun v w' =>
      (∃ u, v = .tuple #[u, .int .i64 (causesE (chkR f (chkRl l) s gs) gs.length a b)] ∧ NewL Cause.cells 83 19 w.heap.size w' u (if causesE (chkR f (chkRl l) s gs) gs.length a b = 0 then causesL l (profsOf f s gs) ps a.toNat b.toNat else [])) ∧ Ext w w' := by
  obtain ⟨k, hk⟩ : ∃ k, k = chkR f (chkRl l) s gs := ⟨_, rfl⟩
  obtain ⟨E, hE⟩ : ∃ E, E = causesE k gs.length a b := ⟨_, rfl⟩
  obtain ⟨L, hL⟩ : ∃ L, L = (if E = 0 then causesL l (profsOf f s gs) ps a.toNat b.toNat else []) := ⟨_, rfl⟩
  rw [← hk, ← hE, ← hL]
  have hE' : E = if k ≠ 0 then k else if (0 ≤ a ∧ a ≤ ((gs.length : Nat) : Int) - 1) ∧ (0 ≤ b ∧ b ≤ ((gs.length : Nat) : Int) - 1) then 0 else 1 := hE
  refine callsV_ofR (args := [_, _, _, _, _, _, _]) Tryz.func25 rfl Tryz.ntmps25 (Nat.le_of_ble_eq_true rfl) ?_
  refine SndR.go C_ok [] (by kernel_rfl) ?_
  intro g8 w1 h1
  have M : Mem w w1 [(g8, .cells #[.slice R l.length cl] 29 (0, 0))] := (Mem.start w).alloc h1
  intro g9 w2 h2
  have M : Mem w w2 [(g9, .cells s.cells.toArray 24 (0, 0)), (g8, .cells #[.slice R l.length cl] 29 (0, 0))] := M.alloc h2
  clear h1 h2
  refine ⟨SndR.go C_ok [] (by kernel_rfl) ?_⟩
  refine ⟨s.cells, rfl, M.rd 0 rfl, ?_⟩
  have X := check_spec (p := some ⟨g8, 0, none⟩) (re := chkRl l) (c := c) (d := d) (hf.ext M.ext) hl s (hr.ext M.ext) (fun w' g5 e5 h5 => someRules ((hR.ext M.ext).ext e5) (e5.heap (M.get 1 rfl)) h5)
  rw [← hk] at X
  refine X.mono ?_
  clear X
  rintro v w4 ⟨rfl, e4⟩
  have M := M.grow e4
  have stop : ∀ (K' : Int) (w' : World), K' = E → E ≠ 0 → Ext w w' → (∃ u, (Value.tuple #[.slice none 0 0, .int .i64 K']) = .tuple #[u, .int .i64 E] ∧ NewL Cause.cells 83 19 w.heap.size w' u L) ∧ Ext w w' := by
    intro K' w' h1 h2 h3
    refine ⟨⟨_, by rw [h1], ?_⟩, h3⟩
    rw [hL, if_neg h2]
    exact newL_nil
  refine brE_ndec (fun c0 => ?_) (fun c0 => ?_)
  · have c0 : k ≠ 0 := c0
    rw [if_pos c0] at hE'
    exact stop k w4 hE'.symm (by rw [hE']; exact c0) M.ext
  have c0 : k = 0 := c0
  rw [if_neg (fun h => h c0)] at hE'
  obtain ⟨hcf, hz, _, hgz⟩ := chkR_zero (hk.symm.trans c0)
  have hgl := gchk_len hgz
  obtain ⟨n, hn⟩ : ∃ n, n = gs.length := ⟨_, rfl⟩
  refine ⟨SndR.go C_ok [] (by kernel_rfl) ?_⟩
  obtain ⟨hi, hhi⟩ : ∃ hi : Int, hi = ((gs.length : Nat) : Int) - 1 := ⟨_, rfl⟩
  have hsub : IntKind.i64.wrap (((gs.length : Nat) : Int) - 1) = hi := by rw [hhi]; exact fit ⟨by omega, by omega⟩
  rw [← hhi] at hE'
  refine ⟨_, hsub, ?_⟩
  refine (in_spec a 0 hi _).mono ?_
  rintro v w5 ⟨rfl, rfl⟩
  refine brE_ndec (fun c1 => ?_) (fun c1 => ?_)
  · rw [if_neg (fun h => c1 h.1)] at hE'
    exact stop 1 _ hE'.symm (by rw [hE']; decide) M.ext
  refine ⟨_, hsub, ?_⟩
  refine (in_spec b 0 hi _).mono ?_
  rintro v w6 ⟨rfl, rfl⟩
  refine brE_ndec (fun c2 => ?_) (fun c2 => ?_)
  · rw [if_neg (fun h => c2 h.2)] at hE'
    exact stop 1 _ hE'.symm (by rw [hE']; decide) M.ext
  have c1 : 0 ≤ a ∧ a ≤ hi := c1
  have c2 : 0 ≤ b ∧ b ≤ hi := c2
  rw [if_pos ⟨c1, c2⟩] at hE'
  rw [if_pos hE'] at hL
  obtain ⟨i, rfl⟩ := Int.eq_ofNat_of_zero_le c1.1
  obtain ⟨j, rfl⟩ := Int.eq_ofNat_of_zero_le c2.1
  simp only [Int.toNat_natCast] at hL
  obtain ⟨p, hpe⟩ : ∃ p, p = profsOf f s gs := ⟨_, rfl⟩
  have hpn : p.length = gs.length := by rw [hpe]; exact List.length_map _
  rw [← hpe] at hL
  have hip : i < p.length := by omega
  have hjp : j < p.length := by omega
  refine ⟨SndR.go C_ok [] (by kernel_rfl) ?_⟩
  intro g17 w7 h7
  have M : Mem w w7 [(g17, .cells #[.slice none 0 0] 73 (0, 0)), (g9, .cells s.cells.toArray 24 (0, 0)), (g8, .cells #[.slice R l.length cl] 29 (0, 0))] := M.alloc h7
  have hg17 : g17 < w7.heap.size := by rw [h7.size, h7.new]; exact Nat.lt_succ_self _
  have hg17w : w.heap.size ≤ g17 := M.new 0 rfl
  clear h7
  refine ⟨SndR.go2 C_ok [] (by kernel_rfl) ?_⟩
  refine ⟨[.slice R l.length cl], rfl, M.rd 2 rfl, ?_⟩
  refine ⟨s.cells, rfl, M.rd 1 rfl, ?_⟩
  have X := causes_spec (c := c) (d := d) (e := e) (hf.ext M.ext) hl (hR.ext M.ext) hz s (hr.ext M.ext) hg (by omega) hps (hrp.ext M.ext) hpl (i : Nat) (j : Nat)
  rw [← hpe] at X
  obtain ⟨N, hN⟩ : ∃ N : Int, N = ((p.length : Nat) : Int) := ⟨_, rfl⟩
  obtain ⟨Y, hY⟩ : ∃ Y, Y = relL l p := ⟨_, rfl⟩
  obtain ⟨Xr, hX⟩ : ∃ Xr, Xr = waiveL Y ps := ⟨_, rfl⟩
  rw [← hN, ← hY, ← hX] at X
  refine X.mono ?_
  clear X
  rintro v w9 ⟨⟨kb, rfl, F9⟩, e9⟩
  have hrel : CRel l p ps N Xr Y := ⟨by omega, hz, hN, by rw [hX, hY], hY, fun x hx => (hR.each x hx).weight⟩
  have hg17' : g17 < w9.heap.size := Nat.lt_of_lt_of_le hg17 e9.size
  have M := M.grow e9
  obtain ⟨D, hD⟩ : ∃ D : Nat → Prop, D = fun q => q ≠ g17 ∧ q < w9.heap.size := ⟨_, rfl⟩
  have hDl : ∀ q, w7.heap.size ≤ q → q < w9.heap.size → D q := fun q h1 h2 => by rw [hD]; exact ⟨by omega, h2⟩
  have hDw : ∀ q, q < w.heap.size → D q := fun q hq => by rw [hD]; exact ⟨by omega, Nat.lt_of_lt_of_le hq M.ext.size⟩
  refine ⟨SndR2.range C_ok (by kernel_rfl) (by kernel_rfl) (by kernel_rfl) (by kernel_rfl) (by kernel_rfl) (by kernel_rfl) (Nat.lt_of_lt_of_le (Nat.lt_succ_self 48) (Nat.le_of_ble_eq_true rfl)) (gf := 117) (cap := kb.caps.toArray) rfl rfl Cause.val
    (fun L' W => Keep D w9 W ∧ ∃ u, W.heap[g17]? = some (.cells #[u] 73 (0, 0)) ∧ NewL Cause.cells 83 19 w9.heap.size W u L') KeepInts 64 (xs := L)
    ⟨Keep.refl _ _, _, M.get 0 rfl, newL_nil⟩ ?_ ?_ ?_ ?_ ?_ ?_⟩
  · rintro s' W W' ⟨hk', u, hu, hn'⟩ ee
    exact ⟨hk'.ext ee, u, ee.heap hu, hn'.ext ee⟩
  · rintro s' W W' q o r hq hlp ⟨hk', u, hu, hn'⟩ hput
    refine ⟨hk'.put hput (by rw [hD]; rintro ⟨_, h⟩; omega), u, ?_, ownsRow_other hn' hput (fun c t fr hh => by rw [hlp] at hh; cases hh)⟩
    rw [hput.there g17 (by omega)]; exact hu
  · intro W W' W'' q o r hKW hlp hput q' c' fr hq'
    have h1 := hKW q' c' fr hq'
    rw [hput.there q' (fun ee => by subst ee; rw [hlp] at h1; cases h1)]
    exact h1
  · rintro lp db hlp hdb hne s' x W ⟨hk', u, hu, hn'⟩ hlen ⟨rr, hrr⟩ hdd
    obtain ⟨A0, n0, c0', rfl⟩ := cause_row hn'
    have hWs := hk'.size
    intro g18 W1 H1
    refine ⟨rfl, _, _, H1.here, Nat.le_of_ble_eq_true rfl, rfl, ?_⟩
    intro W2 H2
    have H2 : Put W1 g18 (.cells x.cells.toArray 83 (0, 0)) W2 := H2
    have E2 : Ext W W2 := H2.ext_of H1.ext (by rw [H1.new]; exact Nat.le_refl _)
    have hg18 : g18 = W.heap.size := H1.new
    refine ⟨⟨by rw [E2.heap hrr, hrr], by rw [E2.heap hdd, hdd]⟩, ⟨fun o W3 H3 => ?_⟩⟩
    have hlpW : lp < W.heap.size := lt_of_heap hrr
    have hdbW : db < W.heap.size := lt_of_heap hdd
    have hu3 : W3.heap[g17]? = some (.cells #[.slice A0 n0 c0'] 73 (0, 0)) := by rw [H3.there g17 (by omega)]; exact E2.heap hu
    have hx3 : W3.heap[g18]? = some (.cells x.cells.toArray 83 (0, 0)) := by rw [H3.there g18 (by omega)]; exact H2.here
    have hn3 : NewL Cause.cells 83 19 w9.heap.size W3 (.slice A0 n0 c0') s' := ownsRow_other (hn'.ext E2) H3 (fun c t fr hh => by rw [E2.heap hrr] at hh; cases hh)
    have hk3 : Keep D w9 W3 := (hk'.ext E2).put H3 (by rw [hD]; rintro ⟨_, h⟩; omega)
    have hi3 : KeepInts W W3 := fun q c fr hq => by
      rw [H3.there q (fun ee => by subst ee; rw [hrr] at hq; cases hq)]
      exact E2.heap hq
    have hs3 : w9.heap.size ≤ W3.heap.size := hk3.size
    refine ⟨_, cell_of_block (i := 0) hu3 rfl, ?_⟩
    refine ⟨x.cells, rfl, Rd.of_block hx3, ?_⟩
    intro g19 W4 H4
    have hn4 := hn3.ext H4.ext
    refine ⟨rfl, rfl, rfl, w9.heap.size, _, _, x.cells, hn4, Nat.le_trans hs3 H4.ext.size, Nat.le_of_ble_eq_true rfl, rfl, rfl, .inr ⟨g19, 0, rfl, Rd.of_block H4.here⟩, rfl, rfl, by omega, by simp only [maxLen]; omega, ?_⟩
    intro v5 W5 ho5 hg5 _
    have ho5 : NewL Cause.cells 83 19 w9.heap.size W5 v5 (s' ++ [x]) := by
      unfold NewL
      rw [List.length_append, List.flatMap_append]
      simpa using ho5
    obtain ⟨A5, n5, c5, rfl⟩ := cause_row ho5
    have keepB : ∀ (q : Nat) (ob : Obj), W4.heap[q]? = some ob → (∀ c fr, ob ≠ .cells c 83 fr) → W5.heap[q]? = some ob := fun q ob hq hne' => by
      rw [hg5.block q (lt_of_heap hq) (fun ee => ?_)]
      · exact hq
      · obtain ⟨_, hv | ⟨g', cap, cur, hv, hb, hgg, h1⟩⟩ := hn4
        · rw [hv.1] at ee; cases ee
        · rw [hv] at ee
          have ee : q = g' := by simpa [Value.ownBlock] using ee
          subst ee
          rw [hgg] at hq
          cases hq
          exact hne' _ _ rfl
    have hu5 := keepB _ _ (H4.ext.heap hu3) (fun c fr hh => by cases hh)
    refine ⟨rfl, _, _, hu5, Nat.le_of_ble_eq_true rfl, rfl, ?_⟩
    intro W6 H6
    have H6 : Put W5 g17 (.cells #[.slice A5 n5 c5] 73 (0, 0)) W6 := H6
    have hk5 : Keep D w9 W5 := by
      refine ⟨hg5.os.trans (hk3.ext H4.ext).os, hg5.tape.trans (hk3.ext H4.ext).tape, hg5.output.trans (hk3.ext H4.ext).output, Nat.le_trans (hk3.ext H4.ext).size hg5.size, fun q hDq hq => ?_⟩
      rw [hg5.block q (Nat.lt_of_lt_of_le hq (hk3.ext H4.ext).size) (fun ee => ?_)]
      · exact (hk3.ext H4.ext).block q hDq hq
      · have := (hn4.lt q ee.symm).1
        omega
    refine ⟨⟨⟨hk5.put H6 (by rw [hD]; rintro ⟨h, _⟩; exact h rfl), _, H6.here, ownsRow_put ho5 H6 (ownsRow_type ho5 hu5 (by decide))⟩, ?_⟩, ?_, ?_⟩
    · intro q c fr hq
      have h4 := H4.ext.heap (hi3 q c fr hq)
      have h5 := keepB _ _ h4 (fun c fr hh => by cases hh)
      rw [H6.there q (fun ee => by subst ee; rw [hu5] at h5; cases h5)]
      exact h5
    · rw [H6.there lp (by omega)]
      exact keepB _ _ (H4.ext.heap H3.here) (fun c fr hh => by cases hh)
    · rw [H6.there db (by omega)]
      have h3 : W3.heap[db]? = some (.deferred (some [])) := by rw [H3.there db (fun ee => hne ee.symm)]; exact E2.heap hdd
      rw [h3]
      exact keepB _ _ (H4.ext.heap h3) (fun c fr hh => by cases hh)
  · intro lp J W hJe hJI hJY hJ0
    rw [hL]
    exact causes2_spec (B := w7.heap.size) (N := N) (X := Xr) (Y := Y) (p := p) (l := l) (ps := ps) (R := R) (cl := cl) (k := kb) (Kp := KeepInts) hrel hip hjp hJe (fun s' W' hJ => by
      have hk' := (hJI s' W' hJ).1
      exact ⟨F9.keep hk' hDl, hR.ext (ext_of_keep M.ext hk' hDw)⟩) (fun _ _ h => h) hJY hJ0
  · rintro W db ⟨hk', u, hu, hn'⟩ hdb hdd
    refine ⟨_, cell_of_block (i := 0) hu rfl, ?_⟩
    refine ⟨hdd, fun W3 H3 => ?_⟩
    have hk3 : Keep D w9 W3 := hk'.put H3 (by rw [hD]; rintro ⟨_, h⟩; omega)
    refine ⟨⟨u, by rw [hE']; rfl, ?_⟩, ext_of_keep M.ext hk3 hDw⟩
    exact NewL.base (ownsRow_other hn' H3 (fun c t fr hh => by rw [hdd] at hh; cases hh)) M.ext.size
end Go.Proofs.YtdpdjcopkehdjaaGreat.Rk
namespace Go.Proofs.YtdpdjcopkehdjaaGreat.Rk
open Go.Eng Go.RowKit
def firesTo (l : List Rl) (a b : Prof) (k : Nat) : List Int := ((List.range k).filter fun i => holdsT a b (l.getD i default).test).map fun i => ((i : Nat) : Int)
theorem firesTo_succ (l : List Rl) (a b : Prof) (k : Nat) : firesTo l a b (k + 1) = firesTo l a b k ++ if holdsT a b (l.getD k default).test = true then [((k : Nat) : Int)] else [] := by
  unfold firesTo
  rw [List.range_succ, List.filter_append, List.map_append]
  congr 1
  rw [List.filter_cons, List.filter_nil]
  split <;> rfl
theorem firesTo_len (l : List Rl) (a b : Prof) (k : Nat) : (firesTo l a b k).length ≤ k := by
  unfold firesTo
  rw [List.length_map]
  exact Nat.le_trans (List.length_filter_le _ _) (by simp)
theorem fires_mem {l : List Rl} {a b : Prof} {n : Nat} (hn : n < l.length) (h : holdsT a b (l.getD n default).test = true) : ((n : Nat) : Int) ∈ firesTo l a b l.length := by
  unfold firesTo
  exact List.mem_map.2 ⟨n, List.mem_filter.2 ⟨List.mem_range.2 hn, h⟩, rfl⟩
theorem ruled_holds {l : List Rl} {a b : Prof} {n : Nat} (h : ruledI l a b = ((n : Nat) : Int)) : holdsT a b (l.getD n default).test = true := by
  unfold ruledI at h
  split at h
  · unfold decP decV at h
    split at h
    · rename_i hx
      have e : hx.choose.2.1 = ((n : Nat) : Int) := h
      rw [hx.choose_spec.fr] at e
      unfold firstI at e
      split at e
      · rename_i i hi
        have hin : i = n := by omega
        obtain ⟨h1, h2, _⟩ := List.findIdx?_eq_some_iff_getElem.1 hi
        rw [Bool.and_eq_true] at h2
        rw [List.getD_eq_getElem?_getD, ← hin, List.getElem?_eq_getElem h1]
        exact h2.2
      · omega
    · have h : (-1 : Int) = (n : Nat) := h
      omega
  · omega
set_option maxRecDepth 100000 in
set_option maxHeartbeats 4000000 in
theorem Fires_spec {w : World} {R : Option Addr} {l : List Rl} {c : Nat} (h : HRs w R l c) (a b : Prof) :
    CallsV C.P 29 #[.agg #[.slice R l.length c], a.val, b.val] w fun v w' => (∃ u, v = .tuple #[u, .int .i64 (decE l a b)] ∧ NewInts w w' u (if decE l a b = 0 then firesTo l a b l.length else [])) ∧ Ext w w' := by
  obtain ⟨e0, he0⟩ : ∃ e0, e0 = decE l a b := ⟨_, rfl⟩
  rw [← he0]
  refine callsV_of C_ok (args := [_, _, _]) (plans := []) Tryz.func29 rfl Tryz.ntmps29 (by kernel_rfl) (Nat.le_of_ble_eq_true rfl) ?_
  intro g3 w1 h1
  have M : Mem w w1 [(g3, .cells #[.slice R l.length c] 29 (0, 0))] := (Mem.start w).alloc h1
  intro g4 w2 h2
  have M : Mem w w2 [(g4, .cells a.cells.toArray 38 (0, 0)), (g3, .cells #[.slice R l.length c] 29 (0, 0))] := M.alloc h2
  intro g5 w3 h3
  have M : Mem w w3 [(g5, .cells b.cells.toArray 38 (0, 0)), (g4, .cells a.cells.toArray 38 (0, 0)), (g3, .cells #[.slice R l.length c] 29 (0, 0))] := M.alloc h3
  refine ⟨[.slice R l.length c], rfl, M.rd 2 rfl, ?_⟩
  refine ⟨a.cells, rfl, M.rd 1 rfl, ?_⟩
  refine ⟨b.cells, rfl, M.rd 0 rfl, ?_⟩
  have X := both_spec (h.ext M.ext) a b
  rw [← he0] at X
  refine X.mono ?_
  clear X
  rintro v w5 ⟨rfl, e5⟩
  have M := M.grow e5
  refine brE_ndec (fun c0 => ?_) (fun c0 => ?_)
  · have c0 : e0 ≠ 0 := c0
    refine ⟨⟨_, rfl, ?_⟩, M.ext⟩
    rw [if_neg c0]
    exact World.ownsRow_nil _ _ _ _
  have c0 : e0 = 0 := c0
  have hz := (decE_zero (he0.symm.trans c0)).1
  obtain ⟨hl24, hgood⟩ := chkRl_zero hz
  refine ⟨_, M.cell 2 rfl rfl, ?_⟩
  refine loopE C_ok (fun (t : Nat × Value) => [(3, .pointer (some ⟨g3, 0, none⟩)), (4, .pointer (some ⟨g4, 0, none⟩)), (5, .pointer (some ⟨g5, 0, none⟩)), (9, t.2), (20, .slice R l.length c), (21, .int .i64 (l.length : Nat)), (22, .int .i64 (t.1 : Nat))])
    (fun t w' => t.1 ≤ l.length ∧ w'.ownsRow w5.heap.size 3 1 t.2 (firesTo l a b t.1).length (ints (firesTo l a b t.1)) ∧ Ext w5 w') (fun t => l.length - t.1) (0, .slice none 0 0) ⟨rfl, rfl, rfl, rfl, rfl, rfl, rfl, trivial⟩ ⟨Nat.zero_le _, World.ownsRow_nil _ _ _ _, Ext.refl _⟩ ?_
  rintro ⟨t, v⟩ w6 ⟨ht', ho', e6'⟩
  have ht : t ≤ l.length := ht'
  have ho : w6.ownsRow w5.heap.size 3 1 v (firesTo l a b t).length (ints (firesTo l a b t)) := ho'
  have e6 : Ext w5 w6 := e6'
  clear ht' ho' e6'
  have M := M.grow e6
  refine brE_dec (fun hlt => ?_) (fun hge => ?_)
  · have hlti : t < l.length := by have : (t : Int) < (l.length : Nat) := hlt; omega
    have next : IntKind.i64.wrap ((t : Int) + 1) = ((t + 1 : Nat) : Int) := fit ⟨by omega, by omega⟩
    have step : l.length - (t + 1) < l.length - t := by omega
    obtain ⟨x, hx⟩ : ∃ x, x = l[t] := ⟨_, rfl⟩
    have hxm : x ∈ l := by rw [hx]; exact List.getElem_mem hlti
    have hsucc := firesTo_succ l a b t
    have hgx : l.getD t default = x := by rw [List.getD_eq_getElem?_getD, List.getElem?_eq_getElem hlti, hx]; rfl
    rw [hgx] at hsucc
    obtain ⟨bb, oo, hRR, hc⟩ := (h.ext M.ext).at hlti
    rw [← hx] at hc
    refine ⟨t, bb, oo, rfl, hlti, hRR, ?_⟩
    refine ⟨x.cells, rfl, hc, ?_⟩
    intro g11 w7 h7
    have M7 := M.alloc h7
    refine ⟨rfl, _, _, M7.get 0 rfl, Nat.le_of_ble_eq_true rfl, rfl, ?_⟩
    intro w8 h8
    have M : Mem w w8 [(g11, .cells x.cells.toArray 72 (0, 0)), (g5, .cells b.cells.toArray 38 (0, 0)), (g4, .cells a.cells.toArray 38 (0, 0)), (g3, .cells #[.slice R l.length c] 29 (0, 0))] := M7.put 0 rfl h8
    have e8 : Ext w6 w8 := h8.ext_of h7.ext (by rw [h7.new]; exact Nat.le_refl _)
    clear M7 h7 h8
    refine ⟨x.test.cells, rfl, (M.rd 0 rfl).part x.test_part, ?_⟩
    refine ⟨a.cells, rfl, M.rd 2 rfl, ?_⟩
    refine ⟨b.cells, rfl, M.rd 1 rfl, ?_⟩
    obtain ⟨tv, htv⟩ : ∃ tv, tv = holdsT a b x.test := ⟨_, rfl⟩
    have X := holds_spec (h.each x hxm).test a b (hgood x hxm).1 M.ext
    rw [← htv] at X hsucc
    refine X.mono ?_
    clear X
    rintro u w9 ⟨rfl, e9⟩
    have e69 := e8.trans e9
    have ho := ownsRow_ext ho e69
    refine brE_mk (fun hb => ?_) (fun hb => ?_)
    · rw [if_pos hb] at hsucc
      intro g12 w10 h10
      have ho := ownsRow_ext ho h10.ext
      have hlen := firesTo_len l a b t
      have e10 := (e6.trans e69).trans h10.ext
      refine ⟨rfl, rfl, rfl, w5.heap.size, _, _, [.int .i64 (t : Nat)], ho, e10.size, Nat.le_of_ble_eq_true rfl, rfl, rfl, .inr ⟨g12, 0, rfl, Rd.of_block h10.here⟩, rfl, rfl, by omega, by simp only [maxLen]; omega, ?_⟩
      intro v11 w11 ho11 hg11 _
      refine ⟨_, next, ?_⟩
      refine ⟨(t + 1, v11), ⟨rfl, rfl, rfl, rfl, rfl, rfl, rfl, trivial⟩, ⟨hlti, ?_, app_ext e10 ho hg11⟩, step⟩
      show w11.ownsRow _ _ _ v11 (firesTo l a b (t + 1)).length (ints (firesTo l a b (t + 1)))
      rw [hsucc, List.length_append, ints_append]
      exact ho11
    · rw [if_neg (by rw [hb]; simp), List.append_nil] at hsucc
      refine ⟨_, next, ?_⟩
      refine ⟨(t + 1, v), ⟨rfl, rfl, rfl, rfl, rfl, rfl, rfl, trivial⟩, ⟨hlti, ?_, e6.trans e69⟩, step⟩
      show World.ownsRow _ _ _ _ v (firesTo l a b (t + 1)).length (ints (firesTo l a b (t + 1)))
      rw [hsucc]; exact ho
  · have hte : t = l.length := by have : ¬ (t : Int) < (l.length : Nat) := hge; omega
    rw [hte] at ho
    refine ⟨⟨v, by rw [c0], ?_⟩, M.ext⟩
    rw [if_pos c0]
    have hs5 : w.heap.size ≤ w5.heap.size := by
      have := e6.size
      exact (M.sub (List.nil_sublist _)).ext.size |> fun _ => by
        have h1 := h1.ext.size
        have h2 := h2.ext.size
        have h3 := h3.ext.size
        have h5 := e5.size
        omega
    exact ownsRow_base ho hs5
theorem lawHas_spec {w : World} {A : Option Addr} {xs : List Int} {c : Nat} (hr : Reads w A (ints xs)) (hl : xs.length ≤ 4611686018427387904) (n : Int) :
    CallsV C.P 30 #[.slice A xs.length c, .int .i64 n] w fun v w' => v = .bool (decide (n ∈ xs)) ∧ w' = w := by
  refine callsV_of C_ok (args := [_, _]) (plans := []) Tryz.func30 rfl Tryz.ntmps30 (by kernel_rfl) (Nat.le_of_ble_eq_true rfl) ?_
  refine loopE C_ok (fun (i : Nat) => [(0, .slice A xs.length c), (1, .int .i64 n), (5, .int .i64 (i : Nat))]) (fun i w' => w' = w ∧ i ≤ xs.length ∧ n ∉ xs.take i) (fun i => xs.length - i) 0 ⟨rfl, rfl, rfl, trivial⟩ ⟨rfl, Nat.zero_le _, by simp⟩ ?_
  rintro i w1 ⟨rfl, hi, hno⟩
  refine brE_dec (fun hlt => ?_) (fun hge => ?_)
  · have hlti : i < xs.length := by have : (i : Int) < (xs.length : Nat) := hlt; omega
    obtain ⟨b, o, hA, hc⟩ := Reads.int hr hlti
    refine ⟨i, b, o, rfl, hlti, hA, ?_⟩
    refine ⟨_, by simpa using hc, ?_⟩
    refine brE_dec (fun he => ?_) (fun he => ?_)
    · have he : xs[i] = n := he
      exact ⟨by rw [decide_eq_true (he ▸ List.getElem_mem hlti)], rfl⟩
    · have he : ¬ xs[i] = n := he
      refine ⟨((i + 1 : Nat) : Int), fit ⟨by omega, by omega⟩, ?_⟩
      refine ⟨i + 1, ⟨rfl, rfl, rfl, trivial⟩, ⟨rfl, hlti, ?_⟩, by omega⟩
      rw [List.take_succ_eq_append_getElem hlti]
      simp only [List.mem_append, List.mem_singleton, not_or]
      exact ⟨hno, fun e => he e.symm⟩
  · have : i = xs.length := by have : ¬ (i : Int) < (xs.length : Nat) := hge; omega
    rw [this, List.take_length] at hno
    exact ⟨by rw [decide_eq_false hno], rfl⟩
end Go.Proofs.YtdpdjcopkehdjaaGreat.Rk
namespace Go.Proofs.YtdpdjcopkehdjaaGreat.Rk
open Go.Eng Go.RowKit
theorem toM_of_find {xs : List Arrow} {a b : Nat} {x : Arrow} (h : findA xs (a : Nat) (b : Nat) = some x) : toM xs a b = true := by
  unfold findA at h
  unfold toM
  exact List.any_eq_true.2 ⟨x, List.mem_of_find?_eq_some h, by simpa using List.find?_some h⟩
theorem no_chain {l : List Rl} {p : List Prof} {ps : List (Int × Int)} {N : Int} {X Y : List Arrow} (hr : CRel l p ps N X Y) {a b : Nat} (ha : a < p.length) (hb : b < p.length) (h : chainS N X (a : Nat) (b : Nat) = none) :
    ¬ (a ≠ b ∧ ruledI l (p.getD a default) (p.getD b default) ≥ 0 ∧ (((a : Nat) : Int), ((b : Nat) : Int)) ∉ ps) := by
  intro hc
  have hv : Valid N X := by rw [hr.hX, hr.hN]; exact (relL_valid hr.hp hr.hz).filter _
  have hf := hr.findX ha hb
  rw [if_pos hc] at hf
  unfold arrowS at hf
  rw [if_pos hv.chk] at hf
  have ht := toM_of_find hf
  unfold chainS at h
  rw [if_pos] at h
  · cases h
  · refine ⟨hv.chk, ?_, ?_⟩
    · rw [Bool.and_eq_true]
      have := hr.hN
      exact ⟨decide_eq_true (by omega), decide_eq_true (by omega)⟩
    · exact reach_iff.2 (Path.one ht)
structure CauseIs (l : List Rl) (p : List Prof) (ps : List (Int × Int)) (N : Int) (X : List Arrow) (is : Bool) (ch : List Int) (a b t : Nat) (z : Cause) (x y n : Nat) : Prop where
  eq : z = ⟨(x : Nat), (y : Nat), p.getD x default, p.getD y default, (n : Nat), (l.getD n default).name, !is⟩
  hx : x < p.length
  hy : y < p.length
  hn : n < l.length
  ru : ruledI l (p.getD x default) (p.getD y default) = ((n : Nat) : Int)
  yes : is = true → (∃ ar, arrowS N X (x : Nat) (y : Nat) = some ar ∧ ar.rule = ((n : Nat) : Int)) ∧ ∃ h : t + 1 < ch.length, ch[t] = (x : Int) ∧ ch[t + 1] = (y : Int)
  no : is = false → arrowS N X (x : Nat) (y : Nat) = none ∧ (((a : Nat) : Int), ((b : Nat) : Int)) ∈ ps
theorem causes_len {l : List Rl} {p : List Prof} {ps : List (Int × Int)} {N : Int} {X Y : List Arrow} (hr : CRel l p ps N X Y) {a b : Nat} {r : Option (List Int)} (hrr : r = chainS N X (a : Nat) (b : Nat)) :
    (r.isSome = true → (causesL l p ps a b).length = (r.getD []).length - 1 ∧ ChainIs l p ps (r.getD [])) ∧ (r.isSome = false → (causesL l p ps a b).length ≤ 1) ∧ (causesL l p ps a b).length ≤ 25 := by
  unfold causesL
  rw [← hr.hN, ← hr.hX, ← hrr]
  cases r with
  | none =>
    refine ⟨(fun h => by cases h), fun _ => ?_, ?_⟩
    · show (if _ then _ else _ : List Cause).length ≤ 1
      split <;> simp
    · show (if _ then _ else _ : List Cause).length ≤ 25
      split <;> simp
  | some ch =>
    have hc : ChainIs l p ps ch := by
      refine chain_is (a := (a : Nat)) (b := (b : Nat)) hr.hp hr.hz ?_
      rw [← hr.hN, ← hr.hX]; exact hrr.symm
    refine ⟨fun _ => ⟨causesTo_len _ _ _ _, hc⟩, (fun h => by cases h), ?_⟩
    show (causesTo l p ch (ch.length - 1)).length ≤ 25
    rw [causesTo_len]
    have := hc.len
    omega
theorem causes_at {l : List Rl} {p : List Prof} {ps : List (Int × Int)} {N : Int} {X Y : List Arrow} (hr : CRel l p ps N X Y) {a b : Nat} (ha : a < p.length) (hb : b < p.length) {r : Option (List Int)} (hrr : r = chainS N X (a : Nat) (b : Nat)) {t : Nat} (ht : t < (causesL l p ps a b).length) :
    ∃ x y n, CauseIs l p ps N X r.isSome (r.getD []) a b t (causesL l p ps a b)[t] x y n := by
  have mk : ∀ (x y : Nat) (wv : Bool), ruledI l (p.getD x default) (p.getD y default) ≥ 0 → ∃ n : Nat, n < l.length ∧ ruledI l (p.getD x default) (p.getD y default) = ((n : Nat) : Int) ∧ causeC l p (arrAt l p x y) wv = ⟨(x : Nat), (y : Nat), p.getD x default, p.getD y default, (n : Nat), (l.getD n default).name, wv⟩ := by
    intro x y wv h
    have hlt := ruledI_lt l (p.getD x default) (p.getD y default)
    obtain ⟨n, hn⟩ := Int.eq_ofNat_of_zero_le h
    refine ⟨n, by omega, hn, ?_⟩
    unfold causeC arrAt
    simp only [hn, Int.toNat_natCast]
  cases r with
  | none =>
    have hno := no_chain hr ha hb hrr.symm
    have hL : causesL l p ps a b = if a ≠ b ∧ ruledI l (p.getD a default) (p.getD b default) ≥ 0 then [causeC l p (arrAt l p a b) true] else [] := by
      unfold causesL
      rw [← hr.hN, ← hr.hX, ← hrr]
    by_cases hc : a ≠ b ∧ ruledI l (p.getD a default) (p.getD b default) ≥ 0
    · rw [if_pos hc] at hL
      obtain ⟨n, hn, hru, he⟩ := mk a b true hc.2
      have ht0 : t = 0 := by rw [hL] at ht; simpa using ht
      refine ⟨a, b, n, ?_, ha, hb, hn, hru, (fun h => by cases h), fun _ => ⟨?_, ?_⟩⟩
      · subst ht0
        simp only [hL, List.getElem_cons_zero]
        exact he
      · rw [hr.findX ha hb, if_neg hno]
      · by_cases hin : (((a : Nat) : Int), ((b : Nat) : Int)) ∈ ps
        · exact hin
        · exact absurd ⟨hc.1, hc.2, hin⟩ hno
    · rw [if_neg hc] at hL
      rw [hL] at ht
      exact absurd ht (by simp)
  | some ch =>
    have hci : ChainIs l p ps ch := by
      refine chain_is (a := (a : Nat)) (b := (b : Nat)) hr.hp hr.hz ?_
      rw [← hr.hN, ← hr.hX]; exact hrr.symm
    have hL : causesL l p ps a b = causesTo l p ch (ch.length - 1) := by
      unfold causesL
      rw [← hr.hN, ← hr.hX, ← hrr]
    have htl : t + 1 < ch.length := by rw [hL, causesTo_len] at ht; omega
    obtain ⟨x, y, hx, hy, hxl, hyl, hxy, hru, hps⟩ := hci.step t htl
    obtain ⟨n, hn, hru', he⟩ := mk x y false hru
    refine ⟨x, y, n, ?_, hxl, hyl, hn, hru', fun _ => ⟨⟨arrAt l p x y, ?_, hru'⟩, htl, hx, hy⟩, (fun h => by cases h)⟩
    · have hg1 : ch.getD t 0 = (x : Int) := by rw [List.getD_eq_getElem?_getD, List.getElem?_eq_getElem (by omega), ← hx]; rfl
      have hg2 : ch.getD (t + 1) 0 = (y : Int) := by rw [List.getD_eq_getElem?_getD, List.getElem?_eq_getElem htl, ← hy]; rfl
      simp only [hL]
      unfold causesTo
      rw [List.getElem_map, List.getElem_range, hg1, hg2]
      simp only [Int.toNat_natCast]
      exact he
    · rw [hr.findX hxl hyl, if_pos ⟨hxy, hru, hps⟩]
end Go.Proofs.YtdpdjcopkehdjaaGreat.Rk
namespace Go.Proofs.YtdpdjcopkehdjaaGreat.Rk
open Go.Eng Go.RowKit
theorem neqPf_self (x y : Operand) (p : Prof) : EqIs C.P .neq 38 x y p.val p.val false := by
  have h := neqPf x y p p
  rwa [decide_eq_true rfl] at h
end Go.Proofs.YtdpdjcopkehdjaaGreat.Rk
namespace Go.Proofs.YtdpdjcopkehdjaaGreat.Rk
open Go.Eng Go.RowKit
theorem Cause.own_part (z : Cause) : ∀ i v, z.own.cells[i]? = some v → z.cells[2 + i]? = some v := by
  intro i v h
  unfold Cause.cells
  rw [show 2 + i = i + 2 by omega]
  show (z.own.cells ++ _)[i]? = some v
  rw [List.getElem?_append_left (List.getElem?_eq_some_iff.1 h).1]
  exact h
theorem Cause.other_part (z : Cause) : ∀ i v, z.other.cells[i]? = some v → z.cells[9 + i]? = some v := by
  intro i v h
  unfold Cause.cells
  rw [show 9 + i = (7 + i) + 2 by omega]
  show (z.own.cells ++ (z.other.cells ++ _))[7 + i]? = some v
  rw [List.getElem?_append_right (by rw [Prof.len]; omega), Prof.len, Nat.add_sub_cancel_left, List.getElem?_append_left (List.getElem?_eq_some_iff.1 h).1]
  exact h
theorem gchk_one {gs : List (Int × Int)} (h : gchk gs = 0) {i : Nat} (hi : i < gs.length) : gchk [gs[i]] = 0 := by
  have key : ∀ (r : List (Int × Int)) (seen : List Int), gloop seen r = 0 → ∀ g ∈ r, (idB g.1 && idB g.2) = true := by
    intro r
    induction r with
    | nil => intro _ _ g hg; cases hg
    | cons g0 r ih =>
      intro seen hh g hg
      unfold gloop at hh
      split at hh
      · rename_i h1
        split at hh
        · cases hh
        · rcases List.mem_cons.1 hg with rfl | hg
          · exact h1
          · exact ih _ hh g hg
      · cases hh
  unfold gchk at h ⊢
  split at h
  · cases h
  · have := key gs [] h _ (List.getElem_mem hi)
    rw [if_neg (by simp)]
    unfold gloop
    rw [if_pos this]
    simp [gloop]
set_option maxRecDepth 100000 in
set_option maxHeartbeats 32000000 in
theorem RankCaused_spec {w : World} {A R B Q : Option Addr} {f : List Fact} {l : List Rl} {c cl d e : Nat} {gs ps : List (Int × Int)} (hf : HF w A f c) (hR : HRs w R l cl) (s : Scn) (hr : Reads w B (prCells gs)) (hg : ∀ g ∈ gs, In64 g.1) (hrp : Reads w Q (prCells ps)) (hps : ∀ p ∈ ps, In64 p.1 ∧ In64 p.2) (a b : Int) :
    CallsV C.P 9 #[.slice A f.length c, .agg #[.slice R l.length cl], s.val, .slice B gs.length d, .slice Q ps.length e, .int .i64 a, .int .i64 b] w fun v w' => v = .bool true ∧ Ext w w' := by
  have stop : ∀ {w' : World}, Ext w w' → CallsV C.P 11 #[] w' fun v w'' => v = .bool true ∧ Ext w w'' := fun e => (stands_spec _).mono fun v w'' hh => ⟨hh.1, e.trans hh.2⟩
  refine callsV_ofS (args := [_, _, _, _, _, _, _]) Tryz.func9 rfl Tryz.ntmps9 C_ok (Nat.le_of_ble_eq_true rfl) ?_
  refine Snd.go C_ok plans9 (by kernel_rfl) ?_
  intro g8 w1 h1
  have M : Mem w w1 [(g8, .cells #[.slice R l.length cl] 29 (0, 0))] := (Mem.start w).alloc h1
  intro g9 w2 h2
  have M : Mem w w2 [(g9, .cells s.cells.toArray 24 (0, 0)), (g8, .cells #[.slice R l.length cl] 29 (0, 0))] := M.alloc h2
  clear h1 h2
  refine ⟨Snd.go C_ok plans9 (by kernel_rfl) ?_⟩
  refine ⟨[.slice R l.length cl], rfl, M.rd 1 rfl, ?_⟩
  refine (fewR_spec (hf.ext M.ext)).mono ?_
  rintro v w3 ⟨⟨bo, rfl, hb⟩, e3⟩
  have M := M.grow e3
  refine brE_mk (fun b0 => ?_) (fun b0 => ?_)
  · refine (stop M.ext).mono ?_
    rintro v w4 ⟨rfl, ee⟩
    exact ⟨rfl, ee⟩
  have hfew := hb (by simpa using b0)
  clear hb b0
  refine brE_dec (fun c0 => ?_) (fun c0 => ?_)
  · refine (stop M.ext).mono ?_
    rintro v w4 ⟨rfl, ee⟩
    exact ⟨rfl, ee⟩
  have c0 : ¬ ((ps.length : Nat) : Int) > 60 := c0
  have hl : f.length ≤ 2 ^ 20 := by have := hfew.1; omega
  have hgl := hfew.2.2
  have hpl : ps.length ≤ 2 ^ 44 := by omega
  obtain ⟨k, hk⟩ : ∃ k, k = chkR f (chkRl l) s gs := ⟨_, rfl⟩
  obtain ⟨E, hE⟩ : ∃ E, E = causesE k gs.length a b := ⟨_, rfl⟩
  obtain ⟨L, hL⟩ : ∃ L, L = (if E = 0 then causesL l (profsOf f s gs) ps a.toNat b.toNat else []) := ⟨_, rfl⟩
  obtain ⟨N, hN⟩ : ∃ N : Int, N = (if k = 0 then ((gs.length : Nat) : Int) else 0) := ⟨_, rfl⟩
  obtain ⟨X, hX⟩ : ∃ X, X = (if k = 0 then waiveL (relL l (profsOf f s gs)) ps else []) := ⟨_, rfl⟩
  refine ⟨Snd.go C_ok plans9 (by kernel_rfl) ?_⟩
  refine ⟨[.slice R l.length cl], rfl, M.rd 1 rfl, ?_⟩
  refine ⟨s.cells, rfl, M.rd 0 rfl, ?_⟩
  have Z := Relate_spec (c := c) (cl := cl) (d := d) (e := e) (hf.ext M.ext) hl (hR.ext M.ext) s (hr.ext M.ext) hg hps (hrp.ext M.ext) hpl
  rw [← hk, ← hN, ← hX] at Z
  refine Z.mono ?_
  clear Z
  rintro v w4 ⟨⟨u1, rfl, A1, c1, rfl, ho1⟩, e4⟩
  have M := M.grow e4
  intro g15 w5 h5
  have M5 := M.alloc h5
  refine ⟨rfl, _, _, M5.get 0 rfl, Nat.le_of_ble_eq_true rfl, rfl, ?_⟩
  intro w6 h6
  have M : Mem w w6 [(g15, .cells #[.int .i64 N, .slice A1 X.length c1] 49 (0, 0)), (g9, .cells s.cells.toArray 24 (0, 0)), (g8, .cells #[.slice R l.length cl] 29 (0, 0))] := M5.put 0 rfl h6
  have ho6 := ownsRow_ext ho1 (h6.ext_of h5.ext (by rw [h5.new]; exact Nat.le_refl _))
  clear M5 h5 h6 ho1
  refine ⟨Snd.go C_ok plans9 (by kernel_rfl) ?_⟩
  refine ⟨[.slice R l.length cl], rfl, M.rd 2 rfl, ?_⟩
  refine ⟨s.cells, rfl, M.rd 1 rfl, ?_⟩
  have Z := Causes_spec (c := c) (cl := cl) (d := d) (e := e) (hf.ext M.ext) hl (hR.ext M.ext) s (hr.ext M.ext) hg (by omega) hps (hrp.ext M.ext) hpl a b
  rw [← hk, ← hE, ← hL] at Z
  refine Z.mono ?_
  clear Z
  rintro v w7 ⟨⟨u2, rfl, hoL⟩, e7⟩
  have M := M.grow e7
  have ho7 := ownsRow_ext ho6 e7
  obtain ⟨A2, c2, rfl, hHL⟩ := hoL.hl
  have hE' : E = if k ≠ 0 then k else if (0 ≤ a ∧ a ≤ ((gs.length : Nat) : Int) - 1) ∧ (0 ≤ b ∧ b ≤ ((gs.length : Nat) : Int) - 1) then 0 else 1 := hE
  refine ⟨Snd.go C_ok plans9 (by kernel_rfl) ?_⟩
  have hL0 : E ≠ 0 → L.length = 0 := fun h => by rw [hL, if_neg h]; rfl
  refine brE_ndec (fun k0 => ?_) (fun k0 => ?_)
  · have k0 : k ≠ 0 := k0
    rw [if_pos k0] at hE'
    refine (stands_spec w7).mono ?_
    rintro v w8 ⟨rfl, e8⟩
    refine brE_dec (fun _ => ?_) (fun h => absurd hE'.symm h)
    refine ⟨congrArg Value.bool (decide_eq_true ?_), M.ext.trans e8⟩
    have := hL0 (by rw [hE']; exact k0)
    show ((L.length : Nat) : Int) = 0
    omega
  have k0 : k = 0 := k0
  rw [if_neg (fun h => h k0)] at hE'
  refine brE_ndec (fun E0 => ?_) (fun E0 => ?_)
  · have E0 : E ≠ 0 := E0
    have E1 : E = 1 := by
      rw [hE'] at E0 ⊢
      split at E0
      · exact absurd rfl E0
      · next h => rw [if_neg h]
    refine (stands_spec w7).mono ?_
    rintro v w8 ⟨rfl, e8⟩
    refine brE_dec (fun h => absurd (h.symm.trans k0) E0) (fun _ => ?_)
    refine brE_dec (fun _ => ?_) (fun h => absurd k0 h)
    refine brE_dec (fun _ => ?_) (fun h => absurd E1 h)
    refine ⟨congrArg Value.bool (decide_eq_true ?_), M.ext.trans e8⟩
    have := hL0 E0
    show ((L.length : Nat) : Int) = 0
    omega
  have E0 : E = 0 := E0
  have hin : (0 ≤ a ∧ a ≤ ((gs.length : Nat) : Int) - 1) ∧ (0 ≤ b ∧ b ≤ ((gs.length : Nat) : Int) - 1) := by
    by_cases h : (0 ≤ a ∧ a ≤ ((gs.length : Nat) : Int) - 1) ∧ (0 ≤ b ∧ b ≤ ((gs.length : Nat) : Int) - 1)
    · exact h
    · rw [if_neg h, E0] at hE'; cases hE'
  obtain ⟨i, rfl⟩ := Int.eq_ofNat_of_zero_le hin.1.1
  obtain ⟨j, rfl⟩ := Int.eq_ofNat_of_zero_le hin.2.1
  rw [if_pos E0] at hL
  rw [if_pos k0] at hN hX
  simp only [Int.toNat_natCast] at hL
  have hkz : chkR f (chkRl l) s gs = 0 := hk.symm.trans k0
  obtain ⟨hcf, hz, hsz, hgz⟩ := chkR_zero hkz
  have hgl24 := gchk_len hgz
  obtain ⟨p, hpe⟩ : ∃ p, p = profsOf f s gs := ⟨_, rfl⟩
  have hpn : p.length = gs.length := by rw [hpe]; exact List.length_map _
  rw [← hpe] at hL hX
  have hip : i < p.length := by omega
  have hjp : j < p.length := by omega
  have hrel : CRel l p ps N X (relL l p) := ⟨by omega, hz, by rw [hN, hpn], hX, rfl, fun x hx => (hR.each x hx).weight⟩
  have hXl := hrel.lenX
  have hpok : ∀ x (hx : x < p.length), (p.getD x default).Ok := fun x hx => by
    rw [List.getD_eq_getElem?_getD, List.getElem?_eq_getElem hx]
    have hm : p[x] ∈ profsOf f s gs := by rw [← hpe]; exact List.getElem_mem hx
    obtain ⟨g, _, hge⟩ := List.mem_map.1 hm
    show (p[x]).Ok
    rw [← hge]
    exact profOf_ok hcf s g
  have hX64 : ∀ {w' : World}, Ext w7 w' → HRel w' N A1 X c1 := fun ee => hrel_of (ownsRow_ext ho7 ee) hrel.in64 hrel.numsX (by omega)
  refine ⟨Snd.go C_ok plans9 (by kernel_rfl) ?_⟩
  refine ⟨[.int .i64 N, .slice A1 X.length c1], rfl, M.rd 0 rfl, ?_⟩
  obtain ⟨r, hrr⟩ : ∃ r, r = chainS N X (i : Nat) (j : Nat) := ⟨_, rfl⟩
  have Z := Chain_spec (hX64 (Ext.refl _)) (i : Nat) (j : Nat)
  rw [← hrr] at Z
  refine Z.mono ?_
  clear Z
  rintro v w8 hch
  obtain ⟨Ac, cc, rfl, hrow, e8⟩ := hch.row
  have M := M.grow e8
  have hHL := hHL.ext e8
  obtain ⟨hlen1, hlen2, hlen3⟩ := causes_len hrel hrr
  have hat : ∀ t (ht : t < L.length), ∃ x y n, CauseIs l p ps N X r.isSome (r.getD []) i j t L[t] x y n := by
    subst hL
    exact fun t ht => causes_at hrel hip hjp hrr ht
  rw [← hL] at hlen1 hlen2 hlen3
  obtain ⟨ch, hchd⟩ : ∃ ch, ch = r.getD [] := ⟨_, rfl⟩
  obtain ⟨is, his⟩ : ∃ is, is = r.isSome := ⟨_, rfl⟩
  rw [← hchd] at hrow hlen1 hat ⊢
  rw [← his] at hlen1 hlen2 hat ⊢
  clear hrr hchd his hch
  have hchl : ch.length ≤ 9223372036854775807 := by have := ownsRow_len hrow; omega
  refine ⟨Snd.join C_ok plans9 (fun _ : Unit => [(0, .slice A f.length c), (3, .slice B gs.length d), (4, .slice Q ps.length e), (5, .int .i64 (i : Nat)), (6, .int .i64 (j : Nat)), (8, .pointer (some ⟨g8, 0, none⟩)), (9, .pointer (some ⟨g9, 0, none⟩)), (15, .pointer (some ⟨g15, 0, none⟩)), (17, .slice A2 L.length c2), (19, .slice Ac ch.length cc), (20, .bool is)]) (fun _ w' => w' = w8) (by kernel_rfl) ?_ ?_⟩
  · refine brE_mk (fun hi => ?_) (fun hi => ?_)
    · obtain ⟨hl1, hci⟩ := hlen1 hi
      have h2 := hci.two
      refine ⟨((ch.length - 1 : Nat) : Int), by rw [fit ⟨by omega, by omega⟩]; omega, ?_⟩
      refine brE_ndec (fun h => absurd (congrArg (fun n : Nat => (n : Int)) hl1) h) (fun _ => ?_)
      refine brE_false (by rw [hi]; rfl) ?_
      exact ⟨⟨(), ⟨rfl, rfl, rfl, rfl, rfl, rfl, rfl, rfl, rfl, rfl, rfl, trivial⟩, rfl⟩⟩
    · have hl1 := hlen2 hi
      refine brE_true (by rw [hi]; rfl) ?_
      refine brE_dec (fun h => absurd h (by show ¬ ((L.length : Nat) : Int) > 1; omega)) (fun _ => ?_)
      exact ⟨⟨(), ⟨rfl, rfl, rfl, rfl, rfl, rfl, rfl, rfl, rfl, rfl, rfl, trivial⟩, rfl⟩⟩
  rintro _ w8' rfl
  refine Snd.go C_ok plans9 (by kernel_rfl) ?_
  intro _
  refine Snd.loop (fun t : Nat => [(0, .slice A f.length c), (3, .slice B gs.length d), (4, .slice Q ps.length e), (5, .int .i64 (i : Nat)), (6, .int .i64 (j : Nat)), (8, .pointer (some ⟨g8, 0, none⟩)), (9, .pointer (some ⟨g9, 0, none⟩)), (15, .pointer (some ⟨g15, 0, none⟩)), (17, .slice A2 L.length c2), (19, .slice Ac ch.length cc), (20, .bool is), (21, .int .i64 (t : Nat))])
    (fun t w' => t ≤ L.length ∧ Ext w8' w') (fun t => L.length - t) 0 ⟨rfl, rfl, rfl, rfl, rfl, rfl, rfl, rfl, rfl, rfl, rfl, rfl, trivial⟩ ⟨Nat.zero_le _, Ext.refl _⟩ ?_
  rintro t w9 ⟨htl, e9⟩
  have M := M.grow e9
  refine Snd.go C_ok plans9 (by kernel_rfl) ?_
  refine brE_dec (fun hlt => ?_) (fun hge => ?_)
  case refine_2 =>
    refine ⟨Snd.fin C_ok (plans := plans9) (by kernel_rfl) ?_⟩
    refine (stop M.ext).mono ?_
    rintro v w10 ⟨rfl, ee⟩
    exact ⟨rfl, ee⟩
  have hlti : t < L.length := by have : (t : Int) < (L.length : Nat) := hlt; omega
  have next : IntKind.i64.wrap ((t : Int) + 1) = ((t + 1 : Nat) : Int) := fit ⟨by omega, by omega⟩
  have step : L.length - (t + 1) < L.length - t := by omega
  obtain ⟨x, y, n, hz0, hxl, hyl, hnl, hru, hyes, hno⟩ := hat t hlti
  obtain ⟨px, hpx⟩ : ∃ px, px = p.getD x default := ⟨_, rfl⟩
  obtain ⟨py, hpy⟩ : ∃ py, py = p.getD y default := ⟨_, rfl⟩
  obtain ⟨nm, hnm⟩ : ∃ nm, nm = (l.getD n default).name := ⟨_, rfl⟩
  have okx := hpok x hxl
  have oky := hpok y hyl
  rw [← hpx, ← hpy, ← hnm] at hz0
  rw [← hpx, ← hpy] at hru
  rw [← hpx] at okx
  rw [← hpy] at oky
  have hde : decE l px py = 0 := by
    unfold decE
    rw [if_neg (fun h => h hz), if_pos ⟨okx, oky⟩]
  have hxg : x < gs.length := by omega
  obtain ⟨gx, hgx⟩ : ∃ gx, gx = gs[x] := ⟨_, rfl⟩
  have hpgx : profOf f s gx = px := by
    rw [hpx, hgx, List.getD_eq_getElem?_getD, List.getElem?_eq_getElem hxl]
    show _ = p[x]
    subst hpe
    exact (List.getElem_map _).symm
  have hgx64 : In64 gx.1 := by rw [hgx]; exact hg _ (List.getElem_mem _)
  have hgchk : chkR f 0 s [gx] = 0 := by
    have h1 : gchk [gx] = 0 := by rw [hgx]; exact gchk_one hgz hxg
    unfold chkR firstE
    rw [if_neg (fun h => h hcf), if_neg (fun h => h rfl), if_neg (fun h => h hsz), h1]
  have hholds := ruled_holds hru
  have hmem := fires_mem hnl hholds
  have cause : ∀ {w' : World}, Ext w8' w' → ∃ b o, A2 = some ⟨b, o, none⟩ ∧ Rd w' b (o + t * 19) (Cause.mk (x : Nat) (y : Nat) px py (n : Nat) nm (!is)).cells := fun ee => by
    obtain ⟨b1, o1, h1, h2⟩ := (hHL.ext ee).at (k := 19) (fun _ => rfl) (by omega) hlti
    rw [hz0] at h2
    exact ⟨b1, o1, h1, h2⟩
  obtain ⟨b1, o1, hA1, hc1⟩ := cause e9
  refine ⟨Snd.seq (Snd.block (Snd.go C_ok plans9 (by kernel_rfl) ?_))⟩
  refine ⟨[.slice R l.length cl], rfl, M.rd 2 rfl, ?_⟩
  refine ⟨t, b1, o1, rfl, hlti, hA1, ?_⟩
  refine ⟨px.cells, rfl, hc1.part (Cause.own_part (Cause.mk (x : Nat) (y : Nat) px py (n : Nat) nm (!is))), ?_⟩
  refine ⟨t, b1, o1, rfl, hlti, hA1, ?_⟩
  refine ⟨py.cells, rfl, hc1.part (Cause.other_part (Cause.mk (x : Nat) (y : Nat) px py (n : Nat) nm (!is))), ?_⟩
  obtain ⟨e0, he0⟩ : ∃ e0, e0 = decE l px py := ⟨_, rfl⟩
  have Z := Fires_spec (hR.ext M.ext) px py
  rw [if_pos hde, ← he0] at Z
  refine Z.mono ?_
  clear Z
  have he00 : e0 = 0 := he0.trans hde
  rintro v w10 ⟨⟨uf, rfl, hfi⟩, e10⟩
  have e810 := e9.trans e10
  have M := M.grow e10
  obtain ⟨Af, cf, rfl, hrf, _⟩ := hfi.slice
  obtain ⟨FL, hFL⟩ : ∃ FL, FL = firesTo l px py l.length := ⟨_, rfl⟩
  have hFl := firesTo_len l px py l.length
  have hl24 := (chkRl_zero hz).1
  rw [← hFL] at hfi hrf hFl hmem ⊢
  obtain ⟨b1, o1, hA1, hc1⟩ := cause e810
  refine ⟨Snd.join C_ok plans9 (fun g : Nat => [(0, .slice A f.length c), (3, .slice B gs.length d), (4, .slice Q ps.length e), (5, .int .i64 (i : Nat)), (6, .int .i64 (j : Nat)), (8, .pointer (some ⟨g8, 0, none⟩)), (9, .pointer (some ⟨g9, 0, none⟩)), (15, .pointer (some ⟨g15, 0, none⟩)), (17, .slice A2 L.length c2), (19, .slice Ac ch.length cc), (20, .bool is), (21, .int .i64 (t : Nat)), (22, .slice Af FL.length cf), (23, .int .i64 e0), (24, .pointer (some ⟨g, 0, none⟩)), (25, .int .i64 (chkR f 0 s [gx]))])
    (fun g w' => Ext w10 w' ∧ w'.heap[g]? = some (.cells px.cells.toArray 38 (0, 0))) (by kernel_rfl) ?_ ?_⟩
  · obtain ⟨bg, og, hBg, hcg⟩ := prRd (hr.ext M.ext) hxg
    rw [← hgx] at hcg
    refine ⟨s.cells, rfl, M.rd 1 rfl, ?_⟩
    refine ⟨t, b1, o1, rfl, hlti, hA1, ?_⟩
    refine ⟨_, hc1 0 _ rfl, ?_⟩
    refine ⟨x, bg, og, rfl, hxg, hBg, ?_⟩
    refine ⟨guestCells gx, rfl, hcg, ?_⟩
    have hOf : ∀ w', Ext w10 w' → CallsV C.P 16 #[.slice A f.length c, s.val, prVal gx] w' fun v w'' => v = .tuple #[px.val, .int .i64 (chkR f 0 s [gx])] ∧ Ext w' w'' := fun w' ee => by
      have Z := Of_spec (c := c) (hf.ext (M.ext.trans ee)) hl s hgx64
      rw [if_pos hgchk, hpgx] at Z
      exact Z
    refine ⟨?A, ?B⟩
    case' A =>
      refine (hOf _ (Ext.refl _)).mono ?_
      rintro v w11 ⟨rfl, e11⟩
      refine ⟨e11, ?_⟩
      intro g w12 h12
      refine ⟨h12.ext, ?_⟩
      have e12 : Ext w10 w12 := e11.trans h12.ext
      have hh : w12.heap[g]? = _ := h12.here
      have hgn : w10.heap.size ≤ g := by rw [h12.new]; exact e11.size
    case' B =>
      intro g w11 h11
      refine ⟨h11.ext, ?_⟩
      refine (hOf _ h11.ext).mono ?_
      rintro v w12 ⟨rfl, e12'⟩
      refine ⟨e12', ?_⟩
      have e12 : Ext w10 w12 := h11.ext.trans e12'
      have hh : w12.heap[g]? = _ := e12'.heap h11.here
      have hgn : w10.heap.size ≤ g := by rw [h11.new]; exact Nat.le_refl _
    all_goals
      refine ⟨rfl, _, _, hh, Nat.le_of_ble_eq_true rfl, rfl, ?_⟩
      intro w13 h13
      have h13 : Put w12 g (.cells px.cells.toArray 38 (0, 0)) w13 := h13
      exact ⟨⟨g, ⟨rfl, rfl, rfl, rfl, rfl, rfl, rfl, rfl, rfl, rfl, rfl, rfl, rfl, rfl, rfl, rfl, trivial⟩, h13.ext_of e12 hgn, h13.here⟩⟩
  rintro g24 w11 ⟨e11, hg24⟩
  obtain ⟨j0, hj0⟩ : ∃ j0, j0 = chkR f 0 s [gx] := ⟨_, rfl⟩
  have hj00 : j0 = 0 := hj0.trans hgchk
  rw [← hj0]
  have e811 := e810.trans e11
  have M := M.grow e11
  obtain ⟨b1, o1, hA1, hc1⟩ := cause e811
  obtain ⟨bb, oo, hRR, hc8⟩ := (hR.ext M.ext).at hnl
  have hc9 := hc8 0 _ rfl
  have hnme : l[n].name = nm := by rw [hnm, List.getD_eq_getElem?_getD, List.getElem?_eq_getElem hnl]; rfl
  rw [hnme] at hc9
  refine Snd.go C_ok plans9 (by kernel_rfl) ?_
  refine brE_ndec (fun h => absurd he00 h) (fun _ => ?_)
  refine brE_ndec (fun h => absurd hj00 h) (fun _ => ?_)
  refine ⟨px.cells, rfl, Rd.of_block hg24, ?_⟩
  refine ⟨t, b1, o1, rfl, hlti, hA1, ?_⟩
  refine ⟨px.cells, rfl, hc1.part (Cause.own_part (Cause.mk (x : Nat) (y : Nat) px py (n : Nat) nm (!is))), ?_⟩
  refine ⟨_, neqPf_self _ _ px, ?_⟩
  refine ⟨t, b1, o1, rfl, hlti, hA1, ?_⟩
  refine ⟨_, hc1 16 _ rfl, ?_⟩
  refine (lawHas_spec (hrf.ext e11) (by omega) (n : Nat)).mono ?_
  rintro v w12 ⟨rfl, rfl⟩
  refine brE_ndec (fun h => absurd hmem h) (fun _ => ?_)
  refine ⟨_, M.cell 2 rfl rfl, ?_⟩
  refine ⟨t, b1, o1, rfl, hlti, hA1, ?_⟩
  refine ⟨_, hc1 16 _ rfl, ?_⟩
  refine ⟨n, bb, oo, rfl, hnl, hRR, ?_⟩
  refine ⟨_, hc9, ?_⟩
  refine ⟨t, b1, o1, rfl, hlti, hA1, ?_⟩
  refine ⟨_, hc1 17 _ rfl, ?_⟩
  refine ⟨_, neqStr _ _ nm nm, ?_⟩
  refine brE_ndec (fun h => absurd rfl h) (fun _ => ?_)
  refine ⟨t, b1, o1, rfl, hlti, hA1, ?_⟩
  refine ⟨_, hc1 18 _ rfl, ?_⟩
  refine ⟨_, eqUnlike4 _ _ (a := !is) (b := is) (by cases is <;> rfl), ?_⟩
  obtain ⟨ar, ea, har⟩ : ∃ ar : Arrow, arrowVal (arrowS N X (x : Nat) (y : Nat)) = .tuple #[ar.val, .bool is] ∧ (is = true → ar.rule = ((n : Nat) : Int)) := by
    cases hh : is with
    | true =>
      obtain ⟨⟨ar, h1, h2⟩, _⟩ := hyes hh
      refine ⟨ar, by rw [h1]; rfl, fun _ => h2⟩
    | false =>
      obtain ⟨h1, _⟩ := hno hh
      exact ⟨arrowZ, by rw [h1]; rfl, fun h => by cases h⟩
  refine ⟨Snd.join C_ok plans9 (fun g : Nat => [(0, .slice A f.length c), (3, .slice B gs.length d), (4, .slice Q ps.length e), (5, .int .i64 (i : Nat)), (6, .int .i64 (j : Nat)), (8, .pointer (some ⟨g8, 0, none⟩)), (9, .pointer (some ⟨g9, 0, none⟩)), (15, .pointer (some ⟨g15, 0, none⟩)), (17, .slice A2 L.length c2), (19, .slice Ac ch.length cc), (20, .bool is), (21, .int .i64 (t : Nat)), (26, .pointer (some ⟨g, 0, none⟩)), (27, .bool is)])
    (fun g w' => Ext w12 w' ∧ w'.heap[g]? = some (.cells ar.cells.toArray 60 (0, 0))) (by kernel_rfl) ?_ ?_⟩
  · refine ⟨[.int .i64 N, .slice A1 X.length c1], rfl, M.rd 0 rfl, ?_⟩
    refine ⟨t, b1, o1, rfl, hlti, hA1, ?_⟩
    refine ⟨_, hc1 0 _ rfl, ?_⟩
    refine ⟨t, b1, o1, rfl, hlti, hA1, ?_⟩
    refine ⟨_, hc1 1 _ rfl, ?_⟩
    have hAr : ∀ w', Ext w12 w' → CallsV C.P 22 #[relVal N A1 X.length c1, .int .i64 (x : Nat), .int .i64 (y : Nat)] w' fun v w'' => v = .tuple #[ar.val, .bool is] ∧ Ext w' w'' := fun w' ee => by
      have Z := Arrow_spec (hX64 (e8.trans (e811.trans ee))) (by omega) (x : Nat) (y : Nat)
      rw [ea] at Z
      exact Z
    refine ⟨?A2, ?B2⟩
    case' A2 =>
      refine (hAr _ (Ext.refl _)).mono ?_
      rintro v w13 ⟨rfl, e13⟩
      refine ⟨e13, ?_⟩
      intro g w14 h14
      refine ⟨h14.ext, ?_⟩
      have e14 : Ext w12 w14 := e13.trans h14.ext
      have hh : w14.heap[g]? = _ := h14.here
      have hgn : w12.heap.size ≤ g := by rw [h14.new]; exact e13.size
    case' B2 =>
      intro g w13 h13
      refine ⟨h13.ext, ?_⟩
      refine (hAr _ h13.ext).mono ?_
      rintro v w14 ⟨rfl, e14'⟩
      refine ⟨e14', ?_⟩
      have e14 : Ext w12 w14 := h13.ext.trans e14'
      have hh : w14.heap[g]? = _ := e14'.heap h13.here
      have hgn : w12.heap.size ≤ g := by rw [h13.new]; exact Nat.le_refl _
    all_goals
      refine ⟨rfl, _, _, hh, Nat.le_of_ble_eq_true rfl, rfl, ?_⟩
      intro w15 h15
      have h15 : Put w14 g (.cells ar.cells.toArray 60 (0, 0)) w15 := h15
      exact ⟨⟨g, ⟨rfl, rfl, rfl, rfl, rfl, rfl, rfl, rfl, rfl, rfl, rfl, rfl, rfl, rfl, trivial⟩, h15.ext_of e14 hgn, h15.here⟩⟩
  rintro g26 w13 ⟨e13, hg26⟩
  have e813 := e811.trans e13
  have M := M.grow e13
  obtain ⟨b1, o1, hA1, hc1⟩ := cause e813
  refine Snd.fin C_ok (plans := plans9) (by kernel_rfl) ?_
  refine brE_mk (fun hi => ?_) (fun hi => ?_)
  · obtain ⟨_, hch1, hcx, hcy⟩ := hyes hi
    obtain ⟨Ac', cc', qq, hrd, _⟩ := reads_of_owns (ownsRow_ext hrow e813)
    cases qq
    obtain ⟨d1, p1, hD1, hd1⟩ := Reads.int hrd (i := t) (by omega)
    obtain ⟨d2, p2, hD2, hd2⟩ := Reads.int hrd (i := t + 1) hch1
    rw [hcx] at hd1
    rw [hcy] at hd2
    refine brE_false (by rw [hi]; rfl) ?_
    refine ⟨_, cell_of_block (i := 2) hg26 rfl, ?_⟩
    refine ⟨t, b1, o1, rfl, hlti, hA1, ?_⟩
    refine ⟨_, hc1 16 _ rfl, ?_⟩
    refine brE_ndec (fun h => absurd (har hi) h) (fun _ => ?_)
    refine ⟨t, b1, o1, rfl, hlti, hA1, ?_⟩
    refine ⟨_, hc1 0 _ rfl, ?_⟩
    refine ⟨t, d1, p1, rfl, by omega, hD1, ?_⟩
    refine ⟨_, by simpa using hd1, ?_⟩
    refine brE_ndec (fun h => absurd rfl h) (fun _ => ?_)
    refine ⟨t, b1, o1, rfl, hlti, hA1, ?_⟩
    refine ⟨_, hc1 1 _ rfl, ?_⟩
    refine ⟨_, next, ?_⟩
    refine ⟨t + 1, d2, p2, rfl, hch1, hD2, ?_⟩
    refine ⟨_, by simpa using hd2, ?_⟩
    refine brE_ndec (fun h => absurd rfl h) (fun _ => ?_)
    refine brE_false (by rw [hi]; rfl) ?_
    refine ⟨Snd.fin C_ok (plans := plans9) (by kernel_rfl) ?_⟩
    refine ⟨_, next, ?_⟩
    exact ⟨⟨t + 1, ⟨rfl, rfl, rfl, rfl, rfl, rfl, rfl, rfl, rfl, rfl, rfl, rfl, trivial⟩, ⟨hlti, e813⟩, step⟩⟩
  · obtain ⟨_, hin'⟩ := hno hi
    refine brE_true (by rw [hi]; rfl) ?_
    refine brE_false hi ?_
    refine (Has_spec (hrp.ext M.ext) (by omega) _ _).mono ?_
    rintro v w14 ⟨rfl, rfl⟩
    refine brE_ndec (fun h => absurd hin' h) (fun _ => ?_)
    refine ⟨Snd.fin C_ok (plans := plans9) (by kernel_rfl) ?_⟩
    refine ⟨_, next, ?_⟩
    exact ⟨⟨t + 1, ⟨rfl, rfl, rfl, rfl, rfl, rfl, rfl, rfl, rfl, rfl, rfl, rfl, trivial⟩, ⟨hlti, e813⟩, step⟩⟩
end Go.Proofs.YtdpdjcopkehdjaaGreat.Rk
namespace Go.Proofs.YtdpdjcopkehdjaaGreat.Rk
open Go.Eng Go.RowKit Go.ChangeShapes Go.WideShapes Go.ChangeAt
theorem flat_range {α : Type} {enc : α → List Value} {k : Nat} (hk : ∀ x, (enc x).length = k) (k0 : 0 < k) (f : Nat → α) (n i : Nat) (v : Value) (h : (((List.range n).map f).flatMap enc)[i]? = some v) : ∃ q j, q < n ∧ j < k ∧ i = q * k + j ∧ (enc (f q))[j]? = some v := by
  have hl := flat_length hk ((List.range n).map f)
  have hi := (List.getElem?_eq_some_iff.1 h).1
  rw [hl] at hi
  simp at hi
  have hq : i / k < n := Nat.div_lt_of_lt_mul (by rw [Nat.mul_comm]; exact hi)
  have hq' : i / k < ((List.range n).map f).length := by simpa using hq
  have hj : i % k < k := Nat.mod_lt _ k0
  have e : i / k * k + i % k = i := Nat.div_add_mod' i k
  refine ⟨i / k, i % k, hq, hj, e.symm, ?_⟩
  have := flat_get hk ((List.range n).map f) (i / k) (i % k) hq' hj
  rw [e, h] at this
  rw [this]
  simp
section
variable {H : Type} {enc : TypeId × Value → H} {W : World}
set_option maxRecDepth 100000 in
theorem open_row {α : Type} [Inhabited α] {ec : α → List Value} {k TS T n : Nat} {Pn : α → Prop} (hk : ∀ x, (ec x).length = k) (k0 : 0 < k) (hfirst : ∀ (a : Addr) (y : α), W.cell? a = (ec y)[0]? → a.spot = none)
    (hu : Tryz.prog.underlying TS = some (.slice T)) (hcl : Tryz.prog.cellsOf T = k)
    (ho : ∀ {cs : List Value} {x : DataW H × List MemPlace}, DataW.trod enc Tryz.prog W 0 (fun _ => true) true n T cs = some x → ∃ y : α, cs = ec y ∧ Pn y)
    {cs : List Value} {x : DataW H × List MemPlace} (h : DataW.trod enc Tryz.prog W 0 (fun _ => true) true (n + 1) TS cs = some x) :
    ∃ A l c, cs = [.slice A l.length c] ∧ HL ec W A l c ∧ ∀ y ∈ l, Pn y := by
  rcases DataW.trod_slice hu h with ⟨e1, _⟩ | ⟨a, len, cap, elems, rest, n', hn, e1, _, hb, hl, hm, hlen, hel, hsp, hns⟩
  · exact ⟨none, [], 0, e1, ⟨.inl rfl, Nat.le_refl _, by simp⟩, by simp⟩
  · obtain rfl : n = n' := by omega
    rw [hcl] at hel
    obtain ⟨f, hf2⟩ := Deep.choose_lt (n := len) (p := fun i (y : α) => W.cells? 0 (a.add (i * k)) k = some (ec y) ∧ Pn y) (fun i hi => by
      have h1 := hel i hi
      rw [List.getElem?_eq_getElem (by omega)] at h1
      obtain ⟨cs', h2, h3⟩ := Option.bind_eq_some_iff.1 h1
      obtain ⟨y, rfl, hy⟩ := ho h3
      exact ⟨y, h2, hy⟩)
    have hll : ((List.range len).map f).length = len := by simp
    refine ⟨some a, (List.range len).map f, cap, by rw [hll]; exact e1, ⟨?_, by rw [hll]; exact hl, by rw [hll]; simp only [maxLen] at hm; omega⟩, ?_⟩
    · by_cases h0 : len = 0
      · subst h0; exact .inl rfl
      · have hc : ∀ i < len, ∀ j < k, W.cell? ((a.add (i * k)).add j) = (ec (f i))[j]? := fun i hi j hj => (World.cells?_some (hf2 i (by omega)).1).2.2 j hj
        have hs : a.spot = none := by
          have h1 := hc 0 (by omega) 0 k0
          have e0 : (a.add (0 * k)).add 0 = a := by
            rw [Nat.zero_mul]; rfl
          rw [e0] at h1
          exact hfirst a _ h1
        obtain ⟨b, o, sp⟩ := a
        simp only at hs
        subst hs
        refine .inr ⟨b, o, rfl, fun i v hv => ?_⟩
        obtain ⟨q, j, hq, hj, rfl, hg⟩ := flat_range hk k0 f len i v hv
        have := hc q hq j hj
        rw [hg] at this
        rw [← this]
        rw [add_spot, add_spot, Nat.add_assoc]
    · intro y hy
      obtain ⟨i, hi, rfl⟩ := List.mem_map.1 hy
      exact (hf2 i (by have := List.mem_range.1 hi; omega)).2
theorem cellsT : Tryz.prog.cellsOf 70 = 5 := by kernel_rfl
theorem cellsTs : Tryz.prog.cellsOf 68 = 1 := by kernel_rfl
theorem cellsRl : Tryz.prog.cellsOf 72 = 8 := by kernel_rfl
theorem cellsRls : Tryz.prog.cellsOf 27 = 1 := by kernel_rfl
theorem cellsRs : Tryz.prog.cellsOf 29 = 1 := by kernel_rfl
theorem recRs : Tryz.prog.readableRec 29 = true := by kernel_rfl
theorem rowRs : (29 : TypeId) < Tryz.prog.types.size := of_decide_eq_true (by kernel_rfl)
theorem underTs : Tryz.prog.underlying 68 = some (.slice 70) := by kernel_rfl
theorem underRls : Tryz.prog.underlying 27 = some (.slice 72) := by kernel_rfl
theorem underT : Tryz.prog.underlying 70 = some (.struct #[⟨ "Op", 5, 0, false, "", "", 0⟩, ⟨ "Attr", 5, 1, false, "", "", 1⟩, ⟨ "Side", 5, 2, false, "", "", 2⟩, ⟨ "N", 3, 3, false, "", "", 8⟩, ⟨ "Of", 68, 4, false, "", "", 16⟩]) := by kernel_rfl
theorem underRl : Tryz.prog.underlying 72 = some (.struct #[⟨ "Name", 9, 0, false, "", "", 0⟩, ⟨ "Rank", 3, 1, false, "", "", 16⟩, ⟨ "Weight", 3, 2, false, "", "", 24⟩, ⟨ "If", 70, 3, false, "", "", 32⟩]) := by kernel_rfl
theorem underRs : Tryz.prog.underlying 29 = some (.struct #[⟨ "List", 27, 0, false, "", "", 0⟩]) := by kernel_rfl
theorem list5' {l : List Value} (h : l.length = 5) : ∃ a b c d e, l = [a, b, c, d, e] := by
  match l, h with
  | [a, b, c, d, e], _ => exact ⟨a, b, c, d, e, rfl⟩
set_option maxRecDepth 100000 in
theorem open_test (fuel : Nat) : ∀ {cs : List Value} {x : DataW H × List MemPlace}, DataW.trod enc Tryz.prog W 0 (fun _ => true) true fuel 70 cs = some x → ∃ t : Tst, cs = t.cells ∧ TestIs W t := by
  induction fuel using Nat.strongRecOn with
  | _ fuel ih =>
  intro cs x h
  obtain ⟨xs, n, hfu, _, hlen, hxs, hg⟩ := DataW.trod_struct underT h
  rw [cellsT] at hlen
  obtain ⟨a0, a1, a2, a3, a4, rfl⟩ := list5' hlen
  have some5 : ∀ i, i < 5 → ∃ y, xs[i]? = some y := fun i hi => ⟨_, List.getElem?_eq_getElem (by rw [hxs]; exact hi)⟩
  obtain ⟨y0, hy0⟩ := some5 0 (by omega)
  obtain ⟨y1, hy1⟩ := some5 1 (by omega)
  obtain ⟨y2, hy2⟩ := some5 2 (by omega)
  obtain ⟨y3, hy3⟩ := some5 3 (by omega)
  obtain ⟨y4, hy4⟩ := some5 4 (by omega)
  have f0 : DataW.trod enc Tryz.prog W 0 (fun _ => true) true n 5 (([a0, a1, a2, a3, a4].drop 0).take (Tryz.prog.cellsOf 5)) = xs[0]? := hg 0 _ rfl
  have f1 : DataW.trod enc Tryz.prog W 0 (fun _ => true) true n 5 (([a0, a1, a2, a3, a4].drop 1).take (Tryz.prog.cellsOf 5)) = xs[1]? := hg 1 _ rfl
  have f2 : DataW.trod enc Tryz.prog W 0 (fun _ => true) true n 5 (([a0, a1, a2, a3, a4].drop 2).take (Tryz.prog.cellsOf 5)) = xs[2]? := hg 2 _ rfl
  have f3 : DataW.trod enc Tryz.prog W 0 (fun _ => true) true n 3 (([a0, a1, a2, a3, a4].drop 3).take (Tryz.prog.cellsOf 3)) = xs[3]? := hg 3 _ rfl
  have f4 : DataW.trod enc Tryz.prog W 0 (fun _ => true) true n 68 (([a0, a1, a2, a3, a4].drop 4).take (Tryz.prog.cellsOf 68)) = xs[4]? := hg 4 _ rfl
  rw [cells5, hy0] at f0
  rw [cells5, hy1] at f1
  rw [cells5, hy2] at f2
  rw [cells3, hy3] at f3
  rw [cellsTs, hy4] at f4
  obtain ⟨z0, q0, _, w0⟩ := DataW.trod_int under5 f0
  obtain ⟨z1, q1, _, w1⟩ := DataW.trod_int under5 f1
  obtain ⟨z2, q2, _, w2⟩ := DataW.trod_int under5 f2
  obtain ⟨z3, q3, _, w3⟩ := DataW.trod_int under3 f3
  have hn : ∃ m, n = m + 1 := by
    cases n with
    | zero => simp [DataW.trod] at f4
    | succ m => exact ⟨m, rfl⟩
  obtain ⟨m, rfl⟩ := hn
  obtain ⟨A, l, c, q4, hHL, hkids⟩ := open_row (ec := Tst.cells) (k := 5) (n := m) (Pn := TestIs W) Tst.len (by omega) (fun a y h2 => by
    have h2 : W.cell? a = some (.int .u8 y.op) := h2
    unfold World.cell? at h2
    cases hsp : a.spot with
    | none => rfl
    | some s =>
      simp only [hsp] at h2
      split at h2 <;> simp at h2) underTs cellsT (fun hh => ih m (by omega) hh) f4
  simp at q0 q1 q2 q3 q4
  subst q0 q1 q2 q3 q4
  exact ⟨.mk z0 z1 z2 z3 A c l, rfl, .mk ⟨wf_u8 w0, wf_u8 w1, wf_u8 w2, wf_in64 w3⟩ hHL.reads hHL.len hHL.cap hkids⟩
set_option maxRecDepth 100000 in
theorem open_rule {fuel : Nat} {cs : List Value} {x : DataW H × List MemPlace} (h : DataW.trod enc Tryz.prog W 0 (fun _ => true) true fuel 72 cs = some x) : ∃ t : Rl, cs = t.cells ∧ RuleIs W t := by
  obtain ⟨xs, n, _, _, hlen, hxs, hg⟩ := DataW.trod_struct underRl h
  rw [cellsRl] at hlen
  have some4 : ∀ i, i < 4 → ∃ y, xs[i]? = some y := fun i hi => ⟨_, List.getElem?_eq_getElem (by rw [hxs]; exact hi)⟩
  obtain ⟨y0, hy0⟩ := some4 0 (by omega)
  obtain ⟨y1, hy1⟩ := some4 1 (by omega)
  obtain ⟨y2, hy2⟩ := some4 2 (by omega)
  obtain ⟨y3, hy3⟩ := some4 3 (by omega)
  have f0 : DataW.trod enc Tryz.prog W 0 (fun _ => true) true n 9 ((cs.drop 0).take (Tryz.prog.cellsOf 9)) = xs[0]? := hg 0 _ rfl
  have f1 : DataW.trod enc Tryz.prog W 0 (fun _ => true) true n 3 ((cs.drop 1).take (Tryz.prog.cellsOf 3)) = xs[1]? := hg 1 _ rfl
  have f2 : DataW.trod enc Tryz.prog W 0 (fun _ => true) true n 3 ((cs.drop 2).take (Tryz.prog.cellsOf 3)) = xs[2]? := hg 2 _ rfl
  have f3 : DataW.trod enc Tryz.prog W 0 (fun _ => true) true n 70 ((cs.drop 3).take (Tryz.prog.cellsOf 70)) = xs[3]? := hg 3 _ rfl
  rw [cells9, hy0] at f0
  rw [cells3, hy1] at f1
  rw [cells3, hy2] at f2
  rw [cellsT, hy3] at f3
  obtain ⟨s0, q0, _, w0⟩ := DataW.trod_string under9 f0
  obtain ⟨z1, q1, _, w1⟩ := DataW.trod_int under3 f1
  obtain ⟨z2, q2, _, w2⟩ := DataW.trod_int under3 f2
  obtain ⟨t, q3, ht⟩ := open_test n f3
  refine ⟨⟨s0, z1, z2, t⟩, ?_, ⟨by simpa [maxLen] using w0, wf_in64 w1, wf_in64 w2, ht⟩⟩
  match cs, hlen, q0, q1, q2, q3 with
  | [a0, a1, a2, a3, a4, a5, a6, a7], _, q0, q1, q2, q3 =>
    simp at q0 q1 q2 q3
    subst q0 q1 q2
    show _ = _ :: _ :: _ :: t.cells
    rw [← q3]
set_option maxRecDepth 100000 in
theorem open_rules {v : Value} {d : DataW H} {p : List MemPlace} {b0 : Nat} (hv : Value.okWide Tryz.prog W .any b0 29 v) (h : DataW.Trod enc Tryz.prog W 0 (fun _ => true) true 29 v d p) :
    ∃ R l c, v = .agg #[.slice R l.length c] ∧ HRs W R l c := by
  obtain ⟨cs, rfl, hsz⟩ := okWide_struct underRs hv
  obtain ⟨fuel, hf⟩ := h
  obtain ⟨xs, n, _, _, hlen, hxs, hg⟩ := DataW.trod_struct underRs hf
  obtain ⟨y0, hy0⟩ : ∃ y, xs[0]? = some y := ⟨_, List.getElem?_eq_getElem (by rw [hxs]; exact Nat.zero_lt_one)⟩
  have f0 : DataW.trod enc Tryz.prog W 0 (fun _ => true) true n 27 (((Value.agg cs).cells.toList.drop 0).take (Tryz.prog.cellsOf 27)) = xs[0]? := hg 0 _ rfl
  rw [cellsRls, hy0] at f0
  have hn : ∃ m, n = m + 1 := by
    cases n with
    | zero => simp [DataW.trod] at f0
    | succ m => exact ⟨m, rfl⟩
  obtain ⟨m, rfl⟩ := hn
  obtain ⟨R, l, c, q, hHL, hk⟩ := open_row (ec := Rl.cells) (k := 8) (n := m) (Pn := RuleIs W) Rl.len (by omega) (fun a y h2 => by
    have h2 : W.cell? a = some (.string y.name) := h2
    unfold World.cell? at h2
    cases hsp : a.spot with
    | none => rfl
    | some s =>
      simp only [hsp] at h2
      split at h2 <;> simp at h2) underRls cellsRl (fun hh => open_rule hh) f0
  refine ⟨R, l, c, ?_, hHL, hk⟩
  have hl1 : cs.toList.length = 1 := by simpa [cellsRs] using hsz
  congr 1
  apply Array.ext'
  have : (Value.agg cs).cells.toList = cs.toList := rfl
  rw [this] at q
  rw [List.drop_zero, List.take_of_length_le (by omega)] at q
  exact q
end
section
variable {H : Type} {enc : TypeId × Value → H} {P : Program} {w : World} {base : Nat} {spare : Nat → Bool} {held : Bool}
theorem trodAll_mkn5 {t0 t1 t2 t3 t4 : TypeId} {v0 v1 v2 v3 v4 : Value} {d0 d1 d2 d3 d4 : DataW H} {p0 p1 p2 p3 p4 : List MemPlace} (h0 : DataW.Trod enc P w base spare held t0 v0 d0 p0) (h1 : DataW.Trod enc P w base spare held t1 v1 d1 p1) (h2 : DataW.Trod enc P w base spare held t2 v2 d2 p2) (h3 : DataW.Trod enc P w base spare held t3 v3 d3 p3) (h4 : DataW.Trod enc P w base spare held t4 v4 d4 p4) :
    DataW.TrodAll enc P w base spare held [t0, t1, t2, t3, t4] [v0, v1, v2, v3, v4] [d0, d1, d2, d3, d4] (p0 ++ (p1 ++ (p2 ++ (p3 ++ (p4))))) := ⟨p0, _, h0, trodAll_mk4 h1 h2 h3 h4, rfl⟩
theorem trodAll_mkn6 {t0 t1 t2 t3 t4 t5 : TypeId} {v0 v1 v2 v3 v4 v5 : Value} {d0 d1 d2 d3 d4 d5 : DataW H} {p0 p1 p2 p3 p4 p5 : List MemPlace} (h0 : DataW.Trod enc P w base spare held t0 v0 d0 p0) (h1 : DataW.Trod enc P w base spare held t1 v1 d1 p1) (h2 : DataW.Trod enc P w base spare held t2 v2 d2 p2) (h3 : DataW.Trod enc P w base spare held t3 v3 d3 p3) (h4 : DataW.Trod enc P w base spare held t4 v4 d4 p4) (h5 : DataW.Trod enc P w base spare held t5 v5 d5 p5) :
    DataW.TrodAll enc P w base spare held [t0, t1, t2, t3, t4, t5] [v0, v1, v2, v3, v4, v5] [d0, d1, d2, d3, d4, d5] (p0 ++ (p1 ++ (p2 ++ (p3 ++ (p4 ++ (p5)))))) := ⟨p0, _, h0, trodAll_mkn5 h1 h2 h3 h4 h5, rfl⟩
theorem trodAll_n7 {t0 t1 t2 t3 t4 t5 t6 : TypeId} {args : Array Value} {ds : List (DataW H)} {ps : List MemPlace} (h : DataW.TrodAll enc P w base spare held [t0, t1, t2, t3, t4, t5, t6] args.toList ds ps) :
    ∃ v0 v1 v2 v3 v4 v5 v6 d0 d1 d2 d3 d4 d5 d6 p0 p1 p2 p3 p4 p5 p6, args = #[v0, v1, v2, v3, v4, v5, v6] ∧ ds = [d0, d1, d2, d3, d4, d5, d6] ∧ ps = p0 ++ (p1 ++ (p2 ++ (p3 ++ (p4 ++ (p5 ++ (p6)))))) ∧ DataW.Trod enc P w base spare held t0 v0 d0 p0 ∧ DataW.Trod enc P w base spare held t1 v1 d1 p1 ∧ DataW.Trod enc P w base spare held t2 v2 d2 p2 ∧ DataW.Trod enc P w base spare held t3 v3 d3 p3 ∧ DataW.Trod enc P w base spare held t4 v4 d4 p4 ∧ DataW.Trod enc P w base spare held t5 v5 d5 p5 ∧ DataW.Trod enc P w base spare held t6 v6 d6 p6 := by
  obtain ⟨v0, vs0, d0, ds0, p0, q0, hargs, rfl, rfl, h0, r0⟩ := trodAll_cons h
  obtain ⟨v1, vs1, d1, ds1, p1, q1, rfl, rfl, rfl, h1, r1⟩ := trodAll_cons r0
  obtain ⟨v2, vs2, d2, ds2, p2, q2, rfl, rfl, rfl, h2, r2⟩ := trodAll_cons r1
  obtain ⟨v3, vs3, d3, ds3, p3, q3, rfl, rfl, rfl, h3, r3⟩ := trodAll_cons r2
  obtain ⟨v4, vs4, d4, ds4, p4, q4, rfl, rfl, rfl, h4, r4⟩ := trodAll_cons r3
  obtain ⟨v5, vs5, d5, ds5, p5, q5, rfl, rfl, rfl, h5, r5⟩ := trodAll_cons r4
  obtain ⟨v6, vs6, d6, ds6, p6, q6, rfl, rfl, rfl, h6, r6⟩ := trodAll_cons r5
  obtain ⟨rfl, rfl, rfl⟩ := trodAll_nil r6
  exact ⟨v0, v1, v2, v3, v4, v5, v6, d0, d1, d2, d3, d4, d5, d6, p0, p1, p2, p3, p4, p5, p6, by cases args; simp_all, rfl, by simp, h0, h1, h2, h3, h4, h5, h6⟩
theorem trodAll_mkn7 {t0 t1 t2 t3 t4 t5 t6 : TypeId} {v0 v1 v2 v3 v4 v5 v6 : Value} {d0 d1 d2 d3 d4 d5 d6 : DataW H} {p0 p1 p2 p3 p4 p5 p6 : List MemPlace} (h0 : DataW.Trod enc P w base spare held t0 v0 d0 p0) (h1 : DataW.Trod enc P w base spare held t1 v1 d1 p1) (h2 : DataW.Trod enc P w base spare held t2 v2 d2 p2) (h3 : DataW.Trod enc P w base spare held t3 v3 d3 p3) (h4 : DataW.Trod enc P w base spare held t4 v4 d4 p4) (h5 : DataW.Trod enc P w base spare held t5 v5 d5 p5) (h6 : DataW.Trod enc P w base spare held t6 v6 d6 p6) :
    DataW.TrodAll enc P w base spare held [t0, t1, t2, t3, t4, t5, t6] [v0, v1, v2, v3, v4, v5, v6] [d0, d1, d2, d3, d4, d5, d6] (p0 ++ (p1 ++ (p2 ++ (p3 ++ (p4 ++ (p5 ++ (p6))))))) := ⟨p0, _, h0, trodAll_mkn6 h1 h2 h3 h4 h5 h6, rfl⟩
end
end Go.Proofs.YtdpdjcopkehdjaaGreat.Rk
