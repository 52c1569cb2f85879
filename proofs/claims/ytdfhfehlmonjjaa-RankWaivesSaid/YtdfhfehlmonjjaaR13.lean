/- rank: waive, Waive. -/
import Derived.Test.YtdfhfehlmonjjaaR12
namespace Go.Proofs.Ytdfhfehlmonjjaa
open Go.Eng Go.RowKit
open Go.Maps (Keyed)

def prVal (p : Int × Int) : Value := .agg #[.int .i64 p.1, .int .i64 p.2]

theorem laidOut : laidOutB Try.prog = true := by kernel_rfl
theorem row58 : (58 : TypeId) < Try.prog.types.size := of_decide_eq_true (by kernel_rfl)
theorem key58 : Try.prog.keyTypeAt 2 58 = true := by kernel_rfl
theorem keyT58 : Try.prog.keyType 58 = true := by kernel_rfl
theorem cells58 : Try.prog.cellsOf 58 = 2 := by kernel_rfl
theorem cells3 : Try.prog.cellsOf 3 = 1 := by kernel_rfl
theorem under3 : Try.prog.underlying 3 = some (.int .i64) := by kernel_rfl
theorem u58 : Try.prog.underlying 58 = some (.struct #[⟨ "A", 3, 0, false, "", "", 0⟩, ⟨ "B", 3, 1, false, "", "", 8⟩]) := by kernel_rfl
theorem pairK : Keyed C.P 58 := Keyed.of_law (deep_law_laid laidOut (m := 2) (by omega) row58 key58 (by rw [u58]))

theorem wf64 {a : Int} (h : In64 a) : (Lit.int .i64 a).wf = true := by
  simp [Lit.wf, IntKind.min, IntKind.max, IntKind.bits, IntKind.signed]
  omega

theorem succ_of_lt {k n : Nat} (h : k < n) : ∃ m, n = m + 1 := ⟨n - 1, by omega⟩

theorem pairKey {p : Int × Int} (h1 : In64 p.1) (h2 : In64 p.2) : keyOf C.P 58 (prVal p) = some (.string (keyBytes [.int .i64 p.1, .int .i64 p.2])) := by
  show keyOf Try.prog 58 _ = _
  have w1 := wf64 h1
  have w2 := wf64 h2
  obtain ⟨m, hm⟩ : ∃ m, Try.prog.types.size = m + 1 := succ_of_lt row58
  have hk : Try.prog.keyLits (m + 2) 58 [.int .i64 p.1, .int .i64 p.2] = some [.int .i64 p.1, .int .i64 p.2] := by
    simp [Program.keyLits, u58, cells58, cells3, under3, w1, w2]
  simp [keyOf, u58, keyT58, prVal, Value.formed, cells58, Value.cells, hm, hk]

/-- What a map holds in which pairs were put. -/
noncomputable def goneV (ps : List (Int × Int)) : Value → Option Value := ps.foldl (fun f p => updV f (prVal p) (.bool true)) fun _ => none

theorem goneV_snoc (ps : List (Int × Int)) (p : Int × Int) : goneV (ps ++ [p]) = updV (goneV ps) (prVal p) (.bool true) := by simp [goneV]

theorem prVal_inj {p q : Int × Int} (h : prVal p = prVal q) : p = q := by
  obtain ⟨a, b⟩ := p
  obtain ⟨c, d⟩ := q
  simp [prVal] at h
  obtain ⟨rfl, rfl⟩ := h
  rfl

theorem goneV_get (ps : List (Int × Int)) (q : Int × Int) : goneV ps (prVal q) = if q ∈ ps then some (.bool true) else none := by
  suffices h : ∀ (l : List (Int × Int)) (f : Value → Option Value), (l.foldl (fun f p => updV f (prVal p) (.bool true)) f) (prVal q) = if q ∈ l then some (.bool true) else f (prVal q) from h ps _
  intro l
  induction l with
  | nil => intro f; simp
  | cons p l ih =>
    intro f
    rw [List.foldl_cons, ih]
    by_cases h1 : q ∈ l
    · simp [h1]
    · by_cases h2 : q = p
      · subst h2; simp [h1, updV]
      · simp [h1, h2, updV]
        intro h3
        exact absurd (prVal_inj h3) h2

def waiveL (xs : List Arrow) (ps : List (Int × Int)) : List Arrow := xs.filter fun x => !decide ((x.fr, x.to) ∈ ps)

theorem waiveL_take {xs : List Arrow} {ps : List (Int × Int)} {i : Nat} (hi : i < xs.length) : waiveL (xs.take (i + 1)) ps = if (xs[i].fr, xs[i].to) ∈ ps then waiveL (xs.take i) ps else waiveL (xs.take i) ps ++ [xs[i]] := by
  unfold waiveL
  rw [List.take_succ_eq_append_getElem hi, List.filter_append]
  by_cases h : (xs[i].fr, xs[i].to) ∈ ps <;> simp [h]

theorem waiveL_length (xs : List Arrow) (ps : List (Int × Int)) : (waiveL xs ps).length ≤ xs.length := List.length_filter_le _ _

theorem prCells_get {ps : List (Int × Int)} {i : Nat} (hi : i < ps.length) (j : Nat) (v : Value) (h : ([.int .i64 ps[i].1, .int .i64 ps[i].2] : List Value)[j]? = some v) : (prCells ps)[i * 2 + j]? = some v := by
  induction ps generalizing i with
  | nil => simp at hi
  | cons x xs ih =>
    have hj : j < 2 := by
      have := (List.getElem?_eq_some_iff.1 h).1
      simpa using this
    cases i with
    | zero =>
      simp only [Nat.zero_mul, Nat.zero_add]
      show ([.int .i64 x.1, .int .i64 x.2] ++ prCells xs)[j]? = _
      rw [List.getElem?_append_left (by simpa using hj)]
      exact h
    | succ i =>
      show ([.int .i64 x.1, .int .i64 x.2] ++ prCells xs)[(i + 1) * 2 + j]? = _
      rw [List.getElem?_append_right (by simp; omega)]
      have : (i + 1) * 2 + j - [Value.int .i64 x.1, .int .i64 x.2].length = i * 2 + j := by simp; omega
      rw [this]
      exact ih (by simpa using hi) (by simpa using h)

theorem Reads.pair {w : World} {A : Option Addr} {ps : List (Int × Int)} (h : Reads w A (prCells ps)) {i : Nat} (hi : i < ps.length) : ∃ b o, A = some ⟨b, o, none⟩ ∧ Rd w b (o + i * 2) [.int .i64 ps[i].1, .int .i64 ps[i].2] := by
  rcases h with h | ⟨b, o, hA, hr⟩
  · have := congrArg List.length h
    rw [prCells_length] at this
    have : ps.length * 2 = 0 := this
    omega
  · refine ⟨b, o, hA, fun j v hv => ?_⟩
    have := hr _ _ (prCells_get hi j v hv)
    rwa [← Nat.add_assoc] at this

theorem own_ne {w : World} {base e size n g : Nat} {v : Value} {xs : List Value} {o : Obj} (h : w.ownsRow base e size v n xs) (hg : w.heap[g]? = some o) (ho : ∀ c fr, o ≠ .cells c e fr) : some g ≠ v.ownBlock := by
  intro e
  obtain ⟨_, hv | ⟨g', cap, cur, hv, _, hg', _⟩⟩ := h
  · rw [hv.1] at e; cases e
  · rw [hv] at e
    have e : g = g' := by simpa [Value.ownBlock] using e
    subst e
    rw [hg] at hg'
    exact ho _ _ (Option.some.inj hg')

theorem arrows_append (xs ys : List Arrow) : arrows (xs ++ ys) = arrows xs ++ arrows ys := by simp [arrows]

theorem waive_spec {N : Int} {A B : Option Addr} {xs : List Arrow} {c d : Nat} {ps : List (Int × Int)} {w : World} (h : HRel w N A xs c) (hx : xs.length ≤ 2 ^ 40) (hp : ∀ p ∈ ps, In64 p.1 ∧ In64 p.2) (hr : Reads w B (prCells ps)) (hpl : ps.length ≤ 2 ^ 44) :
    CallsV C.P 74 #[relVal N A xs.length c, .slice B ps.length d] w fun v w' => (∃ A' c', v = relVal N A' (waiveL xs ps).length c' ∧ w'.ownsRow w.heap.size 43 4 (.slice A' (waiveL xs ps).length c') (waiveL xs ps).length (arrows (waiveL xs ps))) ∧ Ext w w' := by
  refine callsV_of C_ok (args := [_, _]) (plans := []) Try.func74 rfl Try.ntmps74 (by kernel_rfl) (Nat.le_of_ble_eq_true rfl) ?_
  intro g2 w1 h1
  intro g4 w2 h2
  intro gm w3 h3
  have M3 := (((Mem.start w).alloc h1).alloc h2).alloc h3
  refine loopE C_ok (fun (i : Nat) => [(2, .pointer (some ⟨g2, 0, none⟩)), (4, .pointer (some ⟨g4, 0, none⟩)), (5, .map (some gm)), (12, .slice B ps.length d), (13, .int .i64 ps.length), (14, .int .i64 i)])
    (fun i w' => i ≤ ps.length ∧ (∃ om, Mem w w' [(gm, om), (g4, .cells #[.int .i64 0, .slice none 0 0] 24 (0, 0)), (g2, .cells #[.int .i64 N, .slice A xs.length c] 24 (0, 0))]) ∧ MapIs C.P 58 w' gm (goneV (ps.take i)))
    (fun i => ps.length - i) 0 ⟨rfl, rfl, rfl, rfl, rfl, rfl, trivial⟩ ⟨Nat.zero_le _, ⟨_, M3⟩, MapIs.empty h3.here⟩ ?_
  rintro i w4 ⟨hi, ⟨om, M4⟩, hmap⟩
  refine brE_dec (fun hlt => ?_) (fun hge => ?_)
  · have hlt : i < ps.length := by omega
    obtain ⟨b, o, hA, hrd⟩ := Reads.pair (hr.ext M4.ext) hlt
    refine ⟨i, b, o, rfl, hlt, hA, ?_⟩
    refine ⟨[.int .i64 ps[i].1, .int .i64 ps[i].2], rfl, hrd, ?_⟩
    intro g7 w5 h5
    have M5 := M4.alloc h5
    refine ⟨rfl, _, _, M5.get 0 rfl, Nat.le_of_ble_eq_true rfl, rfl, ?_⟩
    intro w6 h6
    have M6 := M5.put 0 rfl h6
    refine ⟨[.int .i64 ps[i].1, .int .i64 ps[i].2], rfl, Rd.of_block h6.here, ?_⟩
    have hpi := hp ps[i] (List.getElem_mem _)
    have hmap6 : MapIs C.P 58 w6 gm (goneV (ps.take i)) := (hmap.ext h5.ext).put h6 (by
      have := M4.lt (g := gm) (o := om) (by simp)
      rw [h5.new]; omega)
    refine mapPut C_ok rfl rfl (x := prVal ps[i]) rfl rfl rfl rfl pairK (pairKey hpi.1 hpi.2) hmap6 ?_
    intro o' w7 h7 hmap7
    have M7 := (M6.put 1 rfl h7).tail
    refine ⟨((i + 1 : Nat) : Int), fit ⟨by omega, by omega⟩, ?_⟩
    refine ⟨i + 1, ⟨rfl, rfl, rfl, rfl, rfl, rfl, trivial⟩, ⟨hlt, ⟨_, M7⟩, ?_⟩, by omega⟩
    rw [List.take_succ_eq_append_getElem hlt, goneV_snoc]
    exact hmap7
  · have : i = ps.length := by omega
    subst this
    rw [List.take_length] at hmap
    refine ⟨_, M4.cell 2 rfl rfl, ?_⟩
    intro g8 w5 h5
    have M5 := M4.alloc h5
    refine ⟨rfl, _, _, M5.get 0 rfl, Nat.le_of_ble_eq_true rfl, rfl, ?_⟩
    intro w6 h6
    have M6 : Mem w w6 [(g8, .cells #[.int .i64 N, .slice none 0 0] 24 (0, 0)), (gm, om), (g4, .cells #[.int .i64 0, .slice none 0 0] 24 (0, 0)), (g2, .cells #[.int .i64 N, .slice A xs.length c] 24 (0, 0))] := M5.put 0 rfl h6
    have hmap6 : MapIs C.P 58 w6 gm (goneV ps) := (hmap.ext h5.ext).put h6 (by
      have := M4.lt (g := gm) (o := om) (by simp)
      rw [h5.new]; omega)
    refine ⟨_, M6.cell 3 rfl rfl, ?_⟩
    refine loopE C_ok (fun (s : Nat × Value) => [(4, .pointer (some ⟨g4, 0, none⟩)), (5, .map (some gm)), (8, .pointer (some ⟨g8, 0, none⟩)), (25, .slice A xs.length c), (26, .int .i64 xs.length), (27, .int .i64 s.1)])
      (fun s w' => s.1 ≤ xs.length ∧ Mem w w' [(g8, .cells #[.int .i64 N, s.2] 24 (0, 0)), (gm, om), (g4, .cells #[.int .i64 0, .slice none 0 0] 24 (0, 0))] ∧ MapIs C.P 58 w' gm (goneV ps) ∧
        w'.ownsRow w.heap.size 43 4 s.2 (waiveL (xs.take s.1) ps).length (arrows (waiveL (xs.take s.1) ps)))
      (fun s => xs.length - s.1) (0, .slice none 0 0) ⟨rfl, rfl, rfl, rfl, rfl, rfl, trivial⟩
      ⟨Nat.zero_le _, M6.sub (List.Sublist.cons_cons _ (List.Sublist.cons_cons _ (List.Sublist.cons_cons _ (List.nil_sublist _)))), hmap6, World.ownsRow_nil _ _ _ _⟩ ?_
    rintro ⟨i, v⟩ w7 ⟨hi, M7, hmap7, ho7⟩
    have hi : i ≤ xs.length := hi
    have M7 : Mem w w7 [(g8, .cells #[.int .i64 N, v] 24 (0, 0)), (gm, om), (g4, .cells #[.int .i64 0, .slice none 0 0] 24 (0, 0))] := M7
    have ho7 : w7.ownsRow w.heap.size 43 4 v (waiveL (xs.take i) ps).length (arrows (waiveL (xs.take i) ps)) := ho7
    refine brE_dec (fun hlt => ?_) (fun hge => ?_)
    · have hlt : i < xs.length := by have : (i : Int) < xs.length := hlt; omega
      obtain ⟨b, o, hA, hrd⟩ := Reads.arrow h.reads hlt
      refine ⟨i, b, o, rfl, hlt, hA, ?_⟩
      refine ⟨xs[i].cells, rfl, M7.oldRd hrd, ?_⟩
      intro g10 w8 h8
      have M8 := M7.alloc h8
      refine ⟨rfl, _, _, M8.get 0 rfl, Nat.le_of_ble_eq_true rfl, rfl, ?_⟩
      intro w9 h9
      have M9 : Mem w w9 [(g10, .cells xs[i].cells.toArray 43 (0, 0)), (g8, .cells #[.int .i64 N, v] 24 (0, 0)), (gm, om), (g4, .cells #[.int .i64 0, .slice none 0 0] 24 (0, 0))] := M8.put 0 rfl h9
      have hgm8 := M7.lt (g := gm) (o := om) (by simp)
      have hmap9 : MapIs C.P 58 w9 gm (goneV ps) := (hmap7.ext h8.ext).put h9 (by rw [h8.new]; omega)
      have hne10 : v.ownBlock ≠ some g10 := by
        intro e
        have := (ho7.lt g10 e).2
        rw [h8.new] at this
        exact Nat.lt_irrefl _ this
      have ho9 : w9.ownsRow w.heap.size 43 4 v (waiveL (xs.take i) ps).length (arrows (waiveL (xs.take i) ps)) := ownsRow_put (ownsRow_ext ho7 h8.ext) h9 hne10
      refine ⟨_, M9.cell 0 rfl rfl, ?_⟩
      refine ⟨_, M9.cell 0 rfl rfl, ?_⟩
      have hnum := h.nums xs[i] (List.getElem_mem _)
      have hget : (goneV ps (prVal (xs[i].fr, xs[i].to))).getD (.bool false) = .bool (decide ((xs[i].fr, xs[i].to) ∈ ps)) := by
        rw [goneV_get]
        by_cases hm : (xs[i].fr, xs[i].to) ∈ ps <;> simp [hm]
      have htake := waiveL_take (ps := ps) hlt
      have next : IntKind.i64.wrap ((i : Int) + 1) = ((i + 1 : Nat) : Int) := fit ⟨by omega, by omega⟩
      have hwl := waiveL_length (xs.take i) ps
      have htl : (xs.take i).length ≤ i := by simp; omega
      refine ⟨.bool (decide ((xs[i].fr, xs[i].to) ∈ ps)), mapGet1 C_ok (te := ty4) (x := prVal (xs[i].fr, xs[i].to)) (pairKey hnum.1 hnum.2.1) hmap9 pairK rfl rfl rfl rfl rfl rfl hget, ?_⟩
      refine brE_mk (fun hb => ?_) (fun hb => ?_)
      · have hnm : (xs[i].fr, xs[i].to) ∉ ps := by simpa using hb
        rw [if_neg hnm] at htake
        refine ⟨_, M9.cell 1 rfl rfl, ?_⟩
        refine ⟨xs[i].cells, rfl, M9.rd 0 rfl, ?_⟩
        intro g11 w10 h10
        have M10 := M9.alloc h10
        have ho10 := ownsRow_ext ho9 h10.ext
        refine ⟨rfl, rfl, rfl, w.heap.size, _, _, xs[i].cells, ho10, M10.ext.size, Nat.le_of_ble_eq_true rfl, rfl, rfl, .inr ⟨g11, 0, rfl, Rd.of_block h10.here⟩, rfl, rfl, by omega, by simp only [maxLen]; omega, ?_⟩
        intro v11 w11 ho11 hg11 _
        have M11 : Mem w w11 [(g8, .cells #[.int .i64 N, v] 24 (0, 0)), (gm, om), (g4, .cells #[.int .i64 0, .slice none 0 0] 24 (0, 0))] := by
          refine M10.tail.tail.grown hg11 (fun k hk => (ho10.lt k hk).1) ?_
          intro p hp
          simp only [List.tail_cons, List.mem_cons, List.not_mem_nil, or_false] at hp
          rcases hp with rfl | rfl | rfl
          · exact own_ne ho10 (M10.get 2 rfl) (fun c fr e => by cases e)
          · obtain ⟨es, clk, hb, _⟩ := hmap9.ext h10.ext
            exact own_ne ho10 hb (fun c fr e => by cases e)
          · exact own_ne ho10 (M10.get 4 rfl) (fun c fr e => by cases e)
        have hmap11 : MapIs C.P 58 w11 gm (goneV ps) := by
          obtain ⟨es, clk, hb, _⟩ := hmap9.ext h10.ext
          exact (hmap9.ext h10.ext).same (hg11.block gm (lt_of_heap hb) (own_ne ho10 hb (fun c fr e => by cases e)))
        obtain ⟨A11, c11, rfl, _, _⟩ := reads_of_owns ho11
        refine ⟨rfl, _, _, M11.get 0 rfl, Nat.le_of_ble_eq_true rfl, rfl, ?_⟩
        intro w12 h12
        have M12 := M11.put 0 rfl h12
        refine ⟨_, next, ?_⟩
        refine ⟨(i + 1, _), ⟨rfl, rfl, rfl, rfl, rfl, rfl, trivial⟩, ⟨hlt, M12, hmap11.put h12 (by
          have h5 := M11.nodup
          simp at h5
          exact fun e => h5.1.1 e.symm), ?_⟩, by show xs.length - (i + 1) < xs.length - i; omega⟩
        show w12.ownsRow _ _ _ _ (waiveL (xs.take (i + 1)) ps).length (arrows (waiveL (xs.take (i + 1)) ps))
        rw [htake, List.length_append, arrows_append]
        exact ownsRow_put ho11 h12 (fun e => own_ne ho11 (M11.get 0 rfl) (fun c fr e => by cases e) e.symm)
      · have hm : (xs[i].fr, xs[i].to) ∈ ps := by simpa using hb
        rw [if_pos hm] at htake
        refine ⟨_, next, ?_⟩
        refine ⟨(i + 1, v), ⟨rfl, rfl, rfl, rfl, rfl, rfl, trivial⟩, ⟨hlt, M9.tail, hmap9, ?_⟩, by show xs.length - (i + 1) < xs.length - i; omega⟩
        show w9.ownsRow _ _ _ _ (waiveL (xs.take (i + 1)) ps).length (arrows (waiveL (xs.take (i + 1)) ps))
        rw [htake]
        exact ho9
    · have : i = xs.length := by have : ¬ (i : Int) < xs.length := hge; omega
      subst this
      rw [List.take_length] at ho7
      obtain ⟨A8, c8, rfl, _, _⟩ := reads_of_owns ho7
      refine ⟨[.int .i64 N, .slice A8 (waiveL xs ps).length c8], rfl, M7.rd 0 rfl, ?_⟩
      refine ⟨rfl, _, _, M7.get 2 rfl, Nat.le_of_ble_eq_true rfl, rfl, ?_⟩
      intro w8 h8
      have M8 := M7.put 2 rfl h8
      refine ⟨[.int .i64 N, .slice A8 (waiveL xs ps).length c8], rfl, M8.rd 2 rfl, ?_⟩
      refine ⟨⟨A8, c8, rfl, ?_⟩, M8.ext⟩
      exact ownsRow_put ho7 h8 (fun e => own_ne ho7 (M7.get 2 rfl) (fun c fr e => by cases e) e.symm)

end Go.Proofs.Ytdfhfehlmonjjaa
