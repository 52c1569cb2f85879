/- The rows: a relation that came in, opened. -/
import Derived.Test.YtdfhfehlmonjjaaQ6
import Derived.Test.YtdfhfehlmonjjaaRows
import Derived.ProofKit
import Derived.Lib.SmallJoins
import Derived.Deep.Slices
import Derived.Deep.SlicePairs
namespace Go.Proofs.Ytdfhfehlmonjjaa
open Go.Eng Go.RowKit Go.ChangeShapes Go.WideShapes Go.ChangeAt

theorem own : ownKnob Try.prog.godebug = none := by kernel_rfl
theorem cells24 : Try.prog.cellsOf 24 = 2 := by kernel_rfl
theorem cells43 : Try.prog.cellsOf 43 = 4 := by kernel_rfl
theorem cells22 : Try.prog.cellsOf 22 = 1 := by kernel_rfl
theorem under30 : Try.prog.underlying 30 = some (.slice 3) := by kernel_rfl
theorem under22 : Try.prog.underlying 22 = some (.slice 43) := by kernel_rfl
theorem under24 : Try.prog.underlying 24 = some (.struct #[⟨ "N", 3, 0, false, "", "", 0⟩, ⟨ "Arrows", 22, 1, false, "", "", 8⟩]) := by kernel_rfl
theorem under43 : Try.prog.underlying 43 = some (.struct #[⟨ "From", 3, 0, false, "", "", 0⟩, ⟨ "To", 3, 1, false, "", "", 8⟩, ⟨ "Rule", 3, 2, false, "", "", 16⟩, ⟨ "Weight", 3, 3, false, "", "", 24⟩]) := by kernel_rfl

theorem cells45 : Try.prog.cellsOf 45 = 5 := by kernel_rfl
theorem cells89 : Try.prog.cellsOf 89 = 2 := by kernel_rfl
theorem under46 : Try.prog.underlying 46 = some (.slice 89) := by kernel_rfl
theorem under36 : Try.prog.underlying 36 = some (.slice 58) := by kernel_rfl
theorem rec45 : Try.prog.readableRec 45 = true := by kernel_rfl
theorem row45 : (45 : TypeId) < Try.prog.types.size := of_decide_eq_true (by kernel_rfl)
theorem rec46 : Try.prog.readableRec 46 = true := by kernel_rfl
theorem row46 : (46 : TypeId) < Try.prog.types.size := of_decide_eq_true (by kernel_rfl)
theorem rec36 : Try.prog.readableRec 36 = true := by kernel_rfl
theorem row36 : (36 : TypeId) < Try.prog.types.size := of_decide_eq_true (by kernel_rfl)
theorem rec24 : Try.prog.readableRec 24 = true := by kernel_rfl
theorem row24 : (24 : TypeId) < Try.prog.types.size := of_decide_eq_true (by kernel_rfl)
theorem rec3 : Try.prog.readableRec 3 = true := by kernel_rfl
theorem row3 : (3 : TypeId) < Try.prog.types.size := of_decide_eq_true (by kernel_rfl)
theorem rec30 : Try.prog.readableRec 30 = true := by kernel_rfl
theorem row30 : (30 : TypeId) < Try.prog.types.size := of_decide_eq_true (by kernel_rfl)

theorem wf_in64 {a : Int} (h : (Lit.int .i64 a).wf = true) : In64 a := by
  simp [Lit.wf, IntKind.min, IntKind.max, IntKind.bits, IntKind.signed] at h
  omega

instance : Inhabited Arrow := ⟨⟨0, 0, 0, 0⟩⟩

section
variable {H : Type} {enc : TypeId × Value → H} {W : World}

theorem list4 {l : List Value} (h : l.length = 4) : ∃ a b c d, l = [a, b, c, d] := by
  match l, h with
  | [a, b, c, d], _ => exact ⟨a, b, c, d, rfl⟩

/-- One arrow: its four cells. -/
theorem open_arrow {base n : Nat} {spare : Nat → Bool} {held : Bool} {a : Addr} {cs : List Value} {x : DataW H × List MemPlace} (h1 : W.cells? base a 4 = some cs) (h2 : DataW.trod enc Try.prog W base spare held n 43 cs = some x) :
    ∃ y : Arrow, cs = y.cells ∧ In64 y.fr ∧ In64 y.to ∧ In64 y.rule ∧ In64 y.wt := by
  obtain ⟨_, hlen, _⟩ := World.cells?_some h1
  obtain ⟨y0, y1, y2, y3, k, _, _, g0, g1, g2, g3⟩ := Joins.trod_struct4 under43 h2
  obtain ⟨c0, c1, c2, c3, rfl⟩ := list4 hlen
  simp only [cells3] at g0 g1 g2 g3
  obtain ⟨n0, e0, _, w0⟩ := DataW.trod_int under3 g0
  obtain ⟨n1, e1, _, w1⟩ := DataW.trod_int under3 g1
  obtain ⟨n2, e2, _, w2⟩ := DataW.trod_int under3 g2
  obtain ⟨n3, e3, _, w3⟩ := DataW.trod_int under3 g3
  simp at e0 e1 e2 e3
  subst e0 e1 e2 e3
  exact ⟨⟨n0, n1, n2, n3⟩, rfl, wf_in64 w0, wf_in64 w1, wf_in64 w2, wf_in64 w3⟩

theorem arrows_range (f : Nat → Arrow) (n i : Nat) (v : Value) (h : (arrows ((List.range n).map f))[i]? = some v) : ∃ k j, k < n ∧ j < 4 ∧ i = k * 4 + j ∧ (f k).cells[j]? = some v := by
  have hl := arrows_length ((List.range n).map f)
  have hi := (List.getElem?_eq_some_iff.1 h).1
  rw [hl] at hi
  simp at hi
  have hk : i / 4 < ((List.range n).map f).length := by simp; omega
  have hj : i % 4 < 4 := Nat.mod_lt _ (by omega)
  refine ⟨i / 4, i % 4, by simpa using hk, hj, by omega, ?_⟩
  obtain ⟨u, hu⟩ : ∃ u, (f (i / 4)).cells[i % 4]? = some u := ⟨_, List.getElem?_eq_getElem (by simpa [Arrow.cells] using hj)⟩
  have := arrows_get hk (i % 4) u (by simpa using hu)
  rw [show i / 4 * 4 + i % 4 = i by omega] at this
  rw [hu, ← this, h]

set_option maxRecDepth 100000 in
theorem open_rel {v : Value} {d : DataW H} {p : List MemPlace} {b0 : Nat} (hv : Value.okWide Try.prog W .any b0 24 v) (h : DataW.Trod enc Try.prog W 0 (fun _ => true) true 24 v d p) :
    ∃ N A xs c, v = relVal N A xs.length c ∧ HRel W N A xs c := by
  obtain ⟨c0, c1, y0, y1, m, rfl, rfl, rfl, hy0, hy1⟩ := Joins.open_agg2 under24 (by kernel_rfl) cells24 hv h
  obtain ⟨N, e0, _, wN⟩ := DataW.trod_int under3 hy0
  simp at e0
  subst e0
  rcases Deep.open_slice under22 hy1 with ⟨e1, _⟩ | ⟨a, len, cap, m', n, D, Pl, e1, hb, hl, hm, hmm, _, hx⟩
  · simp at e1
    subst e1
    exact ⟨N, none, [], 0, rfl, wf_in64 wN, by simp, .inl rfl, Nat.le_refl _, by simp⟩
  · simp at e1
    subst e1
    have hmm : m' = cap := by simpa using hmm
    subst hmm
    rw [cells43] at hx
    obtain ⟨f, hf⟩ := Deep.choose_lt (p := fun i (y : Arrow) => W.cells? 0 (a.add (i * 4)) 4 = some y.cells ∧ In64 y.fr ∧ In64 y.to ∧ In64 y.rule ∧ In64 y.wt) (fun i hi => by
      obtain ⟨cs', h1, h2⟩ := hx i hi
      obtain ⟨y, rfl, hy⟩ := open_arrow h1 h2
      exact ⟨y, h1, hy⟩)
    have hlen : ((List.range len).map f).length = len := by simp
    refine ⟨N, some a, (List.range len).map f, m', by rw [hlen]; rfl, wf_in64 wN, ?_, ?_, by rw [hlen]; exact hl, by rw [hlen]; simp only [maxLen] at hm; omega⟩
    · intro x hx
      obtain ⟨i, hi, rfl⟩ := List.mem_map.1 hx
      exact (hf i (by have := List.mem_range.1 hi; omega)).2
    · by_cases h0 : len = 0
      · subst h0; exact .inl rfl
      · have hc : ∀ i < len, ∀ j < 4, W.cell? ((a.add (i * 4)).add j) = (f i).cells[j]? := fun i hi j hj => (World.cells?_some (hf i (by omega)).1).2.2 j hj
        have hs : a.spot = none := by
          have := hc 0 (by omega) 0 (by omega)
          have h2 : W.cell? ((a.add (0 * 4)).add 0) = some (.int .i64 (f 0).fr) := this
          unfold World.cell? at h2
          cases hsp : a.spot with
          | none => rfl
          | some s =>
            have ea : (a.add (0 * 4)).add 0 = a := rfl
            rw [ea] at h2
            simp only [hsp] at h2
            split at h2 <;> simp at h2
        obtain ⟨b, o, sp⟩ := a
        simp only at hs
        subst hs
        refine .inr ⟨b, o, rfl, fun i v hv => ?_⟩
        obtain ⟨k, j, hk, hj, rfl, hg⟩ := arrows_range f len i v hv
        have := hc k hk j hj
        rw [hg] at this
        rw [← this]
        rw [add_spot, add_spot, Nat.add_assoc]

set_option maxRecDepth 100000 in
theorem open_intl {v : Value} {d : DataW H} {p : List MemPlace} {b0 : Nat} (hv : Value.okWide Try.prog W .any b0 30 v) (h : DataW.Trod enc Try.prog W 0 (fun _ => true) true 30 v d p) :
    ∃ B l c, v = .slice B l.length c ∧ Reads W B (ints l) ∧ l.length ≤ c ∧ c ≤ 9223372036854775807 ∧ ∀ x ∈ l, In64 x := by
  obtain ⟨a0, len0, cap0, rfl⟩ := okWide_slice under30 hv
  obtain ⟨fuel, hf⟩ := h
  rcases open_ints under30 under3 cells3 hf with ⟨e1, _⟩ | ⟨a, len, cap, zs, e1, _, hl, hm, hz, _, hc, hw⟩
  · simp [Value.cells] at e1
    obtain ⟨rfl, rfl, rfl⟩ := e1
    exact ⟨none, [], 0, rfl, .inl rfl, Nat.le_refl _, by omega, by simp⟩
  · simp [Value.cells] at e1
    obtain ⟨rfl, rfl, rfl⟩ := e1
    have hz : zs.length = cap0 := by simpa using hz
    have hlen : (zs.take len0).length = len0 := by simp; omega
    refine ⟨some a, zs.take len0, cap0, by rw [hlen], ?_, by rw [hlen]; exact hl, by simp only [maxLen] at hm; omega, fun x hx => wf_in64 (hw x (List.mem_of_mem_take hx))⟩
    by_cases h0 : len0 = 0
    · subst h0; exact .inl rfl
    · have hcell : ∀ i < len0, W.cell? (a.add i) = some (.int .i64 (zs.getD i 0)) := fun i hi => hc i (by omega)
      have hs : a.spot = none := by
        have h2 : W.cell? (a.add 0) = some (.int .i64 (zs.getD 0 0)) := hcell 0 (by omega)
        unfold World.cell? at h2
        cases hsp : a.spot with
        | none => rfl
        | some s =>
          have ea : a.add 0 = a := rfl
          rw [ea] at h2
          simp only [hsp] at h2
          split at h2 <;> simp at h2
      obtain ⟨b, o, sp⟩ := a
      simp only at hs
      subst hs
      refine .inr ⟨b, o, rfl, fun i v hv => ?_⟩
      have hi : i < len0 := by
        have := (List.getElem?_eq_some_iff.1 hv).1
        rw [ints_length, hlen] at this
        exact this
      have := hcell i hi
      rw [add_spot] at this
      rw [this, ← hv]
      have hiz : i < zs.length := by omega
      simp [ints, hi, List.getD, hiz]

theorem list5 {l : List Value} (h : l.length = 5) : ∃ a b c d e, l = [a, b, c, d, e] := by
  match l, h with
  | [a, b, c, d, e], _ => exact ⟨a, b, c, d, e, rfl⟩

theorem prs_range (f : Nat → Int × Int) (n i : Nat) (v : Value) (h : (prCells ((List.range n).map f))[i]? = some v) : ∃ k j, k < n ∧ j < 2 ∧ i = k * 2 + j ∧ ([.int .i64 (f k).1, .int .i64 (f k).2] : List Value)[j]? = some v := by
  have hl := prCells_length ((List.range n).map f)
  have hi := (List.getElem?_eq_some_iff.1 h).1
  rw [hl] at hi
  simp at hi
  have hk : i / 2 < ((List.range n).map f).length := by simp; omega
  have hj : i % 2 < 2 := Nat.mod_lt _ (by omega)
  refine ⟨i / 2, i % 2, by simpa using hk, hj, by omega, ?_⟩
  obtain ⟨u, hu⟩ : ∃ u, ([.int .i64 (f (i / 2)).1, .int .i64 (f (i / 2)).2] : List Value)[i % 2]? = some u := ⟨_, List.getElem?_eq_getElem (by simpa using hj)⟩
  have := prCells_get hk (i % 2) u (by simpa using hu)
  rw [show i / 2 * 2 + i % 2 = i by omega] at this
  rw [hu, ← this, h]

set_option maxRecDepth 100000 in
/-- A slice of two numbers each: pairs, guests. -/
theorem open_two {v : Value} {d : DataW H} {p : List MemPlace} {b0 t e : Nat} {n0 n1 : String} {o1 : Nat} (ht : Try.prog.underlying t = some (.slice e)) (ce : Try.prog.cellsOf e = 2)
    (he : Try.prog.underlying e = some (.struct #[⟨ n0, 3, 0, false, "", "", 0⟩, ⟨ n1, 3, 1, false, "", "", o1⟩]))
    (hv : Value.okWide Try.prog W .any b0 t v) (h : DataW.Trod enc Try.prog W 0 (fun _ => true) true t v d p) :
    ∃ B l c, v = .slice B l.length c ∧ Reads W B (prCells l) ∧ l.length ≤ c ∧ c ≤ 9223372036854775807 ∧ ∀ x ∈ l, In64 x.1 ∧ In64 x.2 := by
  obtain ⟨a0, len0, cap0, rfl⟩ := okWide_slice ht hv
  obtain ⟨fuel, hf⟩ := h
  rcases Deep.open_slice_pairs ht he ce rfl rfl cells3 cells3 hf with ⟨e1, _⟩ | ⟨a, len, cap, m, n, V0, V1, D0, D1, P0, P1, e1, _, hl, hm, hmm, _, hx⟩
  · simp [Value.cells] at e1
    obtain ⟨rfl, rfl, rfl⟩ := e1
    exact ⟨none, [], 0, rfl, .inl rfl, Nat.le_refl _, by omega, by simp⟩
  · simp [Value.cells] at e1
    obtain ⟨rfl, rfl, rfl⟩ := e1
    have hmm : m = cap0 := by simpa using hmm
    subst hmm
    obtain ⟨f, hf2⟩ := Deep.choose_lt (p := fun i (y : Int × Int) => W.cell? (a.add (i * 2)) = some (.int .i64 y.1) ∧ W.cell? (a.add (i * 2 + 1)) = some (.int .i64 y.2) ∧ In64 y.1 ∧ In64 y.2) (fun i hi => by
      obtain ⟨h1, h2, h3, h4⟩ := hx i hi
      obtain ⟨x, e3, _, w3⟩ := DataW.trod_int under3 h3
      obtain ⟨y, e4, _, w4⟩ := DataW.trod_int under3 h4
      simp at e3 e4
      exact ⟨(x, y), by rw [h1, e3], by rw [h2, e4], wf_in64 w3, wf_in64 w4⟩)
    have hlen : ((List.range len0).map f).length = len0 := by simp
    refine ⟨some a, (List.range len0).map f, m, by rw [hlen], ?_, by rw [hlen]; exact hl, by simp only [maxLen] at hm; omega, ?_⟩
    · by_cases h0 : len0 = 0
      · subst h0; exact .inl rfl
      · have hs : a.spot = none := by
          have h2 : W.cell? a = some (.int .i64 (f 0).1) := (hf2 0 (by omega)).1
          unfold World.cell? at h2
          cases hsp : a.spot with
          | none => rfl
          | some s =>
            simp only [hsp] at h2
            split at h2 <;> simp at h2
        obtain ⟨b, o, sp⟩ := a
        simp only at hs
        subst hs
        refine .inr ⟨b, o, rfl, fun i v hv => ?_⟩
        obtain ⟨k, j, hk, hj, rfl, hg⟩ := prs_range f len0 i v hv
        have h3 := hf2 k (by omega)
        rw [add_spot, add_spot] at h3
        match j, hj with
        | 0, _ => simp at hg; rw [← hg]; simpa using h3.1
        | 1, _ => simp at hg; rw [← hg]; simpa [Nat.add_assoc] using h3.2.1
    · intro x hx2
      obtain ⟨i, hi, rfl⟩ := List.mem_map.1 hx2
      exact (hf2 i (by have := List.mem_range.1 hi; omega)).2.2

theorem under89 : Try.prog.underlying 89 = some (.struct #[⟨ "Person", 3, 0, false, "", "", 0⟩, ⟨ "State", 3, 1, false, "", "", 8⟩]) := by kernel_rfl
theorem under45 : Try.prog.underlying 45 = some (.struct #[⟨ "Host", 3, 0, false, "", "", 0⟩, ⟨ "Lang", 3, 1, false, "", "", 8⟩, ⟨ "Lot", 3, 2, false, "", "", 16⟩, ⟨ "Known", 3, 3, false, "", "", 24⟩, ⟨ "Day", 3, 4, false, "", "", 32⟩]) := by kernel_rfl

set_option maxRecDepth 100000 in
theorem open_guests {v : Value} {d : DataW H} {p : List MemPlace} {b0 : Nat} (hv : Value.okWide Try.prog W .any b0 46 v) (h : DataW.Trod enc Try.prog W 0 (fun _ => true) true 46 v d p) :
    ∃ B l c, v = .slice B l.length c ∧ Reads W B (prCells l) ∧ l.length ≤ c ∧ c ≤ 9223372036854775807 ∧ ∀ x ∈ l, In64 x.1 ∧ In64 x.2 := open_two under46 cells89 under89 hv h
set_option maxRecDepth 100000 in
theorem open_prs {v : Value} {d : DataW H} {p : List MemPlace} {b0 : Nat} (hv : Value.okWide Try.prog W .any b0 36 v) (h : DataW.Trod enc Try.prog W 0 (fun _ => true) true 36 v d p) :
    ∃ B l c, v = .slice B l.length c ∧ Reads W B (prCells l) ∧ l.length ≤ c ∧ c ≤ 9223372036854775807 ∧ ∀ x ∈ l, In64 x.1 ∧ In64 x.2 := open_two under36 cells58 u58 hv h

set_option maxRecDepth 100000 in
theorem open_scene {v : Value} {d : DataW H} {p : List MemPlace} {b0 : Nat} (hv : Value.okWide Try.prog W .any b0 45 v) (h : DataW.Trod enc Try.prog W 0 (fun _ => true) true 45 v d p) :
    ∃ s : Scn, v = s.val ∧ In64 s.host ∧ In64 s.lang ∧ In64 s.lot ∧ In64 s.known ∧ In64 s.day := by
  obtain ⟨cs, rfl, hsz⟩ := okWide_struct under45 hv
  obtain ⟨fuel, hf⟩ := h
  obtain ⟨xs, n, _, _, hlen, hxs, hg⟩ := DataW.trod_struct under45 hf
  have hcl : cs.toList.length = 5 := by simpa [cells45] using hsz
  obtain ⟨a, b, c, d', e, hcs⟩ := list5 hcl
  have hcv : (Value.agg cs).cells.toList = [a, b, c, d', e] := hcs
  rw [hcv] at hg
  have get : ∀ (i : Nat) (u : Value) (f : Field), (#[⟨ "Host", 3, 0, false, "", "", 0⟩, ⟨ "Lang", 3, 1, false, "", "", 8⟩, ⟨ "Lot", 3, 2, false, "", "", 16⟩, ⟨ "Known", 3, 3, false, "", "", 24⟩, ⟨ "Day", 3, 4, false, "", "", 32⟩] : Array Field)[i]? = some f → f.type = 3 → i < 5 →
      ((([a, b, c, d', e] : List Value).drop f.offset).take 1) = [u] → ∃ z : Int, u = .int .i64 z ∧ In64 z := by
    intro i u f hi h3 hi5 hu
    have := hg i f hi
    rw [h3, cells3, hu] at this
    have hx : i < xs.length := by rw [hxs]; simpa using hi5
    rw [List.getElem?_eq_getElem hx] at this
    obtain ⟨z, e1, _, wz⟩ := DataW.trod_int under3 this
    simp at e1
    exact ⟨z, e1, wf_in64 wz⟩
  obtain ⟨z0, rfl, w0⟩ := get 0 a _ rfl rfl (by omega) rfl
  obtain ⟨z1, rfl, w1⟩ := get 1 b _ rfl rfl (by omega) rfl
  obtain ⟨z2, rfl, w2⟩ := get 2 c _ rfl rfl (by omega) rfl
  obtain ⟨z3, rfl, w3⟩ := get 3 d' _ rfl rfl (by omega) rfl
  obtain ⟨z4, rfl, w4⟩ := get 4 e _ rfl rfl (by omega) rfl
  refine ⟨⟨z0, z1, z2, z3, z4⟩, ?_, w0, w1, w2, w3, w4⟩
  show Value.agg cs = Value.agg _
  congr 1
  apply Array.ext'
  rw [hcs]
  rfl
end

end Go.Proofs.Ytdfhfehlmonjjaa
