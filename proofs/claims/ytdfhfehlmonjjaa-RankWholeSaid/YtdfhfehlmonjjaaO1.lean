/- The rows: a relation that came in, opened. -/
import Derived.Test.YtdfhfehlmonjjaaR24
import Derived.Test.YtdfhfehlmonjjaaRows
import Derived.ProofKit
import Derived.Lib.SmallJoins
import Derived.Deep.Slices
namespace Go.Proofs.Ytdfhfehlmonjjaa
open Go.Eng Go.RowKit Go.ChangeShapes Go.WideShapes Go.ChangeAt

theorem own : ownKnob Try.prog.godebug = none := by kernel_rfl
theorem cells24 : Try.prog.cellsOf 24 = 2 := by kernel_rfl
theorem cells43 : Try.prog.cellsOf 43 = 4 := by kernel_rfl
theorem cells22 : Try.prog.cellsOf 22 = 1 := by kernel_rfl
theorem under30 : Try.prog.underlying 30 = some (.slice 3) := by kernel_rfl
theorem under22 : Try.prog.underlying 22 = some (.slice 43) := by kernel_rfl
theorem under24 : Try.prog.underlying 24 = some (.struct #[⟨ "N", 3, 0, false, "", "", 0⟩, ⟨ "Arrows", 22, 1, false, "", "", 8⟩]) := by kernel_rfl
theorem under43 : Try.prog.underlying 43 = some (.struct #[⟨ "From", 3, 0, false, "", "", 0⟩, ⟨ "To", 3, 1, false, "", "", 8⟩, ⟨ "Rule", 3, 2, false, "", "", 16⟩, ⟨ "Weight", 3, 3, false, "", "", 24⟩]) := by kernel_rfl

theorem rec24 : Try.prog.readableRec 24 = true := by kernel_rfl
theorem row24 : (24 : TypeId) < Try.prog.types.size := of_decide_eq_true (by kernel_rfl)
theorem rec3 : Try.prog.readableRec 3 = true := by kernel_rfl
theorem row3 : (3 : TypeId) < Try.prog.types.size := of_decide_eq_true (by kernel_rfl)
theorem rec30 : Try.prog.readableRec 30 = true := by kernel_rfl
theorem row30 : (30 : TypeId) < Try.prog.types.size := of_decide_eq_true (by kernel_rfl)

theorem wf_in64 {a : Int} (h : (Lit.int .i64 a).wf = true) : In64 a := by
  simp [Lit.wf, IntKind.min, IntKind.max, IntKind.bits, IntKind.signed] at h
  omega

instance : Inhabited Arrow := ⟨⟨0, 0, 0, 0⟩⟩

section
variable {H : Type} {enc : TypeId × Value → H} {W : World}

theorem list4 {l : List Value} (h : l.length = 4) : ∃ a b c d, l = [a, b, c, d] := by
  match l, h with
  | [a, b, c, d], _ => exact ⟨a, b, c, d, rfl⟩

/-- One arrow: its four cells. -/
theorem open_arrow {base n : Nat} {spare : Nat → Bool} {held : Bool} {a : Addr} {cs : List Value} {x : DataW H × List MemPlace} (h1 : W.cells? base a 4 = some cs) (h2 : DataW.trod enc Try.prog W base spare held n 43 cs = some x) :
    ∃ y : Arrow, cs = y.cells ∧ In64 y.fr ∧ In64 y.to ∧ In64 y.rule ∧ In64 y.wt := by
  obtain ⟨_, hlen, _⟩ := World.cells?_some h1
  obtain ⟨y0, y1, y2, y3, k, _, _, g0, g1, g2, g3⟩ := Joins.trod_struct4 under43 h2
  obtain ⟨c0, c1, c2, c3, rfl⟩ := list4 hlen
  simp only [cells3] at g0 g1 g2 g3
  obtain ⟨n0, e0, _, w0⟩ := DataW.trod_int under3 g0
  obtain ⟨n1, e1, _, w1⟩ := DataW.trod_int under3 g1
  obtain ⟨n2, e2, _, w2⟩ := DataW.trod_int under3 g2
  obtain ⟨n3, e3, _, w3⟩ := DataW.trod_int under3 g3
  simp at e0 e1 e2 e3
  subst e0 e1 e2 e3
  exact ⟨⟨n0, n1, n2, n3⟩, rfl, wf_in64 w0, wf_in64 w1, wf_in64 w2, wf_in64 w3⟩

theorem arrows_range (f : Nat → Arrow) (n i : Nat) (v : Value) (h : (arrows ((List.range n).map f))[i]? = some v) : ∃ k j, k < n ∧ j < 4 ∧ i = k * 4 + j ∧ (f k).cells[j]? = some v := by
  have hl := arrows_length ((List.range n).map f)
  have hi := (List.getElem?_eq_some_iff.1 h).1
  rw [hl] at hi
  simp at hi
  have hk : i / 4 < ((List.range n).map f).length := by simp; omega
  have hj : i % 4 < 4 := Nat.mod_lt _ (by omega)
  refine ⟨i / 4, i % 4, by simpa using hk, hj, by omega, ?_⟩
  obtain ⟨u, hu⟩ : ∃ u, (f (i / 4)).cells[i % 4]? = some u := ⟨_, List.getElem?_eq_getElem (by simpa [Arrow.cells] using hj)⟩
  have := arrows_get hk (i % 4) u (by simpa using hu)
  rw [show i / 4 * 4 + i % 4 = i by omega] at this
  rw [hu, ← this, h]

set_option maxRecDepth 100000 in
theorem open_rel {v : Value} {d : DataW H} {p : List MemPlace} {b0 : Nat} (hv : Value.okWide Try.prog W .any b0 24 v) (h : DataW.Trod enc Try.prog W 0 (fun _ => true) true 24 v d p) :
    ∃ N A xs c, v = relVal N A xs.length c ∧ HRel W N A xs c := by
  obtain ⟨c0, c1, y0, y1, m, rfl, rfl, rfl, hy0, hy1⟩ := Joins.open_agg2 under24 (by kernel_rfl) cells24 hv h
  obtain ⟨N, e0, _, wN⟩ := DataW.trod_int under3 hy0
  simp at e0
  subst e0
  rcases Deep.open_slice under22 hy1 with ⟨e1, _⟩ | ⟨a, len, cap, m', n, D, Pl, e1, hb, hl, hm, hmm, _, hx⟩
  · simp at e1
    subst e1
    exact ⟨N, none, [], 0, rfl, wf_in64 wN, by simp, .inl rfl, Nat.le_refl _, by simp⟩
  · simp at e1
    subst e1
    have hmm : m' = cap := by simpa using hmm
    subst hmm
    rw [cells43] at hx
    obtain ⟨f, hf⟩ := Deep.choose_lt (p := fun i (y : Arrow) => W.cells? 0 (a.add (i * 4)) 4 = some y.cells ∧ In64 y.fr ∧ In64 y.to ∧ In64 y.rule ∧ In64 y.wt) (fun i hi => by
      obtain ⟨cs', h1, h2⟩ := hx i hi
      obtain ⟨y, rfl, hy⟩ := open_arrow h1 h2
      exact ⟨y, h1, hy⟩)
    have hlen : ((List.range len).map f).length = len := by simp
    refine ⟨N, some a, (List.range len).map f, m', by rw [hlen]; rfl, wf_in64 wN, ?_, ?_, by rw [hlen]; exact hl, by rw [hlen]; simp only [maxLen] at hm; omega⟩
    · intro x hx
      obtain ⟨i, hi, rfl⟩ := List.mem_map.1 hx
      exact (hf i (by have := List.mem_range.1 hi; omega)).2
    · by_cases h0 : len = 0
      · subst h0; exact .inl rfl
      · have hc : ∀ i < len, ∀ j < 4, W.cell? ((a.add (i * 4)).add j) = (f i).cells[j]? := fun i hi j hj => (World.cells?_some (hf i (by omega)).1).2.2 j hj
        have hs : a.spot = none := by
          have := hc 0 (by omega) 0 (by omega)
          have h2 : W.cell? ((a.add (0 * 4)).add 0) = some (.int .i64 (f 0).fr) := this
          unfold World.cell? at h2
          cases hsp : a.spot with
          | none => rfl
          | some s =>
            have ea : (a.add (0 * 4)).add 0 = a := rfl
            rw [ea] at h2
            simp only [hsp] at h2
            split at h2 <;> simp at h2
        obtain ⟨b, o, sp⟩ := a
        simp only at hs
        subst hs
        refine .inr ⟨b, o, rfl, fun i v hv => ?_⟩
        obtain ⟨k, j, hk, hj, rfl, hg⟩ := arrows_range f len i v hv
        have := hc k hk j hj
        rw [hg] at this
        rw [← this]
        rw [add_spot, add_spot, Nat.add_assoc]

set_option maxRecDepth 100000 in
theorem open_intl {v : Value} {d : DataW H} {p : List MemPlace} {b0 : Nat} (hv : Value.okWide Try.prog W .any b0 30 v) (h : DataW.Trod enc Try.prog W 0 (fun _ => true) true 30 v d p) :
    ∃ B l c, v = .slice B l.length c ∧ Reads W B (ints l) ∧ l.length ≤ c ∧ c ≤ 9223372036854775807 ∧ ∀ x ∈ l, In64 x := by
  obtain ⟨a0, len0, cap0, rfl⟩ := okWide_slice under30 hv
  obtain ⟨fuel, hf⟩ := h
  rcases open_ints under30 under3 cells3 hf with ⟨e1, _⟩ | ⟨a, len, cap, zs, e1, _, hl, hm, hz, _, hc, hw⟩
  · simp [Value.cells] at e1
    obtain ⟨rfl, rfl, rfl⟩ := e1
    exact ⟨none, [], 0, rfl, .inl rfl, Nat.le_refl _, by omega, by simp⟩
  · simp [Value.cells] at e1
    obtain ⟨rfl, rfl, rfl⟩ := e1
    have hz : zs.length = cap0 := by simpa using hz
    have hlen : (zs.take len0).length = len0 := by simp; omega
    refine ⟨some a, zs.take len0, cap0, by rw [hlen], ?_, by rw [hlen]; exact hl, by simp only [maxLen] at hm; omega, fun x hx => wf_in64 (hw x (List.mem_of_mem_take hx))⟩
    by_cases h0 : len0 = 0
    · subst h0; exact .inl rfl
    · have hcell : ∀ i < len0, W.cell? (a.add i) = some (.int .i64 (zs.getD i 0)) := fun i hi => hc i (by omega)
      have hs : a.spot = none := by
        have h2 : W.cell? (a.add 0) = some (.int .i64 (zs.getD 0 0)) := hcell 0 (by omega)
        unfold World.cell? at h2
        cases hsp : a.spot with
        | none => rfl
        | some s =>
          have ea : a.add 0 = a := rfl
          rw [ea] at h2
          simp only [hsp] at h2
          split at h2 <;> simp at h2
      obtain ⟨b, o, sp⟩ := a
      simp only at hs
      subst hs
      refine .inr ⟨b, o, rfl, fun i v hv => ?_⟩
      have hi : i < len0 := by
        have := (List.getElem?_eq_some_iff.1 hv).1
        rw [ints_length, hlen] at this
        exact this
      have := hcell i hi
      rw [add_spot] at this
      rw [this, ← hv]
      have hiz : i < zs.length := by omega
      simp [ints, List.getElem?_take, hi, List.getD, hiz]
end

end Go.Proofs.Ytdfhfehlmonjjaa
