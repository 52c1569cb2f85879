/- Rows of one's own: written, cleared, cut. -/
import Derived.Test.YtdfhfehlmonjjaaE7
namespace Go.Eng
open Go.RowKit

/-- None of the blocks holds elements of this type. -/
def offT (t0 : Nat) : List (Nat × Obj) → Bool
  | [] => true
  | (_, .cells _ t _) :: r => !(Nat.beq t t0) && offT t0 r
  | _ => false

theorem Mem.onlyT {t0 : Nat} {w0 w w' : World} {L : List (Nat × Obj)} (M : Mem w0 w L) (E : Ext w0 w') (o : Only t0 w w') (h : offT t0 L = true) : Mem w0 w' L := by
  refine ⟨E, fun g ob hm => ⟨(M.own g ob hm).1, ?_⟩, M.nodup⟩
  have key : ∀ {L : List (Nat × Obj)}, offT t0 L = true → ∀ g ob, (g, ob) ∈ L → ∃ c t fr, ob = .cells c t fr ∧ t ≠ t0 := by
    intro L
    induction L with
    | nil => intro _ _ _ h; cases h
    | cons p r ih =>
      intro h g ob hm
      obtain ⟨g1, o1⟩ := p
      cases o1 with
      | cells c t fr =>
        simp only [offT, Bool.and_eq_true, Bool.not_eq_true'] at h
        rcases List.mem_cons.1 hm with e | hm
        · cases e
          exact ⟨c, t, fr, rfl, fun e => by subst e; rw [Nat.beq_refl] at h; cases h.1⟩
        · exact ih h.2 g ob hm
      | _ => simp [offT] at h
  obtain ⟨c, t, fr, rfl, hne⟩ := key h g ob hm
  exact o _ _ _ _ (M.own g _ hm).2 hne

theorem splice_take {cs vs : List Value} {o m : Nat} (h : o + vs.length ≤ m) : (splice cs o vs).take m = splice (cs.take m) o vs := by
  by_cases hl : m ≤ cs.length
  · unfold splice
    rw [List.take_append, List.take_append]
    have h1 : (cs.take o).length = o := by simp; omega
    rw [List.take_of_length_le (by omega : (cs.take o).length ≤ m), List.take_take, Nat.min_eq_left (by omega : o ≤ m)]
    rw [List.length_append, h1, List.take_of_length_le (by omega : vs.length ≤ m - o)]
    rw [List.drop_take]
  · rw [List.take_of_length_le (by omega : cs.length ≤ m)]
    refine List.take_of_length_le ?_
    unfold splice
    simp only [List.length_append, List.length_take, List.length_drop]
    omega

/-- A row of one's own that lies somewhere: its block; what a store leaves. -/
theorem ownsRow_open {w : World} {base e size n cap g : Nat} {xs : List Value} (h : w.ownsRow base e size (.slice (some ⟨g, 0, none⟩) n cap) n xs) :
    ∃ cur : List Value, w.heap[g]? = some (.cells cur.toArray e (0, 0)) ∧ base ≤ g ∧ n * size ≤ cur.length ∧ cur.length = cap * size ∧ n ≤ cap ∧ xs.length = n * size ∧ cur.take (n * size) = xs ∧
      ∀ (o : Nat) (vs : List Value) (w' : World), o + vs.length ≤ n * size → Put w g (.cells (splice cur o vs).toArray e (0, 0)) w' → w'.ownsRow base e size (.slice (some ⟨g, 0, none⟩) n cap) n (splice xs o vs) := by
  obtain ⟨hl, ⟨hv, _⟩ | ⟨g', cap', cur, hv, h1, h2, h3, h4, h5, h6⟩⟩ := h
  · cases hv
  · cases hv
    have h5' : cur.toList.length = cap * size := by simpa using h5
    have hnc : n * size ≤ cap * size := Nat.mul_le_mul_right _ h3
    refine ⟨cur.toList, by simpa using h2, h1, by omega, h5', h3, hl, h6, fun o vs w' ho p => ⟨?_, .inr ⟨g, cap, (splice cur.toList o vs).toArray, rfl, h1, p.here, h3, h4, ?_, ?_⟩⟩⟩
    · rw [splice_length (by omega)]; exact hl
    · rw [List.size_toArray, splice_length (by omega)]; exact h5'
    · rw [List.toList_toArray, splice_take ho, h6]

theorem zeroCells_props (zc : Array Value) (n : Nat) (h1 : zc.toList.all (·.oneCell') = true) (hz : 0 < zc.size) : (Builtin.zeroCells zc n).toList.length = n * zc.size ∧ ∀ v ∈ (Builtin.zeroCells zc n).toList, v.oneCell' = true := by
  unfold Builtin.zeroCells
  refine ⟨by simp, fun v hv => ?_⟩
  simp only [Array.toList_map, List.mem_map] at hv
  obtain ⟨i, _, rfl⟩ := hv
  have hi : i % zc.size < zc.size := Nat.mod_lt _ hz
  rw [getElem!_pos zc _ hi]
  exact List.all_eq_true.1 h1 _ (by simp)

section
variable {C : Cfg}

theorem clearRow (hC : C.Ok) {o : Oper} {t e esz eb m c g off : Nat} {x : Operand} {l : Env} {w : World} {A : Option Addr} {ti te : TI} {cur : List Value} (ho : o.op = .call ⟨.builtin .clear, #[x], #[t]⟩)
    (hx : evo l x = some (.slice A m c)) (hti : C.ti t = some ti) (hd : ti.d = .slice e esz eb) (hte : C.ti e = some te) (h1 : te.zero.cells.toList.all (·.oneCell') = true) (hz : te.zero.cells.size = esz) (hpos : 0 < esz)
    (hA : A = some ⟨g, off, none⟩) (hm : 0 < m) (hg : w.heap[g]? = some (.cells cur.toArray e (0, 0))) (hin : off + m * esz ≤ cur.length)
    {Q : Value → World → Prop} (h : ∀ zs w', zs.length = m * esz → Put w g (.cells (splice cur off zs).toArray e (0, 0)) w' → Q (.tuple #[]) w') : LoudRun C o l w Q := by
  intro ρ hρ w₁ hs
  subst hA
  have hu := ((hC.ti hti).isSlice hd).1
  obtain ⟨hzl, hz1⟩ := zeroCells_props te.zero.cells m h1 (by omega)
  rw [hz] at hzl
  have hg1 : w₁.heap[g]? = some (.cells cur.toArray e (0, 0)) := by rw [hs.heap]; exact hg
  have hst := run_storeCells_at (P := C.P) g off e (Builtin.zeroCells te.zero.cells m).toList 0 cur.toArray w₁ hg1 (by simp only [List.size_toArray]; omega) hz1
  have hrun : (Builtin.clear_ #[t] o.type #[.slice (some ⟨g, off, none⟩) m c]).run C.P w₁ = .ok (.tuple #[]) (w₁.setRow g (splice cur off (Builtin.zeroCells te.zero.cells m).toList).toArray) := by
    obtain ⟨k, rfl⟩ : ∃ k, m = k + 1 := ⟨m - 1, by omega⟩
    unfold Builtin.clear_
    simp [run_underlying hu, (hC.ti hte).run_zero]
    simp at hst
    rw [hst]
    simp [splice]
  refine ⟨.tuple #[], _, _, .inl ?_, h _ _ hzl (put_setRow hs hg), Same.refl _⟩
  unfold execOp
  rw [ho]
  simp only [resolve, invoke, builtin, List.map_toArray, List.map_cons, List.map_nil, hρ _ _ hx, Sem.run_bind, Sem.run_pure, Result.andThen_ok, hrun]
end

end Go.Eng
