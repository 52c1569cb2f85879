/- What a function knows of memory: the blocks of its own, each with what it holds; all older ones are as they were. -/
import Derived.Test.YtdfhfehlmonjjaaE4
namespace Go.Eng
open Go.RowKit

structure Mem (w0 w : World) (L : List (Nat × Obj)) : Prop where
  ext : Ext w0 w
  own : ∀ g o, (g, o) ∈ L → w0.heap.size ≤ g ∧ w.heap[g]? = some o
  nodup : (L.map Prod.fst).Nodup

theorem Alloc.ext {w w' : World} {g : Nat} {o : Obj} (h : Alloc w g o w') : Ext w w' :=
  ⟨h.os, h.tape, h.output, by rw [h.heap]; simp, fun k hk => by rw [h.heap, Array.getElem?_push, if_neg (Nat.ne_of_lt hk)]⟩
theorem Alloc.here {w w' : World} {g : Nat} {o : Obj} (h : Alloc w g o w') : w'.heap[g]? = some o := by rw [h.heap, h.new]; simp
theorem Alloc.size {w w' : World} {g : Nat} {o : Obj} (h : Alloc w g o w') : w'.heap.size = w.heap.size + 1 := by rw [h.heap]; simp

theorem Mem.start (w : World) : Mem w w [] := ⟨Ext.refl w, fun _ _ h => (by cases h), List.nodup_nil⟩

variable {w0 w w' : World} {L : List (Nat × Obj)}

theorem Mem.lt (h : Mem w0 w L) {g : Nat} {o : Obj} (hg : (g, o) ∈ L) : g < w.heap.size := (Array.getElem?_eq_some_iff.1 (h.own g o hg).2).1

theorem Mem.alloc (h : Mem w0 w L) {g : Nat} {o : Obj} (a : Alloc w g o w') : Mem w0 w' ((g, o) :: L) := by
  refine ⟨h.ext.trans a.ext, fun g' o' hm => ?_, ?_⟩
  · rcases List.mem_cons.1 hm with e | hm
    · cases e; exact ⟨by rw [a.new]; exact h.ext.size, a.here⟩
    · exact ⟨(h.own _ _ hm).1, a.ext.heap (h.own _ _ hm).2⟩
  · rw [List.map_cons, List.nodup_cons]
    refine ⟨fun hm => ?_, h.nodup⟩
    obtain ⟨⟨g', o'⟩, hm', e⟩ := List.mem_map.1 hm
    have := h.lt hm'
    have e : g' = g := e
    rw [e, a.new] at this; exact Nat.lt_irrefl _ this

theorem Mem.get (h : Mem w0 w L) (k : Nat) {g : Nat} {o : Obj} (hk : L[k]? = some (g, o)) : w.heap[g]? = some o := (h.own g o (List.mem_of_getElem? hk)).2
theorem Mem.new (h : Mem w0 w L) (k : Nat) {g : Nat} {o : Obj} (hk : L[k]? = some (g, o)) : w0.heap.size ≤ g := (h.own g o (List.mem_of_getElem? hk)).1

theorem Mem.put (h : Mem w0 w L) (k : Nat) {g : Nat} {o o' : Obj} (hk : L[k]? = some (g, o)) (p : Put w g o' w') : Mem w0 w' (L.set k (g, o')) := by
  have hn := h.new k hk
  have hmap : (L.set k (g, o')).map Prod.fst = L.map Prod.fst := by
    rw [List.map_set]
    apply List.ext_getElem?
    intro i
    rw [List.getElem?_set]
    split
    · rename_i hki
      subst hki
      have hlt := (List.getElem?_eq_some_iff.1 hk).1
      simp [hlt]
      have := List.getElem?_eq_some_iff.1 hk
      obtain ⟨_, e⟩ := this
      simp [e]
    · rfl
  refine ⟨⟨p.os.trans h.ext.os, p.tape.trans h.ext.tape, p.output.trans h.ext.output, by rw [p.size]; exact h.ext.size, fun j hj => by rw [p.there j (by omega)]; exact h.ext.block j hj⟩, fun g1 o1 hm => ?_, by rw [hmap]; exact h.nodup⟩
  obtain ⟨i, hi⟩ := List.mem_iff_getElem?.1 hm
  rw [List.getElem?_set] at hi
  by_cases hki : k = i
  · rw [if_pos hki] at hi
    split at hi
    · cases hi; exact ⟨hn, p.here⟩
    · cases hi
  · rw [if_neg hki] at hi
    have hm1 := List.mem_of_getElem? hi
    have hne : g1 ≠ g := by
      intro e
      subst e
      have h1 : (L.map Prod.fst)[i]? = some g1 := by simp [hi]
      have h2 : (L.map Prod.fst)[k]? = some g1 := by simp [hk]
      have hlt : i < (L.map Prod.fst).length := (List.getElem?_eq_some_iff.1 h1).1
      exact hki ((List.getElem?_inj hlt h.nodup).1 (h1.trans h2.symm)).symm
    exact ⟨(h.own _ _ hm1).1, by rw [p.there g1 hne]; exact (h.own _ _ hm1).2⟩

theorem Mem.grow (h : Mem w0 w L) (e : Ext w w') : Mem w0 w' L := ⟨h.ext.trans e, fun g o hm => ⟨(h.own g o hm).1, e.heap (h.own g o hm).2⟩, h.nodup⟩

theorem Mem.sub (h : Mem w0 w L) {L' : List (Nat × Obj)} (hs : L'.Sublist L) : Mem w0 w L' := ⟨h.ext, fun g o hm => h.own g o (hs.subset hm), (hs.map Prod.fst).nodup h.nodup⟩
theorem Mem.tail (h : Mem w0 w L) : Mem w0 w L.tail := h.sub (List.tail_sublist L)

theorem Mem.add (h : Mem w0 w L) {g : Nat} {o : Obj} (ho : w.heap[g]? = some o) (hn : w0.heap.size ≤ g) (hd : ∀ p ∈ L, p.1 ≠ g) : Mem w0 w ((g, o) :: L) := by
  refine ⟨h.ext, fun g' o' hm => ?_, ?_⟩
  · rcases List.mem_cons.1 hm with e | hm
    · cases e; exact ⟨hn, ho⟩
    · exact h.own _ _ hm
  · rw [List.map_cons, List.nodup_cons]
    refine ⟨fun hm => ?_, h.nodup⟩
    obtain ⟨p, hp, e⟩ := List.mem_map.1 hm
    exact hd p hp e

/-- A cell of a block of one's own. -/
theorem Mem.cell (h : Mem w0 w L) (k : Nat) {g t i : Nat} {c : Array Value} {fr : Nat × Nat} {v : Value} (hk : L[k]? = some (g, .cells c t fr)) (hi : c[i]? = some v) : w.cell? ⟨g, i, none⟩ = some v := by
  have := h.get k hk
  simp [World.cell?, this, hi]

theorem Mem.rd (h : Mem w0 w L) (k : Nat) {g t : Nat} {cs : List Value} {fr : Nat × Nat} (hk : L[k]? = some (g, .cells cs.toArray t fr)) : Rd w g 0 cs := Rd.of_block (h.get k hk)

/-- What was there when the function began. -/
theorem Mem.old (h : Mem w0 w L) {p : Addr} {v : Value} (hv : w0.cell? p = some v) : w.cell? p = some v := h.ext.cell hv
theorem Mem.oldRd (h : Mem w0 w L) {b o : Nat} {cs : List Value} (hv : Rd w0 b o cs) : Rd w b o cs := hv.ext h.ext

theorem Mem.grown (h : Mem w0 w L) {row : Option Nat} (hg : w.grownBy w' row) (hr : ∀ k, row = some k → w0.heap.size ≤ k) (hd : ∀ p ∈ L, some p.1 ≠ row) : Mem w0 w' L := by
  refine ⟨⟨hg.os.trans h.ext.os, hg.tape.trans h.ext.tape, hg.output.trans h.ext.output, Nat.le_trans h.ext.size hg.size, fun k hk => ?_⟩, fun g o hm => ⟨(h.own g o hm).1, ?_⟩, h.nodup⟩
  · rw [hg.block k (Nat.lt_of_lt_of_le hk h.ext.size) (fun e => by have := hr k e.symm; omega)]
    exact h.ext.block k hk
  · rw [hg.block g (h.lt hm) (hd _ hm)]
    exact (h.own g o hm).2

theorem ownsRow_ext {base e size n : Nat} {v : Value} {xs : List Value} (h : w.ownsRow base e size v n xs) (he : Ext w w') : w'.ownsRow base e size v n xs := by
  obtain ⟨hl, hv | ⟨g, cap, cur, hv, hb, hg, h1⟩⟩ := h
  · exact ⟨hl, .inl hv⟩
  · exact ⟨hl, .inr ⟨g, cap, cur, hv, hb, he.heap hg, h1⟩⟩

theorem ownsRow_put {base e size n : Nat} {v : Value} {xs : List Value} (h : w.ownsRow base e size v n xs) {g : Nat} {o : Obj} (p : Put w g o w') (hne : v.ownBlock ≠ some g) : w'.ownsRow base e size v n xs := by
  obtain ⟨hl, hv | ⟨g', cap, cur, hv, hb, hg, h1⟩⟩ := h
  · exact ⟨hl, .inl hv⟩
  · refine ⟨hl, .inr ⟨g', cap, cur, hv, hb, ?_, h1⟩⟩
    rw [p.there g' (fun e => hne (by subst hv; simp [Value.ownBlock, e]))]
    exact hg

theorem Put.ext_of {g : Nat} {o : Obj} (p : Put w g o w') (e : Ext w0 w) (hg : w0.heap.size ≤ g) : Ext w0 w' :=
  ⟨p.os.trans e.os, p.tape.trans e.tape, p.output.trans e.output, by rw [p.size]; exact e.size, fun k hk => by rw [p.there k (by omega)]; exact e.block k hk⟩

theorem owns_block {base e size n g : Nat} {cs : List Value} (h : w.heap[g]? = some (.cells cs.toArray e (0, 0))) (hb : base ≤ g) (hl : cs.length = n * size) (hn : n ≤ maxLen) : w.ownsRow base e size (.slice (some ⟨g, 0, none⟩) n n) n cs :=
  ⟨hl, .inr ⟨g, n, cs.toArray, rfl, hb, h, Nat.le_refl _, hn, by simpa using hl, by simp [← hl]⟩⟩

/-- A slice that reads as a list of cells (each element 'size' of them): nil, or somewhere in memory. -/
def Reads (w : World) (A : Option Addr) (cs : List Value) : Prop := cs = [] ∨ ∃ b o, A = some ⟨b, o, none⟩ ∧ Rd w b o cs

theorem Reads.ext {A : Option Addr} {cs : List Value} (h : Reads w A cs) (e : Ext w w') : Reads w' A cs := h.imp id fun ⟨b, o, hb, hr⟩ => ⟨b, o, hb, hr.ext e⟩

theorem reads_of_owns {base e size n : Nat} {v : Value} {xs : List Value} (h : w.ownsRow base e size v n xs) : ∃ A cap, v = .slice A n cap ∧ Reads w A xs ∧ n ≤ cap := by
  obtain ⟨hl, ⟨rfl, rfl⟩ | ⟨g, cap, cur, rfl, hb, hg, h1, h2, h3, h4⟩⟩ := h
  · refine ⟨none, 0, rfl, .inl ?_, Nat.le_refl 0⟩
    simpa using hl
  · refine ⟨_, cap, rfl, .inr ⟨g, 0, rfl, fun i u hu => ?_⟩, h1⟩
    rw [← h4, List.getElem?_take] at hu
    split at hu
    · have : cur[i]? = some u := by simpa using hu
      simp [World.cell?, hg, this]
    · cases hu

theorem cell_of_block {g i t : Nat} {c : Array Value} {fr : Nat × Nat} {v : Value} (h : w.heap[g]? = some (.cells c t fr)) (hi : c[i]? = some v) : w.cell? ⟨g, i, none⟩ = some v := by simp [World.cell?, h, hi]

theorem grownBy_trans {a b c : World} {row : Option Nat} (h : a.grownBy b row) (k : b.grownBy c row) : a.grownBy c row :=
  ⟨k.os.trans h.os, k.tape.trans h.tape, k.output.trans h.output, Nat.le_trans h.size k.size, fun j hj hne => (k.block j (Nat.lt_of_lt_of_le hj h.size) hne).trans (h.block j hj hne)⟩
theorem grownBy_refl (a : World) (row : Option Nat) : a.grownBy a row := ⟨rfl, rfl, rfl, Nat.le_refl _, fun _ _ _ => rfl⟩
theorem ext_grownBy {a b : World} (h : Ext a b) (row : Option Nat) : a.grownBy b row := ⟨h.os, h.tape, h.output, h.size, fun k hk _ => h.block k hk⟩
theorem Put.grownBy {a b : World} {g : Nat} {o : Obj} (h : Put a g o b) : a.grownBy b (some g) := ⟨h.os, h.tape, h.output, by rw [h.size]; exact Nat.le_refl _, fun k _ hne => h.there k (fun e => hne (by rw [e]))⟩
theorem grownBy_heap {a b : World} {g k : Nat} {o : Obj} (h : a.grownBy b (some g)) (hk : a.heap[k]? = some o) (hne : k ≠ g) : b.heap[k]? = some o := by
  have hlt : k < a.heap.size := (Array.getElem?_eq_some_iff.1 hk).1
  rw [h.block k hlt (fun e => hne (Option.some.inj e))]; exact hk
theorem lt_of_heap {a : World} {k : Nat} {o : Obj} (hk : a.heap[k]? = some o) : k < a.heap.size := (Array.getElem?_eq_some_iff.1 hk).1

theorem reads_grown_by {gs : Nat} {A : Option Addr} {cs : List Value} (h : ∀ b o, A = some ⟨b, o, none⟩ → b ≠ gs) (hr : Reads w A cs) (hg : w.grownBy w' (some gs)) : Reads w' A cs := by
  rcases hr with hr | ⟨b, o, hA, hr⟩
  · exact .inl hr
  · refine .inr ⟨b, o, hA, fun i v hv => ?_⟩
    exact hg.cell (hr i v hv) (fun e => h b o hA (Option.some.inj e))


/-- Only blocks of one element type have turned (and new ones have come). -/
def Only (t0 : Nat) (w w' : World) : Prop := ∀ (q : Nat) (c : Array Value) (t : Nat) (fr : Nat × Nat), w.heap[q]? = some (.cells c t fr) → t ≠ t0 → w'.heap[q]? = some (.cells c t fr)

theorem only_ext (t0 : Nat) (h : Ext w w') : Only t0 w w' := fun _ _ _ _ hq _ => h.heap hq
theorem only_put {t0 g : Nat} {o : Obj} {c : Array Value} {fr : Nat × Nat} (h : Put w g o w') (hg : w.heap[g]? = some (.cells c t0 fr)) : Only t0 w w' := fun q c' t fr' hq hne => by
  rw [h.there q (fun e => by subst e; have := hq.symm.trans hg; simp at this; exact hne this.2.1)]
  exact hq
theorem only_app {t0 base size n : Nat} {v : Value} {xs : List Value} (ho : w.ownsRow base t0 size v n xs) (hg : w.grownBy w' v.ownBlock) : Only t0 w w' := fun q c t fr hq hne => by
  rw [hg.block q (lt_of_heap hq) ?_]
  · exact hq
  · intro e
    obtain ⟨_, hv | ⟨g', cap, cur, hv, _, hg', _⟩⟩ := ho
    · rw [hv.1] at e; cases e
    · rw [hv] at e
      have e : q = g' := by simpa [Value.ownBlock] using e
      subst e
      have := hq.symm.trans hg'
      simp at this
      exact hne this.2.1
theorem ownsRow_only {t0 base e size n : Nat} {v : Value} {xs : List Value} (h : w.ownsRow base e size v n xs) (k : Only t0 w w') (hne : e ≠ t0) : w'.ownsRow base e size v n xs := by
  obtain ⟨hl, hv | ⟨g, cap, cur, hv, hb, hg, h1⟩⟩ := h
  · exact ⟨hl, .inl hv⟩
  · exact ⟨hl, .inr ⟨g, cap, cur, hv, hb, k g cur e _ hg hne, h1⟩⟩
theorem ownsRow_base {base base' e size n : Nat} {v : Value} {xs : List Value} (h : w.ownsRow base' e size v n xs) (hb : base ≤ base') : w.ownsRow base e size v n xs := by
  obtain ⟨hl, hv | ⟨g, cap, cur, hv, hb', h1⟩⟩ := h
  · exact ⟨hl, .inl hv⟩
  · exact ⟨hl, .inr ⟨g, cap, cur, hv, Nat.le_trans hb hb', h1⟩⟩

/-- Below a bound, behind each kind of step. -/
theorem below_put {B g : Nat} {o : Obj} {w0 : World} (h : Below B w0 w) (p : Put w g o w') (hg : B ≤ g) : Below B w0 w' :=
  ⟨p.os.trans h.os, p.tape.trans h.tape, p.output.trans h.output, by rw [p.size]; exact h.size, fun k hk => by rw [p.there k (by omega)]; exact h.block k hk⟩
theorem below_ext {B : Nat} {w0 : World} (h : Below B w0 w) (e : Ext w w') (hB : B ≤ w.heap.size) : Below B w0 w' := h.trans (e.mono hB)
theorem below_app {B t0 size n : Nat} {w0 : World} {v : Value} {xs : List Value} (h : Below B w0 w) (ho : w.ownsRow B t0 size v n xs) (hg : w.grownBy w' v.ownBlock) (hB : B ≤ w.heap.size) : Below B w0 w' :=
  h.trans ⟨hg.os, hg.tape, hg.output, hg.size, fun k hk => hg.block k (by omega) (fun e => by have := (ho.lt k e.symm).1; omega)⟩

/-- Behind an append to a row of one's own: what was there when the function began is as it was. -/
theorem app_ext {e size n : Nat} {v : Value} {xs : List Value} (h : Ext w0 w) (ho : w.ownsRow w0.heap.size e size v n xs) (hg : w.grownBy w' v.ownBlock) : Ext w0 w' :=
  ((⟨h, fun _ _ hm => (by cases hm), List.nodup_nil⟩ : Mem w0 w []).grown hg (fun k hk => (ho.lt k hk).1) (fun p hp => (by cases hp))).ext

end Go.Eng
