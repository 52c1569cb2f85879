/- a part of the proof: steps, walks and plain laws that the law below stands on; no condition. -/
import Derived.Test.YthpdkdmbfdmamaaGreatDoorGEb
import Derived.Maps.Keyed
import Derived.MapKept
import Derived.DeepKeys4
import Derived.Lib.AppendZerosOnto
set_option linter.unusedVariables false
set_option linter.unusedSimpArgs false
set_option linter.unnecessarySimpa false
set_option linter.unusedSectionVars false
namespace Go.Eng
open Go.RowKit
open Go.Maps (Keyed)

/-- A map's block: its keys are good, no two alike; 'f' says what they lead to. -/
def MapIs (P : Program) (k : Nat) (w : World) (b : Nat) (f : Value → Option Value) : Prop :=
  ∃ es clk, w.heap[b]? = some (.map es clk) ∧ (∀ e ∈ es.toList, ∃ l, keyOf P k e.key = some l) ∧ (es.toList.map MapEntry.key).Nodup ∧ (∀ e ∈ es.toList, f e.key = some e.val) ∧ ∀ x v, f x = some v → ∃ e ∈ es.toList, e.key = x

theorem MapIs.ext {P : Program} {k : Nat} {w w' : World} {b : Nat} {f : Value → Option Value} (h : MapIs P k w b f) (e : Ext w w') : MapIs P k w' b f :=
  let ⟨es, clk, h1, h2⟩ := h
  ⟨es, clk, e.heap h1, h2⟩
theorem MapIs.put {P : Program} {k : Nat} {w w' : World} {b g : Nat} {o : Obj} {f : Value → Option Value} (h : MapIs P k w b f) (p : Put w g o w') (hne : b ≠ g) : MapIs P k w' b f :=
  let ⟨es, clk, h1, h2⟩ := h
  ⟨es, clk, (p.there b hne).trans h1, h2⟩
theorem MapIs.same {P : Program} {k : Nat} {w w' : World} {b : Nat} {f : Value → Option Value} (h : MapIs P k w b f) (e : w'.heap[b]? = w.heap[b]?) : MapIs P k w' b f :=
  let ⟨es, clk, h1, h2⟩ := h
  ⟨es, clk, e.trans h1, h2⟩
theorem MapIs.empty {P : Program} {k : Nat} {w : World} {b : Nat} (h : w.heap[b]? = some (.map #[] 0)) : MapIs P k w b fun _ => none :=
  ⟨#[], 0, h, fun _ h => by simp at h, by simp, fun _ h => by simp at h, fun _ _ h => by cases h⟩

open Classical in
noncomputable def updV (f : Value → Option Value) (x v : Value) : Value → Option Value := fun y => if y = x then some v else f y

section
variable {C : Cfg}

theorem mapGet (hC : C.Ok) {o : Oper} {t : Nat} {m ix : Operand} {ok : Bool} {l : Env} {w : World} {b k e : Nat} {x : Value} {lx : Lit} {ti te : TI} {f : Value → Option Value} (ho : o.op = .lookup t m ix ok)
    (hm : evo l m = some (.map (some b))) (hx : evo l ix = some x) (hti : C.ti t = some ti) (hd : ti.d = .map k e) (hte : C.ti e = some te) (K : Keyed C.P k) (hkey : keyOf C.P k x = some lx) (hM : MapIs C.P k w b f) :
    QuietRun C o l w (if ok then .tuple #[(f x).getD te.zero, .bool (f x).isSome] else (f x).getD te.zero) := by
  intro ρ hρ w' hw
  obtain ⟨es, clk, hb, hgood, hnd, hval, hdom⟩ := hM.ext hw
  have hu := (hC.ti hti).isMap hd
  unfold execOp
  rw [ho]
  have hchk : ∀ em, (Instr.checkKey em 10000 k x).run C.P w' = .ok () w' := fun em => K.check w' em hkey
  rcases K.find w' hkey es.toList hgood with ⟨h1, h2⟩ | ⟨j, e0, h1, h2, h3⟩
  · have hf : f x = none := by
      cases hfx : f x with
      | none => rfl
      | some v => obtain ⟨e, he, hk⟩ := hdom x v hfx; exact absurd hk (h2 e he)
    simp only [hρ _ _ hm, hρ _ _ hx, hf]
    cases ok <;> simp [Instr.lookup, run_underlying hu, MapKept.run_getObj_map hb, hchk, h1, (hC.ti hte).run_zero]
  · have hf : f x = some e0.val := by rw [← h3]; exact hval e0 (List.mem_of_getElem? h2)
    simp only [hρ _ _ hm, hρ _ _ hx, hf]
    cases ok <;> simp [Instr.lookup, run_underlying hu, MapKept.run_getObj_map hb, hchk, h1]

theorem mapGet1 (hC : C.Ok) {o : Oper} {t : Nat} {m ix : Operand} {l : Env} {w : World} {b k e : Nat} {x v : Value} {lx : Lit} {ti te : TI} {f : Value → Option Value} (hkey : keyOf C.P k x = some lx) (hM : MapIs C.P k w b f) (K : Keyed C.P k)
    (ho : o.op = .lookup t m ix false) (hm : evo l m = some (.map (some b))) (hx : evo l ix = some x) (hti : C.ti t = some ti) (hd : ti.d = .map k e) (hte : C.ti e = some te) (hv : (f x).getD te.zero = v) : QuietRun C o l w v := by
  have := mapGet hC ho hm hx hti hd hte K hkey hM
  rw [← hv]
  simpa using this

theorem mapGet2 (hC : C.Ok) {o : Oper} {t : Nat} {m ix : Operand} {l : Env} {w : World} {b k e : Nat} {x v : Value} {lx : Lit} {ti te : TI} {f : Value → Option Value} {ok : Bool} (hkey : keyOf C.P k x = some lx) (hM : MapIs C.P k w b f) (K : Keyed C.P k)
    (ho : o.op = .lookup t m ix true) (hm : evo l m = some (.map (some b))) (hx : evo l ix = some x) (hti : C.ti t = some ti) (hd : ti.d = .map k e) (hte : C.ti e = some te) (hv : (f x).getD te.zero = v) (hk : (f x).isSome = ok) : QuietRun C o l w (.tuple #[v, .bool ok]) := by
  have := mapGet hC ho hm hx hti hd hte K hkey hM
  rw [← hv, ← hk]
  simpa using this

theorem put_setObj {w w₁ : World} (hs : Same w w₁) {b : Nat} {o o' : Obj} (hg : w.heap[b]? = some o) : Put w b o' { w₁ with heap := w₁.heap.setIfInBounds b o' } := by
  have hlt : b < w.heap.size := (Array.getElem?_eq_some_iff.1 hg).1
  refine ⟨by simp [hs.heap], by simp [hs.heap, hlt], fun k hk => ?_, hs.os, hs.tape, hs.output⟩
  rw [Array.getElem?_setIfInBounds, if_neg (fun e => hk e.symm), hs.heap]

theorem mapPut (hC : C.Ok) {o : Oper} {t : Nat} {m ix xv : Operand} {l : Env} {w : World} {b k e : Nat} {x v : Value} {lx : Lit} {ti : TI} {f : Value → Option Value} (ho : o.op = .mapUpdate t m ix xv)
    (hm : evo l m = some (.map (some b))) (hx : evo l ix = some x) (hv : evo l xv = some v) (hti : C.ti t = some ti) (hd : ti.d = .map k e) (K : Keyed C.P k) (hkey : keyOf C.P k x = some lx) (hM : MapIs C.P k w b f)
    {Q : Value → World → Prop} (h : ∀ o' w', Put w b o' w' → MapIs C.P k w' b (updV f x v) → Q undef w') : LoudRun C o l w Q := by
  intro ρ hρ w₁ hs
  obtain ⟨es, clk, hb, hgood, hnd, hval, hdom⟩ := hM
  have hb1 : w₁.heap[b]? = some (.map es clk) := by rw [hs.heap]; exact hb
  have hu := (hC.ti hti).isMap hd
  have hchk : ∀ em, (Instr.checkKey em 10000 k x).run C.P w₁ = .ok () w₁ := fun em => K.check w₁ em hkey
  rcases K.find w₁ hkey es.toList hgood with ⟨h1, h2⟩ | ⟨j, e0, h1, h2, h3⟩
  · refine ⟨undef, _, _, .inr ⟨?_, rfl⟩, h _ _ (put_setObj hs (o' := .map (es.push ⟨x, v, clk⟩) (clk + 1)) hb) ?_, Same.refl _⟩
    · unfold execOp
      rw [ho]
      simp [hρ _ _ hm, hρ _ _ hx, hρ _ _ hv, Instr.mapUpdate, run_underlying hu, MapKept.run_getObj_map hb1, hchk, h1, MapKept.run_setObj_map _ hb1]
    · refine ⟨_, _, (put_setObj hs hb).here, ?_, ?_, ?_, ?_⟩
      · intro e he
        simp only [Array.toList_push, List.mem_append, List.mem_singleton] at he
        rcases he with he | rfl
        · exact hgood e he
        · exact ⟨_, hkey⟩
      · rw [Array.toList_push, List.map_append, List.nodup_append]
        refine ⟨hnd, by simp, ?_⟩
        intro a ha c hc
        obtain ⟨e, he, rfl⟩ := List.mem_map.1 ha
        have hc : c = x := by simpa using hc
        subst hc
        exact h2 e he
      · intro e he
        simp only [Array.toList_push, List.mem_append, List.mem_singleton] at he
        unfold updV
        rcases he with he | rfl
        · rw [if_neg (h2 e he)]; exact hval e he
        · simp
      · intro y u hy
        unfold updV at hy
        simp only [Array.toList_push, List.mem_append, List.mem_singleton]
        by_cases e : y = x
        · subst e; exact ⟨_, .inr rfl, rfl⟩
        · rw [if_neg e] at hy
          obtain ⟨e', he', hk⟩ := hdom y u hy
          exact ⟨e', .inl he', hk⟩
  · have hj : es[j]? = some e0 := by simpa using h2
    have hjl : j < es.toList.length := (List.getElem?_eq_some_iff.1 h2).1
    have hst : (Instr.keyThatStays e0.key x).run C.P w₁ = .ok x w₁ := by rw [h3]; exact K.stays w₁ hkey
    have emod : (es.modify j fun e => { e with key := x, val := v }).toList = es.toList.modify j fun e => { e with key := x, val := v } := by simp
    have hset : es.toList.modify j (fun e => { e with key := x, val := v }) = es.toList.set j { e0 with key := x, val := v } := by
      apply List.ext_getElem?
      intro i
      rw [List.getElem?_modify, List.getElem?_set]
      by_cases hij : j = i
      · subst hij; simp [h2]; simpa using hjl
      · simp [hij]
    refine ⟨undef, _, _, .inr ⟨?_, rfl⟩, h _ _ (put_setObj hs (o' := .map (es.modify j fun e => { e with key := x, val := v }) clk) hb) ?_, Same.refl _⟩
    · unfold execOp
      rw [ho]
      simp [hρ _ _ hm, hρ _ _ hx, hρ _ _ hv, Instr.mapUpdate, run_underlying hu, MapKept.run_getObj_map hb1, hchk, h1, hj, hst, MapKept.run_setObj_map _ hb1]
    · refine ⟨_, _, (put_setObj hs hb).here, ?_, ?_, ?_, ?_⟩
      · rw [emod, hset]
        intro e he
        rcases List.mem_or_eq_of_mem_set he with he | rfl
        · exact hgood e he
        · exact ⟨_, hkey⟩
      · rw [emod, hset, List.map_set]
        have : (es.toList.map MapEntry.key).set j x = es.toList.map MapEntry.key := by
          apply List.ext_getElem?
          intro i
          rw [List.getElem?_set]
          split
          · rename_i hi
            subst hi
            simp [hj, h3]
            simpa using hjl
          · rfl
        rw [this]; exact hnd
      · rw [emod, hset]
        intro e he
        unfold updV
        obtain ⟨i, hi⟩ := List.mem_iff_getElem?.1 he
        rw [List.getElem?_set] at hi
        by_cases hij : j = i
        · subst hij
          simp at hi
          have := hi.2
          subst this
          simp
        · rw [if_neg hij] at hi
          have hne : e.key ≠ x := by
            intro ek
            have h5 : (es.toList.map MapEntry.key)[i]? = some x := by rw [List.getElem?_map, hi]; simp [ek]
            have h6 : (es.toList.map MapEntry.key)[j]? = some x := by rw [List.getElem?_map, h2]; simp [h3]
            have hlt : i < (es.toList.map MapEntry.key).length := (List.getElem?_eq_some_iff.1 h5).1
            exact hij ((List.getElem?_inj hlt hnd).1 (h5.trans h6.symm)).symm
          rw [if_neg hne]
          exact hval e (List.mem_of_getElem? hi)
      · intro y u hy
        rw [emod, hset]
        unfold updV at hy
        by_cases e : y = x
        · subst e; exact ⟨_, List.mem_set hjl _, rfl⟩
        · rw [if_neg e] at hy
          obtain ⟨e', he', hk⟩ := hdom y u hy
          obtain ⟨i, hi⟩ := List.mem_iff_getElem?.1 he'
          refine ⟨e', List.mem_iff_getElem?.2 ⟨i, ?_⟩, hk⟩
          rw [List.getElem?_set, if_neg ?_]
          · exact hi
          · intro hji
            subst hji
            have := h2.symm.trans hi
            cases this
            exact e (hk.symm.trans h3)

theorem capQ (hC : C.Ok) {o : Oper} {t : Nat} {x : Operand} {l : Env} {w : World} {A : Option Addr} {n c e esz eb : Nat} {ti : TI} (ho : o.op = .call ⟨.builtin .cap, #[x], #[t]⟩) (hx : evo l x = some (.slice A n c)) (hti : C.ti t = some ti) (hd : ti.d = .slice e esz eb) :
    QuietRun C o l w (.int .i64 c) := by
  intro ρ hρ w' _
  have hu := ((hC.ti hti).isSlice hd).1
  unfold execOp
  rw [ho]
  simp [resolve, invoke, builtin, hρ _ _ hx, Builtin.cap_, run_underlying hu, goInt]

theorem ownsRow_cut {w : World} {base e size n k cap g : Nat} {xs : List Value} (h : w.ownsRow base e size (.slice (some ⟨g, 0, none⟩) n cap) n xs) (hk : k ≤ n) : w.ownsRow base e size (.slice (some ⟨g, 0, none⟩) k cap) k (xs.take (k * size)) := by
  obtain ⟨hl, ⟨hv, _⟩ | ⟨g', cap', cur, hv, h1, h2, h3, h4, h5, h6⟩⟩ := h
  · cases hv
  · cases hv
    have hkn : k * size ≤ n * size := Nat.mul_le_mul_right _ hk
    refine ⟨by rw [List.length_take, hl]; omega, .inr ⟨g, cap, cur, rfl, h1, h2, by omega, h4, h5, ?_⟩⟩
    rw [← h6, List.take_take, Nat.min_eq_left hkn]

theorem zeroCells_one (z : Value) (n : Nat) : Builtin.zeroCells #[z] n = (List.replicate n z).toArray := by
  apply Array.ext'
  unfold Builtin.zeroCells
  apply List.ext_getElem?
  intro i
  by_cases hi : i < n
  · simp [hi, Nat.mod_one]
  · simp [hi]

theorem appendMake (hC : C.Ok) {o : Oper} {t tn e eb n : Nat} {s x : Operand} {l : Env} {w : World} {q kn : IntKind} {ti tin te : TI} (ho : o.op = .call ⟨.builtin .append, #[s, x], #[t, tn]⟩)
    (hs : evo l s = some (.slice none 0 0)) (hx : evo l x = some (.int q n)) (hti : C.ti t = some ti) (hd : ti.d = .slice e 1 eb) (htin : C.ti tn = some tin) (hdn : tin.d = .int kn) (hte : C.ti e = some te) (hz : te.zero.cells = #[te.zero])
    (h0 : 0 < n) (hn : n ≤ maxLen) (hb : n * eb ≤ 140737488355328)
    {Q : Value → World → Prop} (h : ∀ g cap w', Ext w w' → w'.ownsRow w.heap.size e 1 (.slice (some ⟨g, 0, none⟩) n cap) n (List.replicate n te.zero) → Q (.slice (some ⟨g, 0, none⟩) n cap) w') : LoudRun C o l w Q := by
  intro ρ hρ w₁ hw
  obtain ⟨hu, i, hi, hisz, hby⟩ := (hC.ti hti).isSlice hd
  obtain ⟨i', hi', hsz', hz'⟩ := (hC.ti hte).got
  have hii : i' = i := Option.some.inj (hi'.symm.trans hi)
  subst hii
  have hun := (hC.ti htin).isInt hdn
  have hge := grownCap_ge w₁ n 0 e
  have hcm := grownCap_le_maxLen w₁ n 0 e hn
  have h63 : (n : Int) ≤ 9223372036854775807 := by simp only [maxLen] at hn; omega
  have hr := Go.Lib.run_append_nil_zeros (P := C.P) w₁ t tn o.type e i' te.zero q kn hu hun hi hz' n h0 (by rw [hisz]; exact Nat.one_pos) h63 (by rw [hby]; omega)
  rw [hz, zeroCells_one, zeroCells_one] at hr
  refine ⟨_, (w₁.drew.alloc (.cells ((List.replicate n te.zero).toArray ++ (List.replicate (grownCap w₁ n 0 e - n) te.zero).toArray) e)), _, .inl ?_, h w₁.heap.size (grownCap w₁ n 0 e) _ ?_ ?_, Same.refl _⟩
  · unfold execOp
    rw [ho]
    simp only [resolve, invoke, builtin, List.map_toArray, List.map_cons, List.map_nil, hρ _ _ hs, hρ _ _ hx, Sem.run_bind, Sem.run_pure, Result.andThen_ok, hr]
  · refine ⟨hw.os, hw.tape, hw.output, ?_, fun k hk => ?_⟩
    · show w.heap.size ≤ (w₁.heap.push _).size
      rw [hw.heap]; simp
    · show (w₁.heap.push _)[k]? = _
      rw [hw.heap, Array.getElem?_push, if_neg (Nat.ne_of_lt hk)]
  · refine ⟨by simp, .inr ⟨w₁.heap.size, _, (List.replicate n te.zero).toArray ++ (List.replicate (grownCap w₁ n 0 e - n) te.zero).toArray, rfl, by rw [hw.heap]; exact Nat.le_refl _, ?_, hge, hcm, ?_, ?_⟩⟩
    · show (w₁.heap.push _)[w₁.heap.size]? = _
      simp
    · simp; omega
    · simp
end

end Go.Eng

namespace Go.Eng
open Go.RowKit

/-- None of the blocks holds elements of this type. -/
def offT (t0 : Nat) : List (Nat × Obj) → Bool
  | [] => true
  | (_, .cells _ t _) :: r => !(Nat.beq t t0) && offT t0 r
  | _ => false

theorem Mem.onlyT {t0 : Nat} {w0 w w' : World} {L : List (Nat × Obj)} (M : Mem w0 w L) (E : Ext w0 w') (o : Only t0 w w') (h : offT t0 L = true) : Mem w0 w' L := by
  refine ⟨E, fun g ob hm => ⟨(M.own g ob hm).1, ?_⟩, M.nodup⟩
  have key : ∀ {L : List (Nat × Obj)}, offT t0 L = true → ∀ g ob, (g, ob) ∈ L → ∃ c t fr, ob = .cells c t fr ∧ t ≠ t0 := by
    intro L
    induction L with
    | nil => intro _ _ _ h; cases h
    | cons p r ih =>
      intro h g ob hm
      obtain ⟨g1, o1⟩ := p
      cases o1 with
      | cells c t fr =>
        simp only [offT, Bool.and_eq_true, Bool.not_eq_true'] at h
        rcases List.mem_cons.1 hm with e | hm
        · cases e
          exact ⟨c, t, fr, rfl, fun e => by subst e; rw [Nat.beq_refl] at h; cases h.1⟩
        · exact ih h.2 g ob hm
      | _ => simp [offT] at h
  obtain ⟨c, t, fr, rfl, hne⟩ := key h g ob hm
  exact o _ _ _ _ (M.own g _ hm).2 hne

theorem splice_take {cs vs : List Value} {o m : Nat} (h : o + vs.length ≤ m) : (splice cs o vs).take m = splice (cs.take m) o vs := by
  by_cases hl : m ≤ cs.length
  · unfold splice
    rw [List.take_append, List.take_append]
    have h1 : (cs.take o).length = o := by simp; omega
    rw [List.take_of_length_le (by omega : (cs.take o).length ≤ m), List.take_take, Nat.min_eq_left (by omega : o ≤ m)]
    rw [List.length_append, h1, List.take_of_length_le (by omega : vs.length ≤ m - o)]
    rw [List.drop_take]
  · rw [List.take_of_length_le (by omega : cs.length ≤ m)]
    refine List.take_of_length_le ?_
    unfold splice
    simp only [List.length_append, List.length_take, List.length_drop]
    omega

/-- A row of one's own that lies somewhere: its block; what a store leaves. -/
theorem ownsRow_open {w : World} {base e size n cap g : Nat} {xs : List Value} (h : w.ownsRow base e size (.slice (some ⟨g, 0, none⟩) n cap) n xs) :
    ∃ cur : List Value, w.heap[g]? = some (.cells cur.toArray e (0, 0)) ∧ base ≤ g ∧ n * size ≤ cur.length ∧ cur.length = cap * size ∧ n ≤ cap ∧ xs.length = n * size ∧ cur.take (n * size) = xs ∧
      ∀ (o : Nat) (vs : List Value) (w' : World), o + vs.length ≤ n * size → Put w g (.cells (splice cur o vs).toArray e (0, 0)) w' → w'.ownsRow base e size (.slice (some ⟨g, 0, none⟩) n cap) n (splice xs o vs) := by
  obtain ⟨hl, ⟨hv, _⟩ | ⟨g', cap', cur, hv, h1, h2, h3, h4, h5, h6⟩⟩ := h
  · cases hv
  · cases hv
    have h5' : cur.toList.length = cap * size := by simpa using h5
    have hnc : n * size ≤ cap * size := Nat.mul_le_mul_right _ h3
    refine ⟨cur.toList, by simpa using h2, h1, by omega, h5', h3, hl, h6, fun o vs w' ho p => ⟨?_, .inr ⟨g, cap, (splice cur.toList o vs).toArray, rfl, h1, p.here, h3, h4, ?_, ?_⟩⟩⟩
    · rw [splice_length (by omega)]; exact hl
    · rw [List.size_toArray, splice_length (by omega)]; exact h5'
    · rw [List.toList_toArray, splice_take ho, h6]

theorem zeroCells_props (zc : Array Value) (n : Nat) (h1 : zc.toList.all (·.oneCell') = true) (hz : 0 < zc.size) : (Builtin.zeroCells zc n).toList.length = n * zc.size ∧ ∀ v ∈ (Builtin.zeroCells zc n).toList, v.oneCell' = true := by
  unfold Builtin.zeroCells
  refine ⟨by simp, fun v hv => ?_⟩
  simp only [Array.toList_map, List.mem_map] at hv
  obtain ⟨i, _, rfl⟩ := hv
  have hi : i % zc.size < zc.size := Nat.mod_lt _ hz
  rw [getElem!_pos zc _ hi]
  exact List.all_eq_true.1 h1 _ (by simp)

section
variable {C : Cfg}

theorem clearRow (hC : C.Ok) {o : Oper} {t e esz eb m c g off : Nat} {x : Operand} {l : Env} {w : World} {A : Option Addr} {ti te : TI} {cur : List Value} (ho : o.op = .call ⟨.builtin .clear, #[x], #[t]⟩)
    (hx : evo l x = some (.slice A m c)) (hti : C.ti t = some ti) (hd : ti.d = .slice e esz eb) (hte : C.ti e = some te) (h1 : te.zero.cells.toList.all (·.oneCell') = true) (hz : te.zero.cells.size = esz) (hpos : 0 < esz)
    (hA : A = some ⟨g, off, none⟩) (hm : 0 < m) (hg : w.heap[g]? = some (.cells cur.toArray e (0, 0))) (hin : off + m * esz ≤ cur.length)
    {Q : Value → World → Prop} (h : ∀ zs w', zs.length = m * esz → Put w g (.cells (splice cur off zs).toArray e (0, 0)) w' → Q (.tuple #[]) w') : LoudRun C o l w Q := by
  intro ρ hρ w₁ hs
  subst hA
  have hu := ((hC.ti hti).isSlice hd).1
  obtain ⟨hzl, hz1⟩ := zeroCells_props te.zero.cells m h1 (by omega)
  rw [hz] at hzl
  have hg1 : w₁.heap[g]? = some (.cells cur.toArray e (0, 0)) := by rw [hs.heap]; exact hg
  have hst := run_storeCells_at (P := C.P) g off e (Builtin.zeroCells te.zero.cells m).toList 0 cur.toArray w₁ hg1 (by simp only [List.size_toArray]; omega) hz1
  have hrun : (Builtin.clear_ #[t] o.type #[.slice (some ⟨g, off, none⟩) m c]).run C.P w₁ = .ok (.tuple #[]) (w₁.setRow g (splice cur off (Builtin.zeroCells te.zero.cells m).toList).toArray) := by
    obtain ⟨k, rfl⟩ : ∃ k, m = k + 1 := ⟨m - 1, by omega⟩
    unfold Builtin.clear_
    simp [run_underlying hu, (hC.ti hte).run_zero]
    simp at hst
    rw [hst]
    simp [splice]
  refine ⟨.tuple #[], _, _, .inl ?_, h _ _ hzl (put_setRow hs hg), Same.refl _⟩
  unfold execOp
  rw [ho]
  simp only [resolve, invoke, builtin, List.map_toArray, List.map_cons, List.map_nil, hρ _ _ hx, Sem.run_bind, Sem.run_pure, Result.andThen_ok, hrun]
end

end Go.Eng

namespace Go.Eng

variable {α : Type}
theorem flat_get {enc : α → List Value} {k : Nat} (hk : ∀ x, (enc x).length = k) : ∀ (l : List α) (i c : Nat) (hi : i < l.length), c < k → (l.flatMap enc)[i * k + c]? = (enc l[i])[c]?
  | [], i, c, hi, _ => by simp at hi
  | x :: l, 0, c, _, hc => by
    rw [List.flatMap_cons, Nat.zero_mul, Nat.zero_add, List.getElem?_append_left (by rw [hk]; exact hc)]
    rfl
  | x :: l, i + 1, c, hi, hc => by
    rw [List.flatMap_cons, List.getElem?_append_right (by rw [hk, Nat.add_mul]; omega), hk]
    have e : (i + 1) * k + c - k = i * k + c := by rw [Nat.add_mul]; omega
    rw [e, flat_get hk l i c (by simpa using hi) hc]
    rfl
theorem flat_length {enc : α → List Value} {k : Nat} (hk : ∀ x, (enc x).length = k) (l : List α) : (l.flatMap enc).length = l.length * k := by
  induction l with
  | nil => simp
  | cons x l ih => rw [List.flatMap_cons, List.length_append, hk, ih, List.length_cons, Nat.add_mul]; omega


end Go.Eng
