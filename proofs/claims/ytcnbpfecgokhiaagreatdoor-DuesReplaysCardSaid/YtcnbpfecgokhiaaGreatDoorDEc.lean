/- a part of the proof: steps, walks and plain laws that the law below stands on; no condition. -/
import Derived.Test.YtcnbpfecgokhiaaGreatDoorDEb
import Derived.Maps.Keyed
import Derived.MapKept
import Derived.DeepKeys4
import Derived.Lib.AppendZerosOnto
import Derived.Maps.RangeRun
set_option linter.unusedVariables false
set_option linter.unusedSimpArgs false
set_option linter.unnecessarySimpa false
set_option linter.unusedSectionVars false
namespace Go.Eng
open Go.RowKit
open Go.Maps (Keyed)

/-- A map's block: its keys are good, no two alike; 'f' says what they lead to. -/
def MapIs (P : Program) (k : Nat) (w : World) (b : Nat) (f : Value → Option Value) : Prop :=
  ∃ es clk, w.heap[b]? = some (.map es clk) ∧ (∀ e ∈ es.toList, ∃ l, keyOf P k e.key = some l) ∧ (es.toList.map MapEntry.key).Nodup ∧ (∀ e ∈ es.toList, f e.key = some e.val) ∧ ∀ x v, f x = some v → ∃ e ∈ es.toList, e.key = x

theorem MapIs.ext {P : Program} {k : Nat} {w w' : World} {b : Nat} {f : Value → Option Value} (h : MapIs P k w b f) (e : Ext w w') : MapIs P k w' b f :=
  let ⟨es, clk, h1, h2⟩ := h
  ⟨es, clk, e.heap h1, h2⟩
theorem MapIs.put {P : Program} {k : Nat} {w w' : World} {b g : Nat} {o : Obj} {f : Value → Option Value} (h : MapIs P k w b f) (p : Put w g o w') (hne : b ≠ g) : MapIs P k w' b f :=
  let ⟨es, clk, h1, h2⟩ := h
  ⟨es, clk, (p.there b hne).trans h1, h2⟩
theorem MapIs.same {P : Program} {k : Nat} {w w' : World} {b : Nat} {f : Value → Option Value} (h : MapIs P k w b f) (e : w'.heap[b]? = w.heap[b]?) : MapIs P k w' b f :=
  let ⟨es, clk, h1, h2⟩ := h
  ⟨es, clk, e.trans h1, h2⟩
theorem MapIs.empty {P : Program} {k : Nat} {w : World} {b : Nat} (h : w.heap[b]? = some (.map #[] 0)) : MapIs P k w b fun _ => none :=
  ⟨#[], 0, h, fun _ h => by simp at h, by simp, fun _ h => by simp at h, fun _ _ h => by cases h⟩

open Classical in
noncomputable def updV (f : Value → Option Value) (x v : Value) : Value → Option Value := fun y => if y = x then some v else f y

section
variable {C : Cfg}

theorem mapGet (hC : C.Ok) {o : Oper} {t : Nat} {m ix : Operand} {ok : Bool} {l : Env} {w : World} {b k e : Nat} {x : Value} {lx : Lit} {ti te : TI} {f : Value → Option Value} (ho : o.op = .lookup t m ix ok)
    (hm : evo l m = some (.map (some b))) (hx : evo l ix = some x) (hti : C.ti t = some ti) (hd : ti.d = .map k e) (hte : C.ti e = some te) (K : Keyed C.P k) (hkey : keyOf C.P k x = some lx) (hM : MapIs C.P k w b f) :
    QuietRun C o l w (if ok then .tuple #[(f x).getD te.zero, .bool (f x).isSome] else (f x).getD te.zero) := by
  intro ρ hρ w' hw
  obtain ⟨es, clk, hb, hgood, hnd, hval, hdom⟩ := hM.ext hw
  have hu := (hC.ti hti).isMap hd
  unfold execOp
  rw [ho]
  have hchk : ∀ em, (Instr.checkKey em 10000 k x).run C.P w' = .ok () w' := fun em => K.check w' em hkey
  rcases K.find w' hkey es.toList hgood with ⟨h1, h2⟩ | ⟨j, e0, h1, h2, h3⟩
  · have hf : f x = none := by
      cases hfx : f x with
      | none => rfl
      | some v => obtain ⟨e, he, hk⟩ := hdom x v hfx; exact absurd hk (h2 e he)
    simp only [hρ _ _ hm, hρ _ _ hx, hf]
    cases ok <;> simp [Instr.lookup, run_underlying hu, MapKept.run_getObj_map hb, hchk, h1, (hC.ti hte).run_zero]
  · have hf : f x = some e0.val := by rw [← h3]; exact hval e0 (List.mem_of_getElem? h2)
    simp only [hρ _ _ hm, hρ _ _ hx, hf]
    cases ok <;> simp [Instr.lookup, run_underlying hu, MapKept.run_getObj_map hb, hchk, h1]

theorem mapGet1 (hC : C.Ok) {o : Oper} {t : Nat} {m ix : Operand} {l : Env} {w : World} {b k e : Nat} {x v : Value} {lx : Lit} {ti te : TI} {f : Value → Option Value} (hkey : keyOf C.P k x = some lx) (hM : MapIs C.P k w b f) (K : Keyed C.P k)
    (ho : o.op = .lookup t m ix false) (hm : evo l m = some (.map (some b))) (hx : evo l ix = some x) (hti : C.ti t = some ti) (hd : ti.d = .map k e) (hte : C.ti e = some te) (hv : (f x).getD te.zero = v) : QuietRun C o l w v := by
  have := mapGet hC ho hm hx hti hd hte K hkey hM
  rw [← hv]
  simpa using this

theorem mapGet2 (hC : C.Ok) {o : Oper} {t : Nat} {m ix : Operand} {l : Env} {w : World} {b k e : Nat} {x v : Value} {lx : Lit} {ti te : TI} {f : Value → Option Value} {ok : Bool} (hkey : keyOf C.P k x = some lx) (hM : MapIs C.P k w b f) (K : Keyed C.P k)
    (ho : o.op = .lookup t m ix true) (hm : evo l m = some (.map (some b))) (hx : evo l ix = some x) (hti : C.ti t = some ti) (hd : ti.d = .map k e) (hte : C.ti e = some te) (hv : (f x).getD te.zero = v) (hk : (f x).isSome = ok) : QuietRun C o l w (.tuple #[v, .bool ok]) := by
  have := mapGet hC ho hm hx hti hd hte K hkey hM
  rw [← hv, ← hk]
  simpa using this

theorem put_setObj {w w₁ : World} (hs : Same w w₁) {b : Nat} {o o' : Obj} (hg : w.heap[b]? = some o) : Put w b o' { w₁ with heap := w₁.heap.setIfInBounds b o' } := by
  have hlt : b < w.heap.size := (Array.getElem?_eq_some_iff.1 hg).1
  refine ⟨by simp [hs.heap], by simp [hs.heap, hlt], fun k hk => ?_, hs.os, hs.tape, hs.output⟩
  rw [Array.getElem?_setIfInBounds, if_neg (fun e => hk e.symm), hs.heap]

theorem mapPut (hC : C.Ok) {o : Oper} {t : Nat} {m ix xv : Operand} {l : Env} {w : World} {b k e : Nat} {x v : Value} {lx : Lit} {ti : TI} {f : Value → Option Value} (ho : o.op = .mapUpdate t m ix xv)
    (hm : evo l m = some (.map (some b))) (hx : evo l ix = some x) (hv : evo l xv = some v) (hti : C.ti t = some ti) (hd : ti.d = .map k e) (K : Keyed C.P k) (hkey : keyOf C.P k x = some lx) (hM : MapIs C.P k w b f)
    {Q : Value → World → Prop} (h : ∀ o' w', Put w b o' w' → MapIs C.P k w' b (updV f x v) → Q undef w') : LoudRun C o l w Q := by
  intro ρ hρ w₁ hs
  obtain ⟨es, clk, hb, hgood, hnd, hval, hdom⟩ := hM
  have hb1 : w₁.heap[b]? = some (.map es clk) := by rw [hs.heap]; exact hb
  have hu := (hC.ti hti).isMap hd
  have hchk : ∀ em, (Instr.checkKey em 10000 k x).run C.P w₁ = .ok () w₁ := fun em => K.check w₁ em hkey
  rcases K.find w₁ hkey es.toList hgood with ⟨h1, h2⟩ | ⟨j, e0, h1, h2, h3⟩
  · refine ⟨undef, _, _, .inr ⟨?_, rfl⟩, h _ _ (put_setObj hs (o' := .map (es.push ⟨x, v, clk⟩) (clk + 1)) hb) ?_, Same.refl _⟩
    · unfold execOp
      rw [ho]
      simp [hρ _ _ hm, hρ _ _ hx, hρ _ _ hv, Instr.mapUpdate, run_underlying hu, MapKept.run_getObj_map hb1, hchk, h1, MapKept.run_setObj_map _ hb1]
    · refine ⟨_, _, (put_setObj hs hb).here, ?_, ?_, ?_, ?_⟩
      · intro e he
        simp only [Array.toList_push, List.mem_append, List.mem_singleton] at he
        rcases he with he | rfl
        · exact hgood e he
        · exact ⟨_, hkey⟩
      · rw [Array.toList_push, List.map_append, List.nodup_append]
        refine ⟨hnd, by simp, ?_⟩
        intro a ha c hc
        obtain ⟨e, he, rfl⟩ := List.mem_map.1 ha
        have hc : c = x := by simpa using hc
        subst hc
        exact h2 e he
      · intro e he
        simp only [Array.toList_push, List.mem_append, List.mem_singleton] at he
        unfold updV
        rcases he with he | rfl
        · rw [if_neg (h2 e he)]; exact hval e he
        · simp
      · intro y u hy
        unfold updV at hy
        simp only [Array.toList_push, List.mem_append, List.mem_singleton]
        by_cases e : y = x
        · subst e; exact ⟨_, .inr rfl, rfl⟩
        · rw [if_neg e] at hy
          obtain ⟨e', he', hk⟩ := hdom y u hy
          exact ⟨e', .inl he', hk⟩
  · have hj : es[j]? = some e0 := by simpa using h2
    have hjl : j < es.toList.length := (List.getElem?_eq_some_iff.1 h2).1
    have hst : (Instr.keyThatStays e0.key x).run C.P w₁ = .ok x w₁ := by rw [h3]; exact K.stays w₁ hkey
    have emod : (es.modify j fun e => { e with key := x, val := v }).toList = es.toList.modify j fun e => { e with key := x, val := v } := by simp
    have hset : es.toList.modify j (fun e => { e with key := x, val := v }) = es.toList.set j { e0 with key := x, val := v } := by
      apply List.ext_getElem?
      intro i
      rw [List.getElem?_modify, List.getElem?_set]
      by_cases hij : j = i
      · subst hij; simp [h2]; simpa using hjl
      · simp [hij]
    refine ⟨undef, _, _, .inr ⟨?_, rfl⟩, h _ _ (put_setObj hs (o' := .map (es.modify j fun e => { e with key := x, val := v }) clk) hb) ?_, Same.refl _⟩
    · unfold execOp
      rw [ho]
      simp [hρ _ _ hm, hρ _ _ hx, hρ _ _ hv, Instr.mapUpdate, run_underlying hu, MapKept.run_getObj_map hb1, hchk, h1, hj, hst, MapKept.run_setObj_map _ hb1]
    · refine ⟨_, _, (put_setObj hs hb).here, ?_, ?_, ?_, ?_⟩
      · rw [emod, hset]
        intro e he
        rcases List.mem_or_eq_of_mem_set he with he | rfl
        · exact hgood e he
        · exact ⟨_, hkey⟩
      · rw [emod, hset, List.map_set]
        have : (es.toList.map MapEntry.key).set j x = es.toList.map MapEntry.key := by
          apply List.ext_getElem?
          intro i
          rw [List.getElem?_set]
          split
          · rename_i hi
            subst hi
            simp [hj, h3]
            simpa using hjl
          · rfl
        rw [this]; exact hnd
      · rw [emod, hset]
        intro e he
        unfold updV
        obtain ⟨i, hi⟩ := List.mem_iff_getElem?.1 he
        rw [List.getElem?_set] at hi
        by_cases hij : j = i
        · subst hij
          simp at hi
          have := hi.2
          subst this
          simp
        · rw [if_neg hij] at hi
          have hne : e.key ≠ x := by
            intro ek
            have h5 : (es.toList.map MapEntry.key)[i]? = some x := by rw [List.getElem?_map, hi]; simp [ek]
            have h6 : (es.toList.map MapEntry.key)[j]? = some x := by rw [List.getElem?_map, h2]; simp [h3]
            have hlt : i < (es.toList.map MapEntry.key).length := (List.getElem?_eq_some_iff.1 h5).1
            exact hij ((List.getElem?_inj hlt hnd).1 (h5.trans h6.symm)).symm
          rw [if_neg hne]
          exact hval e (List.mem_of_getElem? hi)
      · intro y u hy
        rw [emod, hset]
        unfold updV at hy
        by_cases e : y = x
        · subst e; exact ⟨_, List.mem_set hjl _, rfl⟩
        · rw [if_neg e] at hy
          obtain ⟨e', he', hk⟩ := hdom y u hy
          obtain ⟨i, hi⟩ := List.mem_iff_getElem?.1 he'
          refine ⟨e', List.mem_iff_getElem?.2 ⟨i, ?_⟩, hk⟩
          rw [List.getElem?_set, if_neg ?_]
          · exact hi
          · intro hji
            subst hji
            have := h2.symm.trans hi
            cases this
            exact e (hk.symm.trans h3)

theorem capQ (hC : C.Ok) {o : Oper} {t : Nat} {x : Operand} {l : Env} {w : World} {A : Option Addr} {n c e esz eb : Nat} {ti : TI} (ho : o.op = .call ⟨.builtin .cap, #[x], #[t]⟩) (hx : evo l x = some (.slice A n c)) (hti : C.ti t = some ti) (hd : ti.d = .slice e esz eb) :
    QuietRun C o l w (.int .i64 c) := by
  intro ρ hρ w' _
  have hu := ((hC.ti hti).isSlice hd).1
  unfold execOp
  rw [ho]
  simp [resolve, invoke, builtin, hρ _ _ hx, Builtin.cap_, run_underlying hu, goInt]

theorem ownsRow_cut {w : World} {base e size n k cap g : Nat} {xs : List Value} (h : w.ownsRow base e size (.slice (some ⟨g, 0, none⟩) n cap) n xs) (hk : k ≤ n) : w.ownsRow base e size (.slice (some ⟨g, 0, none⟩) k cap) k (xs.take (k * size)) := by
  obtain ⟨hl, ⟨hv, _⟩ | ⟨g', cap', cur, hv, h1, h2, h3, h4, h5, h6⟩⟩ := h
  · cases hv
  · cases hv
    have hkn : k * size ≤ n * size := Nat.mul_le_mul_right _ hk
    refine ⟨by rw [List.length_take, hl]; omega, .inr ⟨g, cap, cur, rfl, h1, h2, by omega, h4, h5, ?_⟩⟩
    rw [← h6, List.take_take, Nat.min_eq_left hkn]

theorem zeroCells_one (z : Value) (n : Nat) : Builtin.zeroCells #[z] n = (List.replicate n z).toArray := by
  apply Array.ext'
  unfold Builtin.zeroCells
  apply List.ext_getElem?
  intro i
  by_cases hi : i < n
  · simp [hi, Nat.mod_one]
  · simp [hi]

theorem appendMake (hC : C.Ok) {o : Oper} {t tn e eb n : Nat} {s x : Operand} {l : Env} {w : World} {q kn : IntKind} {ti tin te : TI} (ho : o.op = .call ⟨.builtin .append, #[s, x], #[t, tn]⟩)
    (hs : evo l s = some (.slice none 0 0)) (hx : evo l x = some (.int q n)) (hti : C.ti t = some ti) (hd : ti.d = .slice e 1 eb) (htin : C.ti tn = some tin) (hdn : tin.d = .int kn) (hte : C.ti e = some te) (hz : te.zero.cells = #[te.zero])
    (h0 : 0 < n) (hn : n ≤ maxLen) (hb : n * eb ≤ 140737488355328)
    {Q : Value → World → Prop} (h : ∀ g cap w', Ext w w' → w'.ownsRow w.heap.size e 1 (.slice (some ⟨g, 0, none⟩) n cap) n (List.replicate n te.zero) → Q (.slice (some ⟨g, 0, none⟩) n cap) w') : LoudRun C o l w Q := by
  intro ρ hρ w₁ hw
  obtain ⟨hu, i, hi, hisz, hby⟩ := (hC.ti hti).isSlice hd
  obtain ⟨i', hi', hsz', hz'⟩ := (hC.ti hte).got
  have hii : i' = i := Option.some.inj (hi'.symm.trans hi)
  subst hii
  have hun := (hC.ti htin).isInt hdn
  have hge := grownCap_ge w₁ n 0 e
  have hcm := grownCap_le_maxLen w₁ n 0 e hn
  have h63 : (n : Int) ≤ 9223372036854775807 := by simp only [maxLen] at hn; omega
  have hr := Go.Lib.run_append_nil_zeros (P := C.P) w₁ t tn o.type e i' te.zero q kn hu hun hi hz' n h0 (by rw [hisz]; exact Nat.one_pos) h63 (by rw [hby]; omega)
  rw [hz, zeroCells_one, zeroCells_one] at hr
  refine ⟨_, (w₁.drew.alloc (.cells ((List.replicate n te.zero).toArray ++ (List.replicate (grownCap w₁ n 0 e - n) te.zero).toArray) e)), _, .inl ?_, h w₁.heap.size (grownCap w₁ n 0 e) _ ?_ ?_, Same.refl _⟩
  · unfold execOp
    rw [ho]
    simp only [resolve, invoke, builtin, List.map_toArray, List.map_cons, List.map_nil, hρ _ _ hs, hρ _ _ hx, Sem.run_bind, Sem.run_pure, Result.andThen_ok, hr]
  · refine ⟨hw.os, hw.tape, hw.output, ?_, fun k hk => ?_⟩
    · show w.heap.size ≤ (w₁.heap.push _).size
      rw [hw.heap]; simp
    · show (w₁.heap.push _)[k]? = _
      rw [hw.heap, Array.getElem?_push, if_neg (Nat.ne_of_lt hk)]
  · refine ⟨by simp, .inr ⟨w₁.heap.size, _, (List.replicate n te.zero).toArray ++ (List.replicate (grownCap w₁ n 0 e - n) te.zero).toArray, rfl, by rw [hw.heap]; exact Nat.le_refl _, ?_, hge, hcm, ?_, ?_⟩⟩
    · show (w₁.heap.push _)[w₁.heap.size]? = _
      simp
    · simp; omega
    · simp
end

end Go.Eng

namespace Go.Eng
open Go.RowKit

/-- None of the blocks holds elements of this type. -/
def offT (t0 : Nat) : List (Nat × Obj) → Bool
  | [] => true
  | (_, .cells _ t _) :: r => !(Nat.beq t t0) && offT t0 r
  | _ => false

theorem Mem.onlyT {t0 : Nat} {w0 w w' : World} {L : List (Nat × Obj)} (M : Mem w0 w L) (E : Ext w0 w') (o : Only t0 w w') (h : offT t0 L = true) : Mem w0 w' L := by
  refine ⟨E, fun g ob hm => ⟨(M.own g ob hm).1, ?_⟩, M.nodup⟩
  have key : ∀ {L : List (Nat × Obj)}, offT t0 L = true → ∀ g ob, (g, ob) ∈ L → ∃ c t fr, ob = .cells c t fr ∧ t ≠ t0 := by
    intro L
    induction L with
    | nil => intro _ _ _ h; cases h
    | cons p r ih =>
      intro h g ob hm
      obtain ⟨g1, o1⟩ := p
      cases o1 with
      | cells c t fr =>
        simp only [offT, Bool.and_eq_true, Bool.not_eq_true'] at h
        rcases List.mem_cons.1 hm with e | hm
        · cases e
          exact ⟨c, t, fr, rfl, fun e => by subst e; rw [Nat.beq_refl] at h; cases h.1⟩
        · exact ih h.2 g ob hm
      | _ => simp [offT] at h
  obtain ⟨c, t, fr, rfl, hne⟩ := key h g ob hm
  exact o _ _ _ _ (M.own g _ hm).2 hne

theorem splice_take {cs vs : List Value} {o m : Nat} (h : o + vs.length ≤ m) : (splice cs o vs).take m = splice (cs.take m) o vs := by
  by_cases hl : m ≤ cs.length
  · unfold splice
    rw [List.take_append, List.take_append]
    have h1 : (cs.take o).length = o := by simp; omega
    rw [List.take_of_length_le (by omega : (cs.take o).length ≤ m), List.take_take, Nat.min_eq_left (by omega : o ≤ m)]
    rw [List.length_append, h1, List.take_of_length_le (by omega : vs.length ≤ m - o)]
    rw [List.drop_take]
  · rw [List.take_of_length_le (by omega : cs.length ≤ m)]
    refine List.take_of_length_le ?_
    unfold splice
    simp only [List.length_append, List.length_take, List.length_drop]
    omega

/-- A row of one's own that lies somewhere: its block; what a store leaves. -/
theorem ownsRow_open {w : World} {base e size n cap g : Nat} {xs : List Value} (h : w.ownsRow base e size (.slice (some ⟨g, 0, none⟩) n cap) n xs) :
    ∃ cur : List Value, w.heap[g]? = some (.cells cur.toArray e (0, 0)) ∧ base ≤ g ∧ n * size ≤ cur.length ∧ cur.length = cap * size ∧ n ≤ cap ∧ xs.length = n * size ∧ cur.take (n * size) = xs ∧
      ∀ (o : Nat) (vs : List Value) (w' : World), o + vs.length ≤ n * size → Put w g (.cells (splice cur o vs).toArray e (0, 0)) w' → w'.ownsRow base e size (.slice (some ⟨g, 0, none⟩) n cap) n (splice xs o vs) := by
  obtain ⟨hl, ⟨hv, _⟩ | ⟨g', cap', cur, hv, h1, h2, h3, h4, h5, h6⟩⟩ := h
  · cases hv
  · cases hv
    have h5' : cur.toList.length = cap * size := by simpa using h5
    have hnc : n * size ≤ cap * size := Nat.mul_le_mul_right _ h3
    refine ⟨cur.toList, by simpa using h2, h1, by omega, h5', h3, hl, h6, fun o vs w' ho p => ⟨?_, .inr ⟨g, cap, (splice cur.toList o vs).toArray, rfl, h1, p.here, h3, h4, ?_, ?_⟩⟩⟩
    · rw [splice_length (by omega)]; exact hl
    · rw [List.size_toArray, splice_length (by omega)]; exact h5'
    · rw [List.toList_toArray, splice_take ho, h6]

theorem zeroCells_props (zc : Array Value) (n : Nat) (h1 : zc.toList.all (·.oneCell') = true) (hz : 0 < zc.size) : (Builtin.zeroCells zc n).toList.length = n * zc.size ∧ ∀ v ∈ (Builtin.zeroCells zc n).toList, v.oneCell' = true := by
  unfold Builtin.zeroCells
  refine ⟨by simp, fun v hv => ?_⟩
  simp only [Array.toList_map, List.mem_map] at hv
  obtain ⟨i, _, rfl⟩ := hv
  have hi : i % zc.size < zc.size := Nat.mod_lt _ hz
  rw [getElem!_pos zc _ hi]
  exact List.all_eq_true.1 h1 _ (by simp)

section
variable {C : Cfg}

theorem clearRow (hC : C.Ok) {o : Oper} {t e esz eb m c g off : Nat} {x : Operand} {l : Env} {w : World} {A : Option Addr} {ti te : TI} {cur : List Value} (ho : o.op = .call ⟨.builtin .clear, #[x], #[t]⟩)
    (hx : evo l x = some (.slice A m c)) (hti : C.ti t = some ti) (hd : ti.d = .slice e esz eb) (hte : C.ti e = some te) (h1 : te.zero.cells.toList.all (·.oneCell') = true) (hz : te.zero.cells.size = esz) (hpos : 0 < esz)
    (hA : A = some ⟨g, off, none⟩) (hm : 0 < m) (hg : w.heap[g]? = some (.cells cur.toArray e (0, 0))) (hin : off + m * esz ≤ cur.length)
    {Q : Value → World → Prop} (h : ∀ zs w', zs.length = m * esz → Put w g (.cells (splice cur off zs).toArray e (0, 0)) w' → Q (.tuple #[]) w') : LoudRun C o l w Q := by
  intro ρ hρ w₁ hs
  subst hA
  have hu := ((hC.ti hti).isSlice hd).1
  obtain ⟨hzl, hz1⟩ := zeroCells_props te.zero.cells m h1 (by omega)
  rw [hz] at hzl
  have hg1 : w₁.heap[g]? = some (.cells cur.toArray e (0, 0)) := by rw [hs.heap]; exact hg
  have hst := run_storeCells_at (P := C.P) g off e (Builtin.zeroCells te.zero.cells m).toList 0 cur.toArray w₁ hg1 (by simp only [List.size_toArray]; omega) hz1
  have hrun : (Builtin.clear_ #[t] o.type #[.slice (some ⟨g, off, none⟩) m c]).run C.P w₁ = .ok (.tuple #[]) (w₁.setRow g (splice cur off (Builtin.zeroCells te.zero.cells m).toList).toArray) := by
    obtain ⟨k, rfl⟩ : ∃ k, m = k + 1 := ⟨m - 1, by omega⟩
    unfold Builtin.clear_
    simp [run_underlying hu, (hC.ti hte).run_zero]
    simp at hst
    rw [hst]
    simp [splice]
  refine ⟨.tuple #[], _, _, .inl ?_, h _ _ hzl (put_setRow hs hg), Same.refl _⟩
  unfold execOp
  rw [ho]
  simp only [resolve, invoke, builtin, List.map_toArray, List.map_cons, List.map_nil, hρ _ _ hx, Sem.run_bind, Sem.run_pure, Result.andThen_ok, hrun]
end

end Go.Eng

namespace Go.Eng

variable {α : Type}
theorem flat_get {enc : α → List Value} {k : Nat} (hk : ∀ x, (enc x).length = k) : ∀ (l : List α) (i c : Nat) (hi : i < l.length), c < k → (l.flatMap enc)[i * k + c]? = (enc l[i])[c]?
  | [], i, c, hi, _ => by simp at hi
  | x :: l, 0, c, _, hc => by
    rw [List.flatMap_cons, Nat.zero_mul, Nat.zero_add, List.getElem?_append_left (by rw [hk]; exact hc)]
    rfl
  | x :: l, i + 1, c, hi, hc => by
    rw [List.flatMap_cons, List.getElem?_append_right (by rw [hk, Nat.add_mul]; omega), hk]
    have e : (i + 1) * k + c - k = i * k + c := by rw [Nat.add_mul]; omega
    rw [e, flat_get hk l i c (by simpa using hi) hc]
    rfl
theorem flat_length {enc : α → List Value} {k : Nat} (hk : ∀ x, (enc x).length = k) (l : List α) : (l.flatMap enc).length = l.length * k := by
  induction l with
  | nil => simp
  | cons x l ih => rw [List.flatMap_cons, List.length_append, hk, ih, List.length_cons, Nat.add_mul]; omega


end Go.Eng

namespace Go.Eng
open Go.RowKit

theorem Mem.swap {w0 w : World} {a b : Nat × Obj} (h : Mem w0 w [a, b]) : Mem w0 w [b, a] := by
  refine ⟨h.ext, fun g o hm => h.own g o (by simp at hm ⊢; exact hm.symm), ?_⟩
  have := h.nodup
  simp at this ⊢
  exact fun e => this e.symm

/-- The block of a row that lies below a bound stays while a row above it grows. -/
theorem reads_below {w w' : World} {A : Option Addr} {cs : List Value} {B : Nat} {row : Option Nat} (h : Reads w A cs) (hA : ∀ b o, A = some ⟨b, o, none⟩ → b < B) (hg : w.grownBy w' row) (hr : ∀ k, row = some k → B ≤ k) : Reads w' A cs := by
  rcases h with h | ⟨b, o, e, hrd⟩
  · exact .inl h
  · refine .inr ⟨b, o, e, fun i v hv => hg.cell (hrd i v hv) (fun e' => ?_)⟩
    have h1 := hA b o e
    have h2 := hr b e'.symm
    omega

theorem rd_grown {w w' : World} {b o : Nat} {cs : List Value} {row : Option Nat} (h : Rd w b o cs) (hg : w.grownBy w' row) (hne : row ≠ some b) : Rd w' b o cs := fun i v hv => hg.cell (h i v hv) (fun e => hne e.symm)

/-- A row of one's own grows: the blocks that 'D' names are others. -/
theorem Keep.grown {D : Nat → Prop} {a b c : World} {row : Option Nat} (h : Keep D a b) (hg : b.grownBy c row) (hne : ∀ k, row = some k → ¬ D k) : Keep D a c :=
  ⟨hg.os.trans h.os, hg.tape.trans h.tape, hg.output.trans h.output, Nat.le_trans h.size hg.size, fun k hD hk => (hg.block k (Nat.lt_of_lt_of_le hk h.size) (fun e => hne k e.symm hD)).trans (h.block k hD hk)⟩
theorem Keep.below {a b : World} (h : Ext a b) : Keep (fun q => q < a.heap.size) a b := ⟨h.os, h.tape, h.output, h.size, fun k _ hk => h.block k hk⟩

theorem splice_in {a e b vs : List Value} {c : Nat} (hc : c + vs.length ≤ e.length) : splice (a ++ (e ++ b)) (a.length + c) vs = a ++ (splice e c vs ++ b) := by
  unfold splice
  have h1 : (a ++ (e ++ b)).take (a.length + c) = a ++ e.take c := by
    rw [List.take_append, List.take_of_length_le (by omega), show a.length + c - a.length = c by omega, List.take_append_of_le_length (by omega)]
  have h2 : (a ++ (e ++ b)).drop (a.length + c + vs.length) = e.drop (c + vs.length) ++ b := by
    rw [List.drop_append, List.drop_eq_nil_of_le (by omega), show a.length + c + vs.length - a.length = c + vs.length by omega, List.drop_append_of_le_length (by omega), List.nil_append]
  rw [h1, h2]
  simp

/-- A part of one element of a row is written. -/
theorem flat_field {α : Type} {enc : α → List Value} {k : Nat} (hk : ∀ x, (enc x).length = k) {l : List α} {i : Nat} (hi : i < l.length) {y : α} {c : Nat} {vs : List Value} (h : splice (enc l[i]) c vs = enc y) (hc : c + vs.length ≤ k) :
    splice (l.flatMap enc) (i * k + c) vs = (l.set i y).flatMap enc := by
  have e1 : l.flatMap enc = (l.take i).flatMap enc ++ (enc l[i] ++ (l.drop (i + 1)).flatMap enc) := by
    conv => lhs; rw [← List.take_append_drop i l, List.drop_eq_getElem_cons hi]
    rw [List.flatMap_append, List.flatMap_cons]
  have hl : ((l.take i).flatMap enc).length = i * k := by
    have : ∀ m : List α, (m.flatMap enc).length = m.length * k := by
      intro m
      induction m with
      | nil => simp
      | cons x r ih => rw [List.flatMap_cons, List.length_append, hk, ih, List.length_cons, Nat.add_mul, Nat.one_mul, Nat.add_comm]
    rw [this, List.length_take, Nat.min_eq_left (Nat.le_of_lt hi)]
  have e2 : (l.set i y).flatMap enc = (l.take i).flatMap enc ++ (enc y ++ (l.drop (i + 1)).flatMap enc) := by
    rw [List.set_eq_take_append_cons_drop, if_pos hi, List.flatMap_append, List.flatMap_cons]
  rw [e1, e2, ← hl, splice_in (by rw [hk]; exact hc), h]

end Go.Eng

namespace Go.Eng
open Go.RowKit
open Go.Maps (Keyed)

/-- A map's block holds these pairs (in whatever order). -/
def MapL (P : Program) (k : Nat) (w : World) (b : Nat) (D : List (Value × Value)) : Prop :=
  ∃ es clk, w.heap[b]? = some (.map es clk) ∧ (∀ e ∈ es.toList, ∃ l, keyOf P k e.key = some l) ∧ (es.toList.map MapEntry.key).Nodup ∧ (∀ e ∈ es.toList, e.born < clk) ∧ (es.toList.map MapEntry.born).Nodup ∧
    (es.toList.map fun e => (e.key, e.val)).Perm D

theorem MapL.ext {P : Program} {k : Nat} {w w' : World} {b : Nat} {D : List (Value × Value)} (h : MapL P k w b D) (e : Ext w w') : MapL P k w' b D :=
  let ⟨es, clk, h1, h2⟩ := h
  ⟨es, clk, e.heap h1, h2⟩
theorem MapL.same {P : Program} {k : Nat} {w w' : World} {b : Nat} {D : List (Value × Value)} (h : MapL P k w b D) (e : w'.heap[b]? = w.heap[b]?) : MapL P k w' b D :=
  let ⟨es, clk, h1, h2⟩ := h
  ⟨es, clk, e.trans h1, h2⟩
theorem MapL.perm {P : Program} {k : Nat} {w : World} {b : Nat} {D D' : List (Value × Value)} (h : MapL P k w b D) (p : D.Perm D') : MapL P k w b D' :=
  let ⟨es, clk, h1, h2, h3, h4, h5, h6⟩ := h
  ⟨es, clk, h1, h2, h3, h4, h5, h6.trans p⟩
theorem MapL.empty {P : Program} {k : Nat} {w : World} {b : Nat} (h : w.heap[b]? = some (.map #[] 0)) : MapL P k w b [] :=
  ⟨#[], 0, h, fun _ h => by simp at h, by simp, fun _ h => by simp at h, by simp, by simp⟩
theorem MapL.lt {P : Program} {k : Nat} {w : World} {b : Nat} {D : List (Value × Value)} (h : MapL P k w b D) : b < w.heap.size := by
  obtain ⟨es, clk, h1, _⟩ := h
  exact lt_of_heap h1

section
variable {C : Cfg}

theorem mapLGet (hC : C.Ok) {o : Oper} {t : Nat} {m ix : Operand} {l : Env} {w : World} {b k e : Nat} {x v : Value} {lx : Lit} {ti te : TI} {D : List (Value × Value)} {ok : Bool} (hkey : keyOf C.P k x = some lx) (hM : MapL C.P k w b D) (K : Keyed C.P k)
    (ho : o.op = .lookup t m ix true) (hm : evo l m = some (.map (some b))) (hx : evo l ix = some x) (hti : C.ti t = some ti) (hd : ti.d = .map k e) (hte : C.ti e = some te)
    (hv : (ok = true ∧ (x, v) ∈ D) ∨ (ok = false ∧ v = te.zero ∧ ∀ u, (x, u) ∉ D)) : QuietRun C o l w (.tuple #[v, .bool ok]) := by
  intro ρ hρ w' hw
  obtain ⟨es, clk, hb, hgood, hnd, _, _, hp⟩ := hM.ext hw
  have hu := (hC.ti hti).isMap hd
  unfold execOp
  rw [ho]
  have hchk : ∀ em, (Instr.checkKey em 10000 k x).run C.P w' = .ok () w' := fun em => K.check w' em hkey
  rcases K.find w' hkey es.toList hgood with ⟨h1, h2⟩ | ⟨j, e0, h1, h2, h3⟩
  · have hno : ∀ u, (x, u) ∉ D := fun u hu => by
      obtain ⟨e1, he1, e2⟩ := List.mem_map.1 (hp.mem_iff.2 hu)
      injection e2 with e2 _
      exact h2 e1 he1 e2
    rcases hv with ⟨_, hv⟩ | ⟨rfl, rfl, _⟩
    · exact absurd hv (hno v)
    · simp only [hρ _ _ hm, hρ _ _ hx]
      simp [Instr.lookup, run_underlying hu, MapKept.run_getObj_map hb, hchk, h1, (hC.ti hte).run_zero]
  · have hmem : (x, e0.val) ∈ D := hp.mem_iff.1 (List.mem_map.2 ⟨e0, List.mem_of_getElem? h2, by rw [h3]⟩)
    have huniq : ∀ u, (x, u) ∈ D → u = e0.val := fun u hu => by
      obtain ⟨e1, he1, e2⟩ := List.mem_map.1 (hp.mem_iff.2 hu)
      injection e2 with e2 e2'
      obtain ⟨i, hi⟩ := List.mem_iff_getElem?.1 he1
      have a1 : (es.toList.map MapEntry.key)[i]? = some x := by rw [List.getElem?_map, hi, ← e2]; rfl
      have a2 : (es.toList.map MapEntry.key)[j]? = some x := by rw [List.getElem?_map, h2, ← h3]; rfl
      have hlt : i < (es.toList.map MapEntry.key).length := (List.getElem?_eq_some_iff.1 a1).1
      have := (List.getElem?_inj hlt hnd).1 (a1.trans a2.symm)
      subst this
      rw [hi] at h2
      injection h2 with h2
      rw [← e2', h2]
    rcases hv with ⟨rfl, hv⟩ | ⟨_, _, hv⟩
    · have := huniq v hv
      subst this
      simp only [hρ _ _ hm, hρ _ _ hx]
      simp [Instr.lookup, run_underlying hu, MapKept.run_getObj_map hb, hchk, h1]
    · exact absurd hmem (hv _)

theorem mapLPut (hC : C.Ok) {o : Oper} {t : Nat} {m ix xv : Operand} {l : Env} {w : World} {b k e : Nat} {x v : Value} {lx : Lit} {ti : TI} {D : List (Value × Value)} (hkey : keyOf C.P k x = some lx) (hM : MapL C.P k w b D) (K : Keyed C.P k)
    (ho : o.op = .mapUpdate t m ix xv) (hm : evo l m = some (.map (some b))) (hx : evo l ix = some x) (hv : evo l xv = some v) (hti : C.ti t = some ti) (hd : ti.d = .map k e) (hno : ∀ u, (x, u) ∉ D)
    {Q : Value → World → Prop} (h : ∀ o' w', Put w b o' w' → MapL C.P k w' b (D ++ [(x, v)]) → Q undef w') : LoudRun C o l w Q := by
  intro ρ hρ w₁ hs
  obtain ⟨es, clk, hb, hgood, hnd, hborn, hbn, hp⟩ := hM
  have hb1 : w₁.heap[b]? = some (.map es clk) := by rw [hs.heap]; exact hb
  have hu := (hC.ti hti).isMap hd
  have hchk : ∀ em, (Instr.checkKey em 10000 k x).run C.P w₁ = .ok () w₁ := fun em => K.check w₁ em hkey
  rcases K.find w₁ hkey es.toList hgood with ⟨h1, h2⟩ | ⟨j, e0, h1, h2, h3⟩
  · refine ⟨undef, _, _, .inr ⟨?_, rfl⟩, h _ _ (put_setObj hs (o' := .map (es.push ⟨x, v, clk⟩) (clk + 1)) hb) ?_, Same.refl _⟩
    · unfold execOp
      rw [ho]
      simp [hρ _ _ hm, hρ _ _ hx, hρ _ _ hv, Instr.mapUpdate, run_underlying hu, MapKept.run_getObj_map hb1, hchk, h1, MapKept.run_setObj_map _ hb1]
    · refine ⟨_, _, (put_setObj hs hb).here, ?_, ?_, ?_, ?_, ?_⟩
      · intro e he
        simp only [Array.toList_push, List.mem_append, List.mem_singleton] at he
        rcases he with he | rfl
        · exact hgood e he
        · exact ⟨_, hkey⟩
      · rw [Array.toList_push, List.map_append, List.nodup_append]
        refine ⟨hnd, by simp, ?_⟩
        intro a ha c hc
        obtain ⟨e, he, rfl⟩ := List.mem_map.1 ha
        have hc : c = x := by simpa using hc
        subst hc
        exact h2 e he
      · intro e he
        simp only [Array.toList_push, List.mem_append, List.mem_singleton] at he
        rcases he with he | rfl
        · exact Nat.lt_succ_of_lt (hborn e he)
        · exact Nat.lt_succ_self _
      · rw [Array.toList_push, List.map_append, List.nodup_append]
        refine ⟨hbn, by simp, ?_⟩
        intro a ha c hc
        obtain ⟨e, he, rfl⟩ := List.mem_map.1 ha
        have hc : c = clk := by simpa using hc
        subst hc
        exact Nat.ne_of_lt (hborn e he)
      · rw [Array.toList_push, List.map_append]
        exact hp.append_right _
  · exact absurd (hp.mem_iff.1 (List.mem_map.2 ⟨e0, List.mem_of_getElem? h2, by rw [h3]⟩)) (hno e0.val)

open Classical in
/-- The pairs but that of a key. -/
noncomputable def dropK (x : Value) (D : List (Value × Value)) : List (Value × Value) := D.filter fun p => !decide (p.1 = x)

theorem eraseIdx_keys {l : List MapEntry} {j : Nat} {e0 : MapEntry} {x : Value} (hnd : (l.map MapEntry.key).Nodup) (h2 : l[j]? = some e0) (h3 : e0.key = x) : ((l.eraseIdx j).map fun e => (e.key, e.val)) = dropK x (l.map fun e => (e.key, e.val)) := by
  classical
  induction l generalizing j with
  | nil => simp at h2
  | cons a r ih =>
    rw [List.map_cons, List.nodup_cons] at hnd
    cases j with
    | zero =>
      simp at h2
      subst h2
      have hr : ∀ e ∈ r, e.key ≠ x := fun e he hk => hnd.1 (List.mem_map.2 ⟨e, he, by rw [hk, h3]⟩)
      unfold dropK
      rw [List.eraseIdx_cons_zero, List.map_cons, List.filter_cons, if_neg (by simp [h3])]
      symm
      rw [List.filter_eq_self]
      intro p hp
      obtain ⟨e, he, rfl⟩ := List.mem_map.1 hp
      simpa using hr e he
    | succ j =>
      have h2' : r[j]? = some e0 := by simpa using h2
      have hak : a.key ≠ x := fun hk => hnd.1 (List.mem_map.2 ⟨e0, List.mem_of_getElem? h2', by rw [h3, hk]⟩)
      have := ih hnd.2 h2'
      unfold dropK at this ⊢
      rw [List.eraseIdx_cons_succ, List.map_cons, List.map_cons, List.filter_cons, if_pos (by simpa using hak), this]

theorem mapLDel (hC : C.Ok) {o : Oper} {t kt : Nat} {m ix : Operand} {l : Env} {w : World} {b k e : Nat} {x : Value} {lx : Lit} {ti : TI} {D : List (Value × Value)} (hkey : keyOf C.P k x = some lx) (hM : MapL C.P k w b D) (K : Keyed C.P k)
    (ho : o.op = .call ⟨.builtin .delete, #[m, ix], #[t, kt]⟩) (hm : evo l m = some (.map (some b))) (hx : evo l ix = some x) (hti : C.ti t = some ti) (hd : ti.d = .map k e)
    {Q : Value → World → Prop} (h : ∀ o' w', Put w b o' w' → MapL C.P k w' b (dropK x D) → Q (.tuple #[]) w') : LoudRun C o l w Q := by
  classical
  intro ρ hρ w₁ hs
  obtain ⟨es, clk, hb, hgood, hnd, hborn, hbn, hp⟩ := hM
  have hb1 : w₁.heap[b]? = some (.map es clk) := by rw [hs.heap]; exact hb
  have hu := (hC.ti hti).isMap hd
  have hchk : ∀ em, (Instr.checkKey em 10000 k x).run C.P w₁ = .ok () w₁ := fun em => K.check w₁ em hkey
  have hfil : (dropK x (es.toList.map fun e => (e.key, e.val))).Perm (dropK x D) := hp.filter _
  rcases K.find w₁ hkey es.toList hgood with ⟨h1, h2⟩ | ⟨j, e0, h1, h2, h3⟩
  · refine ⟨.tuple #[], _, _, .inl ?_, h _ _ (put_setObj hs (o' := .map es clk) hb) ?_, Same.refl _⟩
    · unfold execOp
      rw [ho]
      simp [resolve, invoke, builtin, hρ _ _ hm, hρ _ _ hx, Builtin.delete_, run_underlying hu, MapKept.run_getObj_map hb1, hchk, h1, MapKept.run_setObj_map _ hb1]
    · refine ⟨_, _, (put_setObj hs hb).here, hgood, hnd, hborn, hbn, ?_⟩
      refine List.Perm.trans ?_ hfil
      have : dropK x (es.toList.map fun e => (e.key, e.val)) = es.toList.map fun e => (e.key, e.val) := by
        unfold dropK
        rw [List.filter_eq_self]
        intro p hp
        obtain ⟨e, he, rfl⟩ := List.mem_map.1 hp
        simpa using h2 e he
      rw [this]
  · have hjl : j < es.toList.length := (List.getElem?_eq_some_iff.1 h2).1
    have hel : (es.eraseIdxIfInBounds j).toList = es.toList.eraseIdx j := by
      unfold Array.eraseIdxIfInBounds
      rw [dif_pos (by simpa using hjl)]
      simp
    have hsub : (es.eraseIdxIfInBounds j).toList.Sublist es.toList := by rw [hel]; exact List.eraseIdx_sublist _ _
    refine ⟨.tuple #[], _, _, .inl ?_, h _ _ (put_setObj hs (o' := .map (es.eraseIdxIfInBounds j) clk) hb) ?_, Same.refl _⟩
    · unfold execOp
      rw [ho]
      simp [resolve, invoke, builtin, hρ _ _ hm, hρ _ _ hx, Builtin.delete_, run_underlying hu, MapKept.run_getObj_map hb1, hchk, h1, MapKept.run_setObj_map _ hb1]
    · refine ⟨_, _, (put_setObj hs hb).here, fun e he => hgood e (hsub.subset he), (hsub.map _).nodup hnd, fun e he => hborn e (hsub.subset he), (hsub.map _).nodup hbn, ?_⟩
      rw [hel, eraseIdx_keys hnd h2 h3]
      exact hfil

/-- A walk over a map: 'D' are the pairs that are still to come. -/
def Walks (w : World) (b r : Nat) (D : List (Value × Value)) : Prop :=
  ∃ es clk since seen c0, w.heap[b]? = some (.map es clk) ∧ w.heap[r]? = some (.mapIter (some b) since seen c0) ∧ (∀ e ∈ es.toList, e.born < since) ∧ (es.toList.map MapEntry.born).Nodup ∧ since ≤ c0 ∧ since ≤ clk ∧
    (((es.toList.filter fun e => !seen.contains e.born).map fun e => (e.key, e.val))).Perm D

theorem Walks.keep {w w' : World} {b r : Nat} {D : List (Value × Value)} (h : Walks w b r D) (hb : w'.heap[b]? = w.heap[b]?) (hr : w'.heap[r]? = w.heap[r]?) : Walks w' b r D := by
  obtain ⟨es, clk, since, seen, c0, h1, h2, h3⟩ := h
  exact ⟨es, clk, since, seen, c0, hb.trans h1, hr.trans h2, h3⟩
theorem Walks.lt {w : World} {b r : Nat} {D : List (Value × Value)} (h : Walks w b r D) : b < w.heap.size ∧ r < w.heap.size := by
  obtain ⟨es, clk, since, seen, c0, h1, h2, h3⟩ := h
  exact ⟨lt_of_heap h1, lt_of_heap h2⟩

theorem walkStart (hC : C.Ok) {o : Oper} {t : Nat} {m : Operand} {l : Env} {w : World} {b k e : Nat} {ti : TI} {D : List (Value × Value)} (hM : MapL C.P k w b D)
    (ho : o.op = .range t m) (hm : evo l m = some (.map (some b))) (hti : C.ti t = some ti) (hd : ti.d = .map k e)
    {Q : Value → World → Prop} (h : ∀ r w', Ext w w' → w.heap.size ≤ r → Walks w' b r D → Q (.pointer (some ⟨r, 0, none⟩)) w') : LoudRun C o l w Q := by
  intro ρ hρ w₁ hs
  obtain ⟨es, clk, hb, hgood, hnd, hborn, hbn, hp⟩ := hM
  have hb1 : w₁.heap[b]? = some (.map es clk) := by rw [hs.heap]; exact hb
  have hu := (hC.ti hti).isMap hd
  have hlt : b < w₁.heap.size := lt_of_heap hb1
  have ha : Alloc w w.heap.size (.mapIter (some b) clk #[] clk) (w₁.alloc (.mapIter (some b) clk #[] clk)) := Alloc.of_same hs _
  refine ⟨.pointer (some ⟨w₁.heap.size, 0, none⟩), w₁.alloc (.mapIter (some b) clk #[] clk), _, .inl ?_, h _ _ ha.ext (by rw [hs.heap]; exact Nat.le_refl _) ?_, Same.refl _⟩
  · unfold execOp
    rw [ho]
    simp only [hρ _ _ hm]
    have := run_range_map w₁ t k e b es clk hu hb1
    simp [this]
  · refine ⟨es, clk, clk, #[], clk, ha.ext.heap hb, ?_, hborn, hbn, Nat.le_refl _, Nat.le_refl _, ?_⟩
    · rw [hs.heap]; exact ha.here
    · have : (es.toList.filter fun e => !(#[] : Array Nat).contains e.born) = es.toList := by rw [List.filter_eq_self]; simp
      rw [this]; exact hp

theorem left_toList (es : Array MapEntry) (seen : Array Nat) : (leftOf es seen).toList = es.toList.filter fun e => !seen.contains e.born := by
  unfold leftOf
  simp

theorem pick_perm (seen : Array Nat) {e : MapEntry} : ∀ {L : List MapEntry}, (L.map MapEntry.born).Nodup → e ∈ L → seen.contains e.born = false → (L.filter fun x => !seen.contains x.born).Perm (e :: L.filter fun x => !(seen.push e.born).contains x.born)
  | [], _, h, _ => by cases h
  | a :: r, hnd, hm, hs => by
    rw [List.map_cons, List.nodup_cons] at hnd
    have key : ∀ x : MapEntry, x.born ≠ e.born → (!(seen.push e.born).contains x.born) = !seen.contains x.born := fun x hx => by simp [hx]
    rcases List.mem_cons.1 hm with rfl | hm
    · have hr : (r.filter fun x => !(seen.push e.born).contains x.born) = r.filter fun x => !seen.contains x.born :=
        List.filter_congr fun x hx => key x fun hh => hnd.1 (List.mem_map.2 ⟨x, hx, hh⟩)
      rw [List.filter_cons, if_pos (by rw [hs]; rfl), List.filter_cons, if_neg (by simp), hr]
    · have hae : a.born ≠ e.born := fun hh => hnd.1 (List.mem_map.2 ⟨e, hm, hh.symm⟩)
      have ih := pick_perm seen hnd.2 hm hs
      rw [List.filter_cons, List.filter_cons, key a hae]
      split
      · exact (List.Perm.cons a ih).trans (List.Perm.swap e a _)
      · exact ih

theorem walkNext (hC : C.Ok) {o : Oper} {it : Operand} {l : Env} {w : World} {b r : Nat} {D : List (Value × Value)} (hW : Walks w b r D) (hne : b ≠ r)
    (ho : o.op = .next it false) (hit : evo l it = some (.pointer (some ⟨r, 0, none⟩)))
    {Q : Value → World → Prop} (h0 : D = [] → Q (.tuple #[.bool false]) w) (h1 : ∀ p D', D.Perm (p :: D') → ∀ o' w', Put w r o' w' → Walks w' b r D' → Q (.tuple #[.bool true, p.1, p.2]) w') : LoudRun C o l w Q := by
  intro ρ hρ w₁ hs
  obtain ⟨es, clk, since, seen, c0, hb, hr, hold, hbn, hsc, hsk, hp⟩ := hW
  have hb1 : w₁.heap[b]? = some (.map es clk) := by rw [hs.heap]; exact hb
  have hr1 : w₁.heap[r]? = some (.mapIter (some b) since seen c0) := by rw [hs.heap]; exact hr
  have exec : ∀ v w2, (Instr.next (.pointer (some ⟨r, 0, none⟩)) false o.type).run C.P w₁ = .ok v w2 → (execOp ρ o).run C.P w₁ = .ok (.value v) w2 := fun v w2 hh => by
    unfold execOp
    rw [ho]
    simp only [hρ _ _ hit]
    simp [hh]
  rcases run_next_at (P := C.P) w₁ o.type r b since c0 seen es clk hr1 hb1 hold hsc with ⟨hz, hrun⟩ | ⟨e, he, w1, hal, hrun⟩
  · refine ⟨_, w, w₁, .inl (exec _ _ hrun), h0 ?_, hs⟩
    have : (leftOf es seen).toList = [] := by rw [Array.toList_eq_nil_iff]; exact Array.eq_empty_of_size_eq_zero hz
    rw [left_toList] at this
    rw [this] at hp
    exact hp.symm.eq_nil
  · rw [left_toList] at he
    obtain ⟨hem, hes⟩ := List.mem_filter.1 he
    have hs1 : Same w w1 := by
      rcases hal with rfl | rfl
      · exact hs
      · exact hs.drew
    have hput : Put w r (.mapIter (some b) since (seen.push e.born) clk) (Go.ChangeMaps.setBlock w1 r (.mapIter (some b) since (seen.push e.born) clk)) := put_setObj hs1 hr
    have hfil := pick_perm seen hbn hem (by simpa using hes)
    refine ⟨_, _, _, .inl (exec _ _ hrun), h1 (e.key, e.val) ((es.toList.filter fun x => !(seen.push e.born).contains x.born).map fun e => (e.key, e.val)) (hp.symm.trans (by have := hfil.map (fun e : MapEntry => (e.key, e.val)); exact this)) _ _ hput ?_, Same.refl _⟩
    exact ⟨es, clk, since, seen.push e.born, clk, by rw [hput.there b hne]; exact hb, hput.here, hold, hbn, hsk, hsk, List.Perm.refl _⟩

end
end Go.Eng

namespace Go.Eng
open Go.RowKit
open Go.Maps (Keyed)

section
variable {C : Cfg}

theorem LoudRun.same {o o' : Oper} {l : Env} {w : World} {Q : Value → World → Prop} (h : ∀ ρ, execOp ρ o = execOp ρ o') (k : LoudRun C o' l w Q) : LoudRun C o l w Q := by
  intro ρ hρ w₁ hs
  rw [h ρ]
  exact k ρ hρ w₁ hs

theorem insPut (hC : C.Ok) {o : Oper} {t : Nat} {m ix xv : Operand} {l : Env} {w : World} {b k e : Nat} {x v : Value} {lx : Lit} {ti : TI} {f : Value → Option Value} (K : Keyed C.P k) (hkey : keyOf C.P k x = some lx) (hM : MapIs C.P k w b f)
    (ho : o.op = .insert t m ix xv) (hm : evo l m = some (.map (some b))) (hx : evo l ix = some x) (hv : evo l xv = some v) (hti : C.ti t = some ti) (hd : ti.d = .map k e)
    {Q : Value → World → Prop} (h : ∀ o' w', Put w b o' w' → MapIs C.P k w' b (updV f x v) → Q undef w') : LoudRun C o l w Q :=
  LoudRun.same (o' := { o with op := .mapUpdate t m ix xv }) (fun ρ => by unfold execOp; rw [ho]) (mapPut hC rfl hm hx hv hti hd K hkey hM h)

/-- The pair that the last step of a walk handed out. -/
def WalkAt (w : World) (b r : Nat) (p : Value × Value) : Prop :=
  ∃ (es : Array MapEntry) (clk since : Nat) (seen : Array Nat) (e : MapEntry), w.heap[b]? = some (.map es clk) ∧ w.heap[r]? = some (.mapIter (some b) since (seen.push e.born) clk) ∧ e ∈ es.toList ∧ (es.toList.map MapEntry.born).Nodup ∧ p = (e.key, e.val)
theorem WalkAt.ext {w w' : World} {b r : Nat} {p : Value × Value} (h : WalkAt w b r p) (x : Ext w w') : WalkAt w' b r p := by
  obtain ⟨es, clk, since, seen, e, h1, h2, h3⟩ := h
  exact ⟨es, clk, since, seen, e, x.heap h1, x.heap h2, h3⟩

theorem walkNextE (hC : C.Ok) {o : Oper} {it : Operand} {l : Env} {w : World} {b r : Nat} {D : List (Value × Value)} (hW : Walks w b r D) (hne : b ≠ r)
    (ho : o.op = .next it false) (hit : evo l it = some (.pointer (some ⟨r, 0, none⟩)))
    {Q : Value → World → Prop} (h0 : D = [] → Q (.tuple #[.bool false]) w) (h1 : ∀ p D', D.Perm (p :: D') → ∀ o' w', Put w r o' w' → Walks w' b r D' → WalkAt w' b r p → Q (.tuple #[.bool true, p.1, p.2]) w') : LoudRun C o l w Q := by
  intro ρ hρ w₁ hs
  obtain ⟨es, clk, since, seen, c0, hb, hr, hold, hbn, hsc, hsk, hp⟩ := hW
  have hb1 : w₁.heap[b]? = some (.map es clk) := by rw [hs.heap]; exact hb
  have hr1 : w₁.heap[r]? = some (.mapIter (some b) since seen c0) := by rw [hs.heap]; exact hr
  have exec : ∀ v w2, (Instr.next (.pointer (some ⟨r, 0, none⟩)) false o.type).run C.P w₁ = .ok v w2 → (execOp ρ o).run C.P w₁ = .ok (.value v) w2 := fun v w2 hh => by
    unfold execOp
    rw [ho]
    simp only [hρ _ _ hit]
    simp [hh]
  rcases run_next_at (P := C.P) w₁ o.type r b since c0 seen es clk hr1 hb1 hold hsc with ⟨hz, hrun⟩ | ⟨e, he, w1, hal, hrun⟩
  · refine ⟨_, w, w₁, .inl (exec _ _ hrun), h0 ?_, hs⟩
    have : (leftOf es seen).toList = [] := by rw [Array.toList_eq_nil_iff]; exact Array.eq_empty_of_size_eq_zero hz
    rw [left_toList] at this
    rw [this] at hp
    exact hp.symm.eq_nil
  · rw [left_toList] at he
    obtain ⟨hem, hes⟩ := List.mem_filter.1 he
    have hs1 : Same w w1 := by
      rcases hal with rfl | rfl
      · exact hs
      · exact hs.drew
    have hput : Put w r (.mapIter (some b) since (seen.push e.born) clk) (Go.ChangeMaps.setBlock w1 r (.mapIter (some b) since (seen.push e.born) clk)) := put_setObj hs1 hr
    have hfil := pick_perm seen hbn hem (by simpa using hes)
    have hb2 := (hput.there b hne).trans hb
    refine ⟨_, _, _, .inl (exec _ _ hrun), h1 (e.key, e.val) ((es.toList.filter fun x => !(seen.push e.born).contains x.born).map fun e => (e.key, e.val)) (hp.symm.trans (by have := hfil.map (fun e : MapEntry => (e.key, e.val)); exact this)) _ _ hput ?_ ?_, Same.refl _⟩
    · exact ⟨es, clk, since, seen.push e.born, clk, hb2, hput.here, hold, hbn, hsk, hsk, List.Perm.refl _⟩
    · exact ⟨es, clk, since, seen, e, hb2, hput.here, hem, hbn, rfl⟩

theorem entryQ {o : Oper} {it : Operand} {l : Env} {w : World} {b r : Nat} {p : Value × Value} (hW : WalkAt w b r p) (ho : o.op = .entry it) (hit : evo l it = some (.pointer (some ⟨r, 0, none⟩))) : QuietRun C o l w (.tuple #[p.1, p.2]) := by
  intro ρ hρ w' hw
  obtain ⟨es, clk, since, seen, e, hb, hr, he, hn, rfl⟩ := hW.ext hw
  have := run_entry_at (P := C.P) w' r b since seen es clk e hr hb he hn
  unfold execOp
  rw [ho]
  simp only [hρ _ _ hit]
  simp [this]

end
end Go.Eng
