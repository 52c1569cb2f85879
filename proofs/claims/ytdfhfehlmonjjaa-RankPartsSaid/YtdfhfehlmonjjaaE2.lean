/- What the quiet operations ask for is enough: each yields its value, in every world that has grown out of the one at hand. -/
import Derived.Test.YtdfhfehlmonjjaaE1
namespace Go.Eng
open Go.RowKit

section
variable {C : Cfg} {t : Nat} {ti : TI}

theorem TIok.got {P : Program} (h : TIok P t ti) : ∃ i, P.info? t = some i ∧ i.size = ti.size ∧ i.zero = some ti.zero := by
  have := h.info
  cases hi : P.info? t with
  | none => simp [hi] at this
  | some i => simp [hi] at this; exact ⟨i, rfl, this.1, this.2⟩

theorem TIok.run_size {P : Program} (h : TIok P t ti) (w : World) : (sizeOf t).run P w = .ok ti.size w := by
  obtain ⟨i, hi, hs, _⟩ := h.got
  simp [sizeOf, typeInfo, hi, hs]

theorem TIok.run_zero {P : Program} (h : TIok P t ti) (w : World) : (zeroValue t).run P w = .ok ti.zero w := by
  obtain ⟨i, hi, _, hz⟩ := h.got
  simp [zeroValue, typeInfo, hi, hz]

theorem TIok.under {P : Program} (h : TIok P t ti) : ∃ d, P.underlying t = some d ∧ (match d with | .struct _ | .array _ _ => true | _ => false) = ti.d.agg := by
  have hd := h.desc
  cases hu : P.underlying t with
  | none => simp [descOk, hu] at hd
  | some d =>
    refine ⟨d, rfl, ?_⟩
    unfold descOk at hd
    rw [hu] at hd
    cases htd : ti.d <;> rw [htd] at hd <;> cases d <;> first | rfl | (simp at hd)

theorem TIok.run_agg {P : Program} (h : TIok P t ti) (w : World) : (isAgg t).run P w = .ok ti.d.agg w := by
  obtain ⟨d, hu, hd⟩ := h.under
  unfold isAgg
  rw [Sem.run_bind, run_underlying hu w]
  cases d <;> simp_all

theorem TIok.isSlice {P : Program} (h : TIok P t ti) {e esz eb : Nat} (hd : ti.d = .slice e esz eb) : P.underlying t = some (.slice e) ∧ ∃ i, P.info? e = some i ∧ i.size = esz ∧ i.bytes = eb := by
  have h := h.desc
  rw [hd] at h
  cases hu : P.underlying t with
  | none => simp [descOk, hu] at h
  | some d =>
    cases d <;> simp [descOk, hu] at h
    rename_i e'
    obtain ⟨rfl, h⟩ := h
    cases hi : P.info? e' with
    | none => simp [hi] at h
    | some i => simp [hi] at h; exact ⟨rfl, i, rfl, h.1, h.2⟩

theorem TIok.isArr {P : Program} (h : TIok P t ti) {n e esz : Nat} (hd : ti.d = .arr n e esz) : P.underlying t = some (.array n e) ∧ ∃ i, P.info? e = some i ∧ i.size = esz := by
  have h := h.desc
  rw [hd] at h
  cases hu : P.underlying t with
  | none => simp [descOk, hu] at h
  | some d =>
    cases d <;> simp [descOk, hu] at h
    rename_i n' e'
    obtain ⟨⟨rfl, rfl⟩, h⟩ := h
    cases hi : P.info? e' with
    | none => simp [hi] at h
    | some i => simp [hi] at h; exact ⟨rfl, i, rfl, h⟩

theorem TIok.isStruct {P : Program} (h : TIok P t ti) {fs : List (Nat × Nat × Nat)} (hd : ti.d = .struct fs) : ∃ F, P.underlying t = some (.struct F) ∧ (F.toList.map fun f => (f.type, f.offset, (P.info? f.type).map (·.size))) = fs.map fun x => (x.1, x.2.1, some x.2.2) := by
  have h := h.desc
  rw [hd] at h
  unfold descOk at h
  split at h <;> simp_all

theorem TIok.isMap {P : Program} (h : TIok P t ti) {k e : Nat} (hd : ti.d = .map k e) : P.underlying t = some (.map k e) := by
  have h := h.desc
  rw [hd] at h
  unfold descOk at h
  split at h <;> simp_all

theorem TIok.isInt {P : Program} (h : TIok P t ti) {k : IntKind} (hd : ti.d = .int k) : P.underlying t = some (.int k) := by
  have h := h.desc
  rw [hd] at h
  unfold descOk at h
  split at h <;> simp_all

theorem TIok.isStr {P : Program} (h : TIok P t ti) (hd : ti.d = .str) : P.underlying t = some .string := by
  have h := h.desc
  rw [hd] at h
  unfold descOk at h
  split at h <;> simp_all

theorem TIok.elem_arr {P : Program} (h : TIok P t ti) {n e esz : Nat} (hd : ti.d = .arr n e esz) (w : World) : (sizeOf e).run P w = .ok esz w := by
  obtain ⟨_, i, hi, hs⟩ := h.isArr hd
  simp [sizeOf, typeInfo, hi, hs]

theorem TIok.elem_slice {P : Program} (h : TIok P t ti) {e esz eb : Nat} (hd : ti.d = .slice e esz eb) (w : World) : (sizeOf e).run P w = .ok esz w := by
  obtain ⟨_, i, hi, hs, _⟩ := h.isSlice hd
  simp [sizeOf, typeInfo, hi, hs]

theorem add_spot (b o n : Nat) : (⟨b, o, none⟩ : Addr).add n = ⟨b, o + n, none⟩ := by
  unfold Addr.add; split <;> simp_all

theorem struct_field {P : Program} (h : TIok P t ti) {fs : List (Nat × Nat × Nat)} (hd : ti.d = .struct fs) {i ft off sz : Nat} (hf : fs[i]? = some (ft, off, sz)) :
    ∃ F f, P.underlying t = some (.struct F) ∧ F[i]? = some f ∧ f.type = ft ∧ f.offset = off ∧ ∃ j, P.info? ft = some j ∧ j.size = sz := by
  obtain ⟨F, hu, hm⟩ := h.isStruct hd
  have h1 := congrArg (fun l => l[i]?) hm
  simp only [List.getElem?_map, hf, Option.map_some] at h1
  cases hF : F.toList[i]? with
  | none => simp [hF] at h1
  | some f =>
    simp only [hF, Option.map_some, Option.some.injEq, Prod.mk.injEq] at h1
    obtain ⟨e1, e2, e3⟩ := h1
    refine ⟨F, f, hu, by simpa using hF, e1, e2, ?_⟩
    cases hj : P.info? ft with
    | none => rw [e1, hj] at e3; simp at e3
    | some j => rw [e1, hj] at e3; simp at e3; exact ⟨j, rfl, e3⟩

theorem run_part {P : Program} {te : TI} {e : Nat} (h : TIok P e te) {cs : Array Value} {off : Nat} {K : Value → Prop} (hp : partE te cs off K) :
    ∃ v, K v ∧ ∀ w, (part e cs off).run P w = .ok v w := by
  unfold partE at hp
  cases hd : te.d.agg with
  | true =>
    rw [hd] at hp
    refine ⟨_, hp, fun w => ?_⟩
    simp [part, h.run_agg, hd, h.run_size]
  | false =>
    rw [hd] at hp
    obtain ⟨v, hv, hk⟩ := hp
    refine ⟨v, hk, fun w => ?_⟩
    simp [part, h.run_agg, hd, hv]

theorem run_load {P : Program} (h : TIok P t ti) {w : World} {b o : Nat} {K : Value → Prop} (hl : loadE ti w b o K) :
    ∃ v, K v ∧ ∀ w', Ext w w' → (loadVar t ⟨b, o, none⟩).run P w' = .ok v w' := by
  unfold loadE at hl
  cases hd : ti.d.agg with
  | true =>
    rw [hd] at hl
    obtain ⟨cs, hlen, hr, hk⟩ := hl
    refine ⟨_, hk, fun w' he => ?_⟩
    have := run_loadCells_list (P := P) (w := w') ⟨b, o, none⟩ cs (fun j v hv => by rw [add_spot]; exact he.cell (hr j v hv))
    simp [loadVar, h.run_agg, hd, h.run_size, ← hlen, this]
  | false =>
    rw [hd] at hl
    obtain ⟨v, hv, hk⟩ := hl
    refine ⟨v, hk, fun w' he => ?_⟩
    simp [loadVar, h.run_agg, hd, load, Sem.run, he.cell hv]

theorem run_bin {op : BinOp} {x y : Operand} {a b : Value} {K : Value → Prop} (h : binQ C op t x y a b K) :
    ∃ v, K v ∧ ∀ w, (do eqGuard op t x y a b; binOp op t a b : Sem Value).run C.P w = .ok v w := by
  unfold binQ at h
  split at h
  all_goals try (replace h := sameKind_iff h; obtain ⟨hk, h⟩ := h; subst hk)
  case h_1 => obtain ⟨z, hz, hk⟩ := h; exact ⟨_, hk, fun w => by simp [eqGuard, binOp, Op.intArith, hz]⟩
  case h_2 => obtain ⟨z, hz, hk⟩ := h; exact ⟨_, hk, fun w => by simp [eqGuard, binOp, Op.intArith, hz]⟩
  case h_3 => obtain ⟨z, hz, hk⟩ := h; exact ⟨_, hk, fun w => by simp [eqGuard, binOp, Op.intArith, hz]⟩
  case h_4 => obtain ⟨h0, z, hz, hk⟩ := h; exact ⟨_, hk, fun w => by simp [eqGuard, binOp, Op.intDiv, hz, h0]⟩
  case h_5 => obtain ⟨h0, z, hz, hk⟩ := h; exact ⟨_, hk, fun w => by simp [eqGuard, binOp, Op.intDiv, hz, h0]⟩
  case h_6 => exact ⟨_, h, fun w => by simp [eqGuard, binOp, Op.intCmp]⟩
  case h_7 => exact ⟨_, h, fun w => by simp [eqGuard, binOp, Op.intCmp]⟩
  case h_8 => exact ⟨_, h, fun w => by simp [eqGuard, binOp, Op.intCmp]⟩
  case h_9 => exact ⟨_, h, fun w => by simp [eqGuard, binOp, Op.intCmp]⟩
  case h_10 => refine ⟨_, h, fun w => ?_⟩; simp [eqGuard, binOp, Op.intCmp]; exact Bool.beq_eq_decide_eq _ _
  case h_11 => refine ⟨_, h, fun w => ?_⟩; simp [eqGuard, binOp, Op.intCmp, bne]; exact Bool.beq_eq_decide_eq _ _
  case h_12 => obtain ⟨r, hr, hk⟩ := h; exact ⟨_, hk, hr⟩
  case h_13 => obtain ⟨r, hr, hk⟩ := h; exact ⟨_, hk, hr⟩
  case h_14 =>
    obtain ⟨v, hv, hne, hk⟩ := h
    refine ⟨v, hk, fun w => ?_⟩
    have : (eqGuard op t x y a b) = pure () := by
      unfold eqGuard
      cases op <;> simp_all
    simp [this, hv]

theorem bnd_run {l : Env} {x : Option Operand} {dflt n top : Nat} {ρ : Operand → Value} (hρ : ∀ x u, evo l x = some u → ρ x = u) (h : bndE l x dflt n) (hn : n ≤ top) (code : Go.BoundsCode) (P : Program) (w : World) :
    (match x.map ρ with | some v => Instr.sliceBound v top code | none => pure dflt : Sem Nat).run P w = .ok n w := by
  cases x with
  | none => have h : n = dflt := h; subst h; rfl
  | some y =>
    obtain ⟨v, hv, h⟩ := withO_iff (show withO (evo l y) _ from h)
    simp only [Option.map_some, hρ _ _ hv]
    cases v <;> first | exact h.elim | skip
    rename_i k i
    have h : i = (n : Int) := h
    subst h
    have h1 : (n : Int) ≤ (top : Int) := by omega
    simp [Instr.sliceBound, asIntOf, hn]

theorem bounds_run {l : Env} {lo top : Option Operand} {i h' len cap : Nat} {ρ : Operand → Value} (hρ : ∀ x u, evo l x = some u → ρ x = u) (hi : bndE l lo 0 i) (hh : bndE l top len h') (h1 : i ≤ h') (h2 : h' ≤ cap) (sl : Bool) (P : Program) (w : World) :
    (Instr.sliceBounds sl len cap (lo.map ρ) (top.map ρ) none).run P w = .ok (i, h', cap) w := by
  have b1 := fun w => bnd_run hρ hi h1 .sliceB P w
  have b2 := fun w => bnd_run hρ hh h2 .sliceAcap P w
  have b3 := fun w => bnd_run hρ hh h2 .sliceAlen P w
  cases lo <;> cases top <;> cases sl <;> simp only [Option.map_none, Option.map_some] at b1 b2 b3 ⊢ <;> simp_all [Instr.sliceBounds]

theorem len_run (hC : C.Ok) {v : Value} {w : World} {K : Value → Prop} (h : lenQ C t v w K) (ty : TypeId) : ∃ r, K r ∧ ∀ w', Ext w w' → (Builtin.len_ #[t] ty #[v]).run C.P w' = .ok r w' := by
  replace h := withO_iff h
  obtain ⟨ti, hti, h⟩ := h
  have T := hC.ti hti
  split at h
  · rename_i hd; exact ⟨_, h, fun w' _ => by simp [Builtin.len_, run_underlying (T.isSlice hd).1, goInt]⟩
  · rename_i hd; exact ⟨_, h, fun w' _ => by simp [Builtin.len_, run_underlying (T.isStr hd), goInt]⟩
  · rename_i hd; exact ⟨_, h, fun w' _ => by simp [Builtin.len_, run_underlying (T.isArr hd).1, goInt]⟩
  · rename_i hd; exact ⟨_, h, fun w' _ => by simp [Builtin.len_, run_underlying (T.isMap hd), goInt]⟩
  · rename_i hd
    obtain ⟨es, clk, hr, hk⟩ := h
    exact ⟨_, hk, fun w' he => by
      have hw := he.heap hr
      simp [Builtin.len_, run_underlying (T.isMap hd), goInt, getObj, Sem.run, hw]⟩
  · exact h.elim

theorem splice_fold (o : Nat) : ∀ (vs : List Value) (j : Nat) (cs : List Value), o + j + vs.length ≤ cs.length →
    (vs.zipIdx j).foldl (fun (cs : Array Value) (x : Value × Nat) => cs.setIfInBounds (o + x.2) x.1) cs.toArray = (splice cs (o + j) vs).toArray
  | [], j, cs, _ => by simp [splice]
  | v :: vs, j, cs, h => by
    simp only [List.zipIdx_cons, List.foldl_cons]
    have e : cs.toArray.setIfInBounds (o + j) v = (cs.set (o + j) v).toArray := by simp
    rw [e]
    have := splice_fold o vs (j + 1) (cs.set (o + j) v) (by simp at h ⊢; omega)
    rw [this]
    congr 1
    unfold splice
    have hlt : o + j < cs.length := by simp at h; omega
    have h1 : (cs.set (o + j) v).take (o + (j + 1)) = cs.take (o + j) ++ [v] := by
      apply List.ext_getElem?
      intro i
      rcases Nat.lt_trichotomy i (o + j) with hi | hi | hi
      · rw [List.getElem?_take, if_pos (by omega), List.getElem?_set_ne (by omega), List.getElem?_append_left (by simp; omega), List.getElem?_take, if_pos hi]
      · subst hi
        rw [List.getElem?_take, if_pos (by omega), List.getElem?_append_right (by simp; omega)]
        have : min (o + j) cs.length = o + j := by omega
        simp [this, hlt]
      · rw [List.getElem?_take, if_neg (by omega), List.getElem?_append_right (by simp; omega), List.getElem?_eq_none (by simp; omega)]
    have h2 : (cs.set (o + j) v).drop (o + (j + 1) + vs.length) = cs.drop (o + j + (v :: vs).length) := by
      apply List.ext_getElem?
      intro i
      simp only [List.getElem?_drop, List.length_cons]
      rw [List.getElem?_set_ne (by omega)]
      congr 1; omega
    rw [h1, h2]
    simp

theorem splice_length {cs vs : List Value} {o : Nat} (h : o + vs.length ≤ cs.length) : (splice cs o vs).length = cs.length := by
  simp [splice]; omega

theorem fill_build {l : Env} {n : Nat} {place : Nat → Option (Nat × Nat)} {ρ : Operand → Value} (hρ : ∀ x u, evo l x = some u → ρ x = u) :
    ∀ (parts : List (Nat × Operand)) (cs ds : List Value), cs.length = n → buildL l n place parts cs = some ds → Instr.fill place cs.toArray (parts.map fun (i, x) => (i, ρ x)) = some ds.toArray
  | [], cs, ds, _, h => by simp [buildL] at h; subst h; simp [Instr.fill]
  | (i, x) :: r, cs, ds, hn, h => by
    unfold buildL at h
    split at h
    · rename_i off sz v hp hv
      split at h
      · rename_i hb
        simp only [Bool.and_eq_true] at hb
        have h1 := Nat.eq_of_beq_eq_true hb.1
        have h2 := Nat.le_of_ble_eq_true hb.2
        have hl : off + v.cells.toList.length ≤ cs.length := by simp [h1]; omega
        have ih := fill_build hρ r _ ds (by rw [splice_length hl]; exact hn) h
        have hf := splice_fold off v.cells.toList 0 cs (by simpa using hl)
        simp only [List.map_cons, Instr.fill, hp, hρ _ _ hv, h1]
        have h3 : ¬ (off + sz > cs.length) := by omega
        simp only [ne_eq, not_true_eq_false, decide_false, Bool.false_or, List.size_toArray, h3, decide_false, Bool.false_eq_true, if_false]
        have e : v.cells.zipIdx.foldl (fun (cs : Array Value) (x : Value × Nat) => cs.setIfInBounds (off + x.2) x.1) cs.toArray = (splice cs off v.cells.toList).toArray := by
          rw [← Array.foldl_toList]
          simpa using hf
        rw [e]
        exact ih
      · simp at h
    · simp at h

theorem run_build {P : Program} (T : TIok P t ti) (hd : ti.d.agg = true) {l : Env} {parts : Array (Nat × Operand)} {cs : List Value} (h : buildL l ti.size (placeOf ti.d) parts.toList ti.zero.cells.toList = some cs)
    {ρ : Operand → Value} (hρ : ∀ x u, evo l x = some u → ρ x = u) (w : World) : (Instr.build t (parts.map fun (i, x) => (i, ρ x))).run P w = .ok (.agg cs.toArray) w := by
  have hf := fill_build (place := placeOf ti.d) hρ parts.toList ti.zero.cells.toList cs (by simpa using T.zsz) h
  cases htd : ti.d with
  | struct fs =>
    obtain ⟨F, hu, hm⟩ := T.isStruct htd
    have hmap : ∀ (L : List Field) (gs : List (Nat × Nat × Nat)), (L.map fun f => (f.type, f.offset, (P.info? f.type).map (·.size))) = gs.map (fun x => (x.1, x.2.1, some x.2.2)) →
        (L.mapM (fun f => do pure (f.offset, ← sizeOf f.type) : Field → Sem (Nat × Nat))).run P w = .ok (gs.map (·.2)) w := by
      intro L
      induction L with
      | nil => intro gs h; cases gs <;> simp_all
      | cons f L ih =>
        intro gs h
        cases gs with
        | nil => simp at h
        | cons g gs =>
          simp only [List.map_cons, List.cons.injEq, Prod.mk.injEq] at h
          obtain ⟨⟨_, h2, h3⟩, h4⟩ := h
          cases hi : P.info? f.type with
          | none => simp [hi] at h3
          | some i =>
            simp [hi] at h3
            have := ih gs h4
            simp only [List.mapM_cons, Sem.run_bind, sizeOf, typeInfo] at this ⊢
            simp [hi, h3, h2]
            simp at this
            rw [this]
            rfl
    have hp : (fun i => ((fs.map (·.2)).toArray[i]? : Option (Nat × Nat))) = placeOf ti.d := by
      funext i
      rw [htd]
      simp only [placeOf]
      cases hi : fs[i]? with
      | none => simp [hi]
      | some x => simp [hi]
    have := hmap F.toList fs hm
    simp only [Instr.build, Sem.run_bind, T.run_zero, Result.andThen_ok, run_underlying hu]
    rw [Array.mapM_eq_mapM_toList, Sem.run_map, this]
    simp only [Result.andThen_ok]
    have e2 : (parts.map fun (i, x) => (i, ρ x)).toList = parts.toList.map fun (i, x) => (i, ρ x) := by simp
    rw [e2, hp]
    have : Instr.fill (placeOf ti.d) ti.zero.cells (parts.toList.map fun (i, x) => (i, ρ x)) = some cs.toArray := by simpa using hf
    rw [this]
    rfl
  | arr n e esz =>
    have hu := (T.isArr htd).1
    have hz := T.elem_arr htd
    rw [htd] at hf
    simp only [Instr.build, Sem.run_bind, T.run_zero, Result.andThen_ok, run_underlying hu, hz]
    have e2 : (parts.map fun (i, x) => (i, ρ x)).toList = parts.toList.map fun (i, x) => (i, ρ x) := by simp
    rw [e2]
    have : Instr.fill (fun i => some (i * esz, esz)) ti.zero.cells (parts.toList.map fun (i, x) => (i, ρ x)) = some cs.toArray := by
      have hpl : placeOf (.arr n e esz) = fun i => some (i * esz, esz) := rfl
      rw [hpl] at hf
      simpa using hf
    rw [this]
    rfl
  | _ => rw [htd] at hd; cases hd

/-- What needs no look at memory. -/
def isPure : Op → Bool
  | .move _ | .assign _ | .pick .. | .nilCheck _ | .fieldAddr .. | .indexAddr .. | .index .. | .field .. | .binOp .. | .unOp .not .. | .unOp .neg .. | .convert .. | .extract .. | .makeFunc .. | .build .. | .slice _ _ _ _ none => true
  | _ => false

theorem opQ_sound (hC : C.Ok) {o : Oper} {l : Env} {w : World} {K : Value → Prop} (h : opQ C o l w K) :
    ∃ v, K v ∧ ∀ ρ : Operand → Value, (∀ x u, evo l x = some u → ρ x = u) → ∀ w', (isPure o.op = true ∨ Ext w w') → (execOp ρ o).run C.P w' = .ok (.value v) w' := by
  obtain ⟨dst, op, type, pos, after, guard⟩ := o
  unfold opQ at h
  simp only at h
  split at h
  case h_1 => -- move
    replace h := withO_iff h; obtain ⟨v, hv, hk⟩ := h
    exact ⟨v, hk, fun ρ hρ w' _ => by simp [execOp, hρ _ _ hv]⟩
  case h_2 =>
    replace h := withO_iff h; obtain ⟨v, hv, hk⟩ := h
    exact ⟨v, hk, fun ρ hρ w' _ => by simp [execOp, hρ _ _ hv]⟩
  case h_3 => -- pick
    replace h := withO_iff h; obtain ⟨v, hv, hk⟩ := h
    split at hk
    · rename_i b
      cases b with
      | true =>
        replace hk := withO_iff (show withO _ _ from hk); obtain ⟨u, hu, hk⟩ := hk
        exact ⟨u, hk, fun ρ hρ w' _ => by simp [execOp, hρ _ _ hv, hρ _ _ hu, asBool]⟩
      | false =>
        replace hk := withO_iff (show withO _ _ from hk); obtain ⟨u, hu, hk⟩ := hk
        exact ⟨u, hk, fun ρ hρ w' _ => by simp [execOp, hρ _ _ hv, hρ _ _ hu, asBool]⟩
    · exact hk.elim
  case h_4 => -- load
    replace h := withO_iff h; obtain ⟨v, hv, hk⟩ := h
    split at hk
    · replace hk := withO_iff hk; obtain ⟨ti, hti, hk⟩ := hk
      obtain ⟨u, hu, hr⟩ := run_load (hC.ti hti) hk
      exact ⟨u, hu, fun ρ hρ w' he => by simp [execOp, hρ _ _ hv, Instr.loadAt, Instr.sureAddr, hr w' (he.resolve_left (by simp [isPure]))]⟩
    · exact hk.elim
  case h_5 => -- nilCheck
    replace h := withO_iff h; obtain ⟨v, hv, hk⟩ := h
    split at hk
    · exact ⟨_, hk, fun ρ hρ w' _ => by simp [execOp, hρ _ _ hv]⟩
    · exact ⟨_, hk, fun ρ hρ w' _ => by simp [execOp, hρ _ _ hv]⟩
    · exact hk.elim
  case h_6 => -- fieldAddr
    replace h := withO_iff h; obtain ⟨v, hv, hk⟩ := h
    split at hk
    · rename_i b o'
      replace hk := withO_iff hk; obtain ⟨ti, hti, hk⟩ := hk
      split at hk
      · rename_i hd
        replace hk := withO_iff hk; obtain ⟨⟨ft, off, sz⟩, hf, hk⟩ := hk
        have hs : sz ≠ 0 := by rintro rfl; exact hk
        replace hk : K (.pointer (some ⟨b, addOff o' off, none⟩)) := by
          cases sz with
          | zero => exact hk.elim
          | succ m => exact hk
        obtain ⟨F, f, hu, hF, h1, h2, j, hj, h3⟩ := struct_field (hC.ti hti) hd hf
        refine ⟨_, hk, fun ρ hρ w' _ => ?_⟩
        have hz : (sizeOf f.type).run C.P w' = .ok sz w' := by simp [sizeOf, typeInfo, h1, hj, h3]
        simp [execOp, hρ _ _ hv, Instr.fieldAt, run_underlying hu, hF, Instr.sureAddr, fieldPlace, hz, hs, h2, add_spot, addOff_eq]
      · exact hk.elim
    · exact hk.elim
  case h_7 => -- indexAddr
    replace h := withO_iff h; obtain ⟨v, hv, hk⟩ := h
    replace hk := withO_iff hk; obtain ⟨iv, hiv, hk⟩ := hk
    replace hk := withO_iff hk; obtain ⟨ti, hti, hk⟩ := hk
    split at hk
    · rename_i hd
      obtain ⟨j, rfl, hj, hk⟩ := hk
      have hu := ((hC.ti hti).isArr hd).1
      have hz := (hC.ti hti).elem_arr hd
      refine ⟨_, hk, fun ρ hρ w' _ => ?_⟩
      simp [execOp, hρ _ _ hv, hρ _ _ hiv, Instr.indexAt, asIntOf, run_underlying hu, Instr.sureAddr, hz, add_spot, hj]
    · rename_i hd
      obtain ⟨j, b, o', rfl, hj, rfl, hk⟩ := hk
      have hu := ((hC.ti hti).isSlice hd).1
      have hz := (hC.ti hti).elem_slice hd
      refine ⟨_, hk, fun ρ hρ w' _ => ?_⟩
      simp [execOp, hρ _ _ hv, hρ _ _ hiv, Instr.indexAt, asIntOf, run_underlying hu, hz, add_spot, hj]
    · exact hk.elim
  case h_8 => -- index
    replace h := withO_iff h; obtain ⟨v, hv, hk⟩ := h
    replace hk := withO_iff hk; obtain ⟨iv, hiv, hk⟩ := hk
    replace hk := withO_iff hk; obtain ⟨ti, hti, hk⟩ := hk
    split at hk
    · rename_i hd
      obtain ⟨j, rfl, hj, hk⟩ := hk
      replace hk := withO_iff hk; obtain ⟨te, hte, hk⟩ := hk
      have hu := ((hC.ti hti).isArr hd).1
      have hz := (hC.ti hti).elem_arr hd
      obtain ⟨r, hr, hrun⟩ := run_part (hC.ti hte) hk
      refine ⟨r, hr, fun ρ hρ w' _ => ?_⟩
      simp [execOp, hρ _ _ hv, hρ _ _ hiv, Instr.index, asIntOf, run_underlying hu, hz, hj, hrun]
    · rename_i hd
      obtain ⟨j, c, rfl, hj, hk⟩ := hk
      refine ⟨_, hk, fun ρ hρ w' _ => ?_⟩
      simp [execOp, hρ _ _ hv, hρ _ _ hiv, Instr.index, asIntOf, run_underlying ((hC.ti hti).isStr hd), hj]
    · exact hk.elim
  case h_9 => -- field
    replace h := withO_iff h; obtain ⟨v, hv, hk⟩ := h
    replace hk := withO_iff hk; obtain ⟨ti, hti, hk⟩ := hk
    split at hk
    · rename_i hd
      replace hk := withO_iff hk; obtain ⟨⟨ft, off, sz⟩, hf, hk⟩ := hk
      replace hk := withO_iff hk; obtain ⟨te, hte, hk⟩ := hk
      obtain ⟨F, f, hu, hF, h1, h2, _⟩ := struct_field (hC.ti hti) hd hf
      obtain ⟨r, hr, hrun⟩ := run_part (hC.ti hte) hk
      refine ⟨r, hr, fun ρ hρ w' _ => ?_⟩
      simp [execOp, hρ _ _ hv, Instr.field, run_underlying hu, hF, asAgg, h1, h2, hrun]
    · exact hk.elim
  case h_10 => -- binOp
    replace h := withO_iff h; obtain ⟨a, ha, hk⟩ := h
    replace hk := withO_iff hk; obtain ⟨b, hb, hk⟩ := hk
    obtain ⟨r, hr, hrun⟩ := run_bin hk
    refine ⟨r, hr, fun ρ hρ w' _ => ?_⟩
    have := hrun w'
    simp only [execOp, hρ _ _ ha, hρ _ _ hb]
    rw [Sem.run_bind, this]
    rfl
  case h_11 => -- not
    replace h := withO_iff h; obtain ⟨a, ha, hk⟩ := h
    split at hk
    · exact ⟨_, hk, fun ρ hρ w' _ => by simp [execOp, hρ _ _ ha, Op.unary]⟩
    · exact hk.elim
  case h_12 => -- neg
    replace h := withO_iff h; obtain ⟨a, ha, hk⟩ := h
    split at hk
    · obtain ⟨z, hz, hk⟩ := hk
      exact ⟨_, hk, fun ρ hρ w' _ => by simp [execOp, hρ _ _ ha, Op.unary, Op.intArith]; simpa using hz⟩
    · exact hk.elim
  case h_13 => -- convert
    replace h := withO_iff h; obtain ⟨a, ha, hk⟩ := h
    replace hk := withO_iff hk; obtain ⟨ts, hts, hk⟩ := hk
    replace hk := withO_iff hk; obtain ⟨td, htd, hk⟩ := hk
    obtain ⟨ds, hds, _⟩ := (hC.ti hts).under
    split at hk
    · rename_i hd
      obtain ⟨z, hz, hk⟩ := hk
      refine ⟨_, hk, fun ρ hρ w' _ => ?_⟩
      simp [execOp, hρ _ _ ha, convert, run_underlying hds, run_underlying ((hC.ti htd).isInt hd), Conv.intToInt, hz]
    · rename_i hd
      refine ⟨_, hk, fun ρ hρ w' _ => ?_⟩
      simp [execOp, hρ _ _ ha, convert, run_underlying hds, run_underlying ((hC.ti htd).isStr hd)]
    · exact hk.elim
  case h_14 => -- extract
    replace h := withO_iff h; obtain ⟨a, ha, hk⟩ := h
    split at hk
    · rename_i vs
      replace hk := withO_iff hk; obtain ⟨u, hu, hk⟩ := hk
      simp at hu
      exact ⟨u, hk, fun ρ hρ w' _ => by simp [execOp, hρ _ _ ha, Instr.extract, hu]⟩
    · exact hk.elim
  case h_15 => -- makeFunc
    obtain ⟨fs, cs, hf, hc, hk⟩ := h
    refine ⟨_, hk, fun ρ hρ w' _ => ?_⟩
    have all : ∀ (xs : List Operand) (vs : List Value), xs.map (evo l) = vs.map some → xs.map ρ = vs := by
      intro xs
      induction xs with
      | nil => intro vs h; cases vs <;> simp_all
      | cons x xs ih =>
        intro vs h
        cases vs with
        | nil => simp at h
        | cons v vs => simp only [List.map_cons, List.cons.injEq] at h ⊢; exact ⟨hρ _ _ h.1, ih _ h.2⟩
    have e1 := all _ _ hf
    have e2 := all _ _ hc
    rename_i fn first captured _
    have a1 : first.map ρ = fs.toArray := by apply Array.ext'; simp [e1]
    have a2 : captured.map ρ = cs.toArray := by apply Array.ext'; simp [e2]
    simp [execOp, Instr.makeFunc, a1, a2]
  case h_16 => -- build
    replace h := withO_iff h; obtain ⟨ti, hti, h⟩ := h
    split at h
    · rename_i hd
      replace h := withO_iff h; obtain ⟨cs, hcs, hk⟩ := h
      refine ⟨_, hk, fun ρ hρ w' _ => ?_⟩
      simp [execOp, run_build (hC.ti hti) hd hcs hρ]
    · exact h.elim
  case h_17 => -- slice
    replace h := withO_iff h; obtain ⟨v, hv, hk⟩ := h
    replace hk := withO_iff hk; obtain ⟨ti, hti, hk⟩ := hk
    split at hk
    · rename_i hd
      obtain ⟨i, h', hi, hh, h1, h2, hk⟩ := hk
      have hu := ((hC.ti hti).isSlice hd).1
      have hz := (hC.ti hti).elem_slice hd
      refine ⟨_, hk, fun ρ hρ w' _ => ?_⟩
      have b1 := fun w => bounds_run hρ hi hh h1 h2 true C.P w
      have sz := hz
      simp [execOp, hρ _ _ hv, Instr.sliceAt, run_underlying hu, Instr.slice, b1, sz]
    · rename_i hd
      obtain ⟨i, h', hi, hh, h1, h2, hk⟩ := hk
      have hu := (hC.ti hti).isStr hd
      refine ⟨_, hk, fun ρ hρ w' _ => ?_⟩
      have b1 := fun w => bounds_run hρ hi hh h1 h2 false C.P w
      simp [execOp, hρ _ _ hv, Instr.sliceAt, run_underlying hu, Instr.slice, b1]
    · exact hk.elim
  case h_18 => -- len
    rename_i args ts
    replace h := withO_iff h
    obtain ⟨x, hx, h⟩ := h
    replace h := withO_iff h
    obtain ⟨ty, ht, h⟩ := h
    replace h := withO_iff h
    obtain ⟨v, hv, h⟩ := h
    obtain ⟨r, hr, hrun⟩ := len_run hC h type
    refine ⟨r, hr, fun ρ hρ w' he => ?_⟩
    simp at hx ht
    have e : Builtin.len_ ts type (args.map ρ) = Builtin.len_ #[ty] type #[v] := by
      unfold Builtin.len_
      simp [hx, ht, hρ _ _ hv]
    simp only [execOp, resolve, invoke, builtin, Sem.run_bind, Sem.run_pure, Result.andThen_ok, e, hrun w' (he.resolve_left (by simp [isPure]))]
  case h_19 =>
    obtain ⟨v, hr, hk⟩ := h
    refine ⟨v, hk, fun ρ hρ w' he => hr ρ hρ w' (he.resolve_left fun hp => ?_)⟩
    unfold isPure at hp
    split at hp <;> first | (cases hp; done) | simp_all

end
end Go.Eng
