/- a part of the proof: steps, walks and plain laws that the law below stands on; no condition. -/
import Derived.Test.YthpdkdmbfdmamaaGreatDoorGDa
import Derived.Test.YthpdkdmbfdmamaaGreatDoorGBe
import Derived.WideLaws
set_option linter.unusedVariables false
set_option linter.unusedSimpArgs false
set_option linter.unnecessarySimpa false
set_option linter.unusedSectionVars false
namespace Go.Eng
open Go.RowKit

theorem var_ext {P : Program} {w w' : World} {n : String} {cs : Array Value} (h : w.var? P n = some cs) (e : Ext w w') : w'.var? P n = some cs := by
  unfold World.var? at h ⊢
  cases hg : P.globalNamed n with
  | none => simp [hg] at h
  | some g =>
    simp only [hg, Option.bind_some] at h ⊢
    cases hb : w.heap[g]? with
    | none => rw [hb] at h; cases h
    | some o => rw [e.heap hb]; rw [hb] at h; exact h
theorem var_same {P : Program} {w w' : World} {n : String} {cs : Array Value} (h : w.var? P n = some cs) (e : Same w w') : w'.var? P n = some cs := by
  unfold World.var? at h ⊢
  rw [e.heap]; exact h
theorem ext_bytesWorld (w : World) (e : Nat) (s : ByteArray) : Ext w (Lib.bytesWorld w e s) ∧ w.drawn ≤ (Lib.bytesWorld w e s).drawn := by
  have hd : (Lib.bytesWorld w e s).drawn = w.drawn + 1 := by unfold Lib.bytesWorld World.freeze; split <;> rfl
  have ho : (Lib.bytesWorld w e s).os = w.os := by unfold Lib.bytesWorld World.freeze; split <;> rfl
  have ht : (Lib.bytesWorld w e s).tape = w.tape := by unfold Lib.bytesWorld World.freeze; split <;> rfl
  have hp : (Lib.bytesWorld w e s).output = w.output := by unfold Lib.bytesWorld World.freeze; split <;> rfl
  refine ⟨⟨ho, ht, hp, by rw [Lib.bytesWorld_size]; omega, fun k hk => Lib.bytesWorld_at_old w e s k hk⟩, by omega⟩
theorem ext_grow (w : World) (n : Nat) (os : Array Obj) : Ext w (Go.Sort.grow (w.drewN n) os) := by
  refine ⟨rfl, rfl, rfl, ?_, fun k hk => ?_⟩
  · show w.heap.size ≤ (w.heap ++ os).size
    simp
  · show (w.heap ++ os)[k]? = w.heap[k]?
    exact Array.getElem?_append_left hk

end Go.Eng

namespace Go.Proofs.YthpdkdmbfdmamaaGreatDoor
open Go.Eng Go.RowKit

/-- The tables of the library lie where they belong. -/
structure Tabs (w : World) : Prop where
  pow : Lib.TabIs Tryz.prog w "internal/strconv.uint64pow10" .u64 Lib.pow10Tab
  syn : ∃ te pe, w.cell? ⟨1, 0, none⟩ = some (.iface te pe)
  rng : ∃ te pe, w.cell? ⟨2, 0, none⟩ = some (.iface te pe)
theorem Tabs.ext {w w' : World} (h : Tabs w) (e : Ext w w') : Tabs w' := ⟨var_ext h.pow e, let ⟨te, pe, hc⟩ := h.syn; ⟨te, pe, e.cell hc⟩, let ⟨te, pe, hc⟩ := h.rng; ⟨te, pe, e.cell hc⟩⟩
theorem Tabs.same {w w' : World} (h : Tabs w) (e : Same w w') : Tabs w' := h.ext e.ext

theorem Itoa_spec (n : Int) (hn : In64 n) (w : World) (T : Tabs w) : CallsV C.P 89 #[.int .i64 n] w fun v w' => v = .string ⟨(Lib.itoa n).toArray⟩ ∧ Ext w w' := by
  refine callsV_of_calls fun w₁ hs => ?_
  refine (Any.strconv_Itoa laysM171 n hn.1 hn.2 w₁ (T.same hs).pow).mono ?_
  rintro e w' ⟨rfl, k, os, rfl⟩
  exact ⟨_, rfl, ⟨rfl, (ext_grow w₁ k os).same_left hs.symm⟩, Nat.le_add_right _ _⟩

/-- A row of strings. -/
def strs (xs : List ByteArray) : List Value := xs.map (.string ·)
theorem strs_append (xs ys : List ByteArray) : strs (xs ++ ys) = strs xs ++ strs ys := by simp [strs]
theorem strs_length (xs : List ByteArray) : (strs xs).length = xs.length := by simp [strs]
theorem Reads.str {w : World} {A : Option Addr} {xs : List ByteArray} (h : Reads w A (strs xs)) {i : Nat} (hi : i < xs.length) : ∃ b o, A = some ⟨b, o, none⟩ ∧ w.cell? ⟨b, o + i, none⟩ = some (.string xs[i]) := by
  rcases h with h | ⟨b, o, hA, hr⟩
  · have : xs.length = 0 := by have := congrArg List.length h; simpa [strs] using this
    omega
  · exact ⟨b, o, hA, hr i _ (by simp [strs, hi])⟩

theorem Join_spec {w : World} {A : Option Addr} {xs : List ByteArray} {c : Nat} (hr : Reads w A (strs xs)) (h1 : 0 < xs.length) (hl : xs.length ≤ 1000) (hc : xs.length ≤ c) (hlen : (Lib.join (xs.map (·.data.toList)) [32]).length ≤ 140737488355328) :
    CallsW C.P 90 #[.slice A xs.length c, .string ⟨#[32]⟩] w fun v w' => v = .string ⟨(Lib.join (xs.map (·.data.toList)) [32]).toArray⟩ ∧ Ext w w' := by
  obtain ⟨b, o, rfl, _⟩ := Reads.str hr h1
  have hcell : ∀ (j : Nat) x, xs[j]? = some x → w.cell? ⟨b, o + j, none⟩ = some (.string x) := fun j x hx => by
    obtain ⟨hj, rfl⟩ := List.getElem?_eq_some_iff.1 hx
    obtain ⟨b', o', hA, hc⟩ := Reads.str hr hj
    cases hA; exact hc
  have hb : b < w.heap.size := by
    have := hcell 0 xs[0] (List.getElem?_eq_getElem h1)
    unfold World.cell? at this
    rcases Nat.lt_or_ge b w.heap.size with h | h
    · exact h
    · simp [Array.getElem?_eq_none h] at this
  refine callsW_of_calls fun w₁ hs => ?_
  refine (Any.strings_Join lays156 Builder_Extra_156 b o c xs ⟨#[32]⟩ w₁ (fun j x hx => by rw [hs.cell]; exact hcell j x hx) (by rw [hs.heap]; exact hb) (by omega) hc hlen).mono ?_
  rintro e w' ⟨rfl, hw⟩
  have hw' : Ext w₁ w' := hw
  exact ⟨_, rfl, rfl, hw'.same_left hs.symm⟩

theorem underErr : C.P.underlying 101 = some (.interface (C.P.methodsAt 101)) := by kernel_rfl
theorem eqErr (x y : Operand) (t : Nat) (p : Value) : EqIs C.P .eql 101 x y (.iface t p) .nilIface false := by
  intro w
  have h1 : (eqGuard .eql 101 x y (.iface t p) .nilIface).run C.P w = .ok () w := by simp [eqGuard]
  rw [Sem.run_bind, h1]
  simp only [Result.andThen_ok]
  exact run_eql_held_nil w _ _ _ underErr
theorem eqErr0 (x : Operand) : EqIs C.P .eql 101 x (.const .nilIface) .nilIface .nilIface true := by
  intro w
  have h1 : (eqGuard .eql 101 x (.const .nilIface) .nilIface .nilIface).run C.P w = .ok () w := by simp [eqGuard]
  rw [Sem.run_bind, h1]
  simp only [Result.andThen_ok]
  exact run_eql_nil_nil w _ underErr

theorem Atoi_spec (s : ByteArray) (hs : s.size ≤ 281474976710656) (w : World) (T : Tabs w) :
    CallsW C.P 96 #[.string s] w fun v w' => (∃ err, v = .tuple #[.int .i64 (numW s.data.toList).1, err] ∧ ((numW s.data.toList).2 = true ∧ err = .nilIface ∨ (numW s.data.toList).2 = false ∧ ∃ t p, err = .iface t p)) ∧ Ext w w' := by
  refine callsW_of_calls fun w₁ hsm => ?_
  have T₁ := T.same hsm
  unfold numW
  cases ha : Lib.atoiAll s.data.toList with
  | ok v =>
    refine (Any.strconv_Atoi_ok laysC172 s (by omega) v ha w₁).mono ?_
    rintro e w' ⟨rfl, hw⟩
    refine ⟨_, rfl, ⟨_, rfl, .inl ⟨rfl, rfl⟩⟩, ?_⟩
    rcases hw with rfl | ⟨t, rfl⟩
    · exact hsm.ext
    · exact (ext_bytesWorld w₁ _ t).1.same_left hsm.symm
  | «syntax» =>
    obtain ⟨te, pe, hc⟩ := T₁.syn
    refine (Any.strconv_Atoi_syntax laysC172 s hs ha (.iface te pe) w₁ hc (.inr ⟨te, pe, rfl⟩)).mono ?_
    rintro e w' ⟨N, rfl, _, _, hw⟩
    have hw' : Ext w₁ w' := hw
    exact ⟨_, rfl, ⟨_, rfl, .inr ⟨rfl, _, _, rfl⟩⟩, hw'.same_left hsm.symm⟩
  | range =>
    obtain ⟨te, pe, hc⟩ := T₁.rng
    refine (Any.strconv_Atoi_range laysC172 s hs ha (.iface te pe) w₁ hc (.inr ⟨te, pe, rfl⟩)).mono ?_
    rintro e w' ⟨N, rfl, _, _, hw⟩
    have hw' : Ext w₁ w' := hw
    exact ⟨_, rfl, ⟨_, rfl, .inr ⟨rfl, _, _, rfl⟩⟩, hw'.same_left hsm.symm⟩

/-! ### strings.Cut at a blank -/
theorem cut_index : ∀ (l : List UInt8), (Lib.indexByte l 32 = -1 ∧ cutW l = (l, [])) ∨ ∃ i : Nat, Lib.indexByte l 32 = i ∧ i < l.length ∧ cutW l = (l.take i, l.drop (i + 1))
  | [] => .inl ⟨rfl, rfl⟩
  | c :: r => by
    unfold Lib.indexByte cutW
    by_cases h : c = 32
    · subst h
      exact .inr ⟨0, by simp, by simp, by simp⟩
    · rcases cut_index r with ⟨h1, h2⟩ | ⟨i, h1, h2, h3⟩
      · exact .inl ⟨by simp [h, h1], by rw [if_neg h, h2]⟩
      · refine .inr ⟨i + 1, ?_, by simp; omega, ?_⟩
        · simp [h, h1]
        · rw [if_neg h, h3]; rfl
theorem extract_list (s : ByteArray) (i j : Nat) (h : j ≤ s.size) : s.extract i j = ⟨((s.data.toList.take j).drop i).toArray⟩ := by
  apply ByteArray.ext
  rw [ByteArray.data_extract]
  apply Array.ext'
  rw [Array.toList_extract, List.extract_eq_take_drop, List.drop_take]

theorem Index1_spec (s : ByteArray) (w : World) : CallsV C.P 180 #[.string s, .string ⟨#[32]⟩] w fun v w' => v = .int .i64 (Lib.indexByte s.data.toList 32) ∧ w' = w := by
  refine fun w₁ hs => (Any.stringslite_Index_one lays219 s 32 w₁).mono ?_
  rintro e w' ⟨rfl, rfl⟩
  exact ⟨⟨_, w, rfl, ⟨rfl, rfl⟩, hs⟩, fun _ => Nat.le_refl _⟩

theorem Cut_spec (s : ByteArray) (hs : s.size ≤ 9223372036854775807) (w : World) : CallsV C.P 94 #[.string s, .string ⟨#[32]⟩] w fun v w' => (∃ b, v = .tuple #[.string ⟨(cutW s.data.toList).1.toArray⟩, .string ⟨(cutW s.data.toList).2.toArray⟩, .bool b]) ∧ w' = w := by
  have inner : CallsV C.P 141 #[.string s, .string ⟨#[32]⟩] w fun v w' => (∃ b, v = .tuple #[.string ⟨(cutW s.data.toList).1.toArray⟩, .string ⟨(cutW s.data.toList).2.toArray⟩, .bool b]) ∧ w' = w := by
    refine callsV_of C_ok (args := [_, _]) (plans := plans141) Tryz.func141 rfl Tryz.ntmps141 (by kernel_rfl) (Nat.le_of_ble_eq_true rfl) ?_
    refine (Index1_spec s w).mono ?_
    rintro v w1 ⟨rfl, rfl⟩
    have hsz := ba_size s
    have hci := cut_index s.data.toList
    generalize Lib.indexByte s.data.toList 32 = z at *
    refine brE_dec (fun h => ?_) (fun h => ?_)
    · have h : z ≥ 0 := h
      rcases hci with ⟨h1, h2⟩ | ⟨i, h1, hi, h2⟩
      · omega
      rw [h2]
      refine ⟨0, i, rfl, h1, Nat.zero_le _, by omega, ?_⟩
      refine ⟨((i + 1 : Nat) : Int), by show IntKind.i64.wrap (z + 1) = _; rw [h1]; exact fit ⟨by omega, by omega⟩, ?_⟩
      refine ⟨i + 1, s.size, rfl, rfl, by omega, Nat.le_refl _, ?_⟩
      refine ⟨⟨true, ?_⟩, rfl⟩
      rw [extract_list s 0 i (by omega), extract_list s (i + 1) s.size (Nat.le_refl _), hsz, List.take_length]
      rfl
    · have h : ¬ z ≥ 0 := h
      rcases hci with ⟨h1, h2⟩ | ⟨i, h1, hi, h2⟩
      · rw [h2]
        exact ⟨⟨_, by rw [ba_mk]⟩, rfl⟩
      · omega
  refine callsV_of C_ok (args := [_, _]) (plans := []) Tryz.func94 rfl Tryz.ntmps94 (by kernel_rfl) (Nat.le_of_ble_eq_true rfl) ?_
  refine inner.mono ?_
  rintro v w1 ⟨⟨b, rfl⟩, rfl⟩
  exact ⟨⟨b, rfl⟩, rfl⟩

end Go.Proofs.YthpdkdmbfdmamaaGreatDoor

namespace Go.Proofs.YthpdkdmbfdmamaaGreatDoor
open Go.Eng Go.RowKit

def itoaS (n : Int) : ByteArray := ⟨(Lib.itoa n).toArray⟩
/-- The words of a line, as strings. -/
def wordsB (x : Fact) : List ByteArray := ([itoaS x.id, itoaS x.known, wordA x.kind.toNat] ++ (offs x.kind).map (fun o => itoaS (fieldI x o))) ++ if x.kind = 1 then [x.name] else []
theorem wordsB_L (x : Fact) : (wordsB x).map (fun b => b.data.toList) = wordsL x := by
  have e : ∀ n, (itoaS n).data.toList = Lib.itoa n := fun n => by simp [itoaS]
  unfold wordsB wordsL
  rw [List.map_append, List.map_append, List.map_map]
  have h1 : ([itoaS x.id, itoaS x.known, wordA x.kind.toNat] : List ByteArray).map (fun b => b.data.toList) = [Lib.itoa x.id, Lib.itoa x.known, (wordA x.kind.toNat).data.toList] := by
    rw [List.map_cons, List.map_cons, List.map_cons, List.map_nil, e, e]
  have h2 : (offs x.kind).map ((fun b : ByteArray => b.data.toList) ∘ fun o => itoaS (fieldI x o)) = (offs x.kind).map fun o => Lib.itoa (fieldI x o) := List.map_congr_left fun o _ => e _
  have h3 : ((if x.kind = 1 then [x.name] else []) : List ByteArray).map (fun b => b.data.toList) = if x.kind = 1 then [x.name.data.toList] else [] := by split <;> rfl
  rw [h1, h2, h3]
theorem join_bound : ∀ (ws : List (List UInt8)), (∀ v ∈ ws, v.length ≤ 30) → (Lib.join ws [32]).length ≤ 31 * ws.length
  | [], _ => by simp [Lib.join_nil]
  | [v], h => by
    have := h v (by simp)
    rw [Lib.join_one]; simp; omega
  | v :: u :: r, h => by
    have h1 := h v (by simp)
    have h2 := join_bound (u :: r) fun y hy => h y (by simp at hy ⊢; exact .inr hy)
    rw [join_two, List.length_append, List.length_cons]
    simp only [List.length_cons] at h2 ⊢
    omega
theorem field_num {x : Fact} (hx : x.Nums) {o : Nat} (h : o = 3 ∨ o = 4 ∨ o = 5 ∨ o = 6 ∨ o = 7) : In64 (fieldI x o) := by
  rcases h with rfl | rfl | rfl | rfl | rfl
  · exact hx.who
  · exact hx.what
  · exact hx.other
  · exact hx.since
  · exact hx.til
theorem word_len (k : Nat) : (wordA k).data.toList.length ≤ 11 := by
  unfold wordA
  split <;> exact Nat.le_of_ble_eq_true rfl
theorem line_bound {x : Fact} (hx : x.Nums) (h : formE x = 0) : (Lib.join (wordsL x) [32]).length ≤ 1000 ∧ 0 < (wordsB x).length ∧ (wordsB x).length ≤ 9 := by
  obtain ⟨_, _, _, hn⟩ := formE_zero h
  have hl : (offs x.kind).length ≤ 5 := by
    unfold offs
    repeat' split
    all_goals exact Nat.le_of_ble_eq_true rfl
  have hw : (wordsB x).length ≤ 9 ∧ 0 < (wordsB x).length := by
    unfold wordsB
    simp only [List.length_append, List.length_map, List.length_cons, List.length_nil]
    split
    · simp only [List.length_cons, List.length_nil]; omega
    · simp only [List.length_nil]; omega
  refine ⟨?_, hw.2, hw.1⟩
  have hb := join_bound (wordsL x) fun v hv => by
    unfold wordsL at hv
    rcases List.mem_append.1 hv with hv | hv
    · rcases List.mem_append.1 hv with hv | hv
      · simp only [List.mem_cons, List.not_mem_nil, or_false] at hv
        rcases hv with rfl | rfl | rfl
        · exact Nat.le_trans (Lib.itoa_length_le _ hx.id.1 hx.id.2) (by decide)
        · exact Nat.le_trans (Lib.itoa_length_le _ hx.known.1 hx.known.2) (by decide)
        · exact Nat.le_trans (word_len _) (by decide)
      · obtain ⟨o, ho, rfl⟩ := List.mem_map.1 hv
        have := field_num hx (offs_mem ho)
        exact Nat.le_trans (Lib.itoa_length_le _ this.1 this.2) (by decide)
    · split at hv
      · rename_i h1
        rw [List.mem_singleton.1 hv]
        have := (nameB_iff.1 (hn h1)).1.1
        omega
      · cases hv
  have : (wordsL x).length = (wordsB x).length := by rw [← wordsB_L, List.length_map]
  omega

set_option maxRecDepth 100000 in
theorem Write_spec (x : Fact) (hx : x.Nums) (w : World) (T : Tabs w) :
    CallsW C.P 30 #[x.val] w fun v w' => v = .tuple #[.string (if formE x = 0 then lineS x else ⟨#[]⟩), .int .i64 (formE x)] ∧ Ext w w' := by
  refine callsV_of Cw_ok (args := [_]) (plans := plans30) Tryz.func30 rfl Tryz.ntmps30 (by kernel_rfl) (Nat.le_of_ble_eq_true rfl) ?_
  intro g1 w1 h1
  have M1 : Mem w w1 [(g1, .cells x.cells.toArray 29 (0, 0))] := (Mem.start w).alloc h1
  refine ⟨x.cells, rfl, M1.rd 0 rfl, ?_⟩
  refine (formed_spec x hx w1).weak.mono ?_
  rintro v w2 ⟨rfl, e2⟩
  have M2 := M1.grow e2
  refine brE_ndec (fun a1 => ?_) (fun a1 => ?_)
  · have a1 : ¬ formE x = 0 := a1
    exact ⟨by rw [if_neg a1], M2.ext⟩
  have a1 : formE x = 0 := a1
  rw [if_pos a1]
  obtain ⟨hb1, hb2, hb3⟩ := line_bound hx a1
  obtain ⟨hh, _, _, _⟩ := formE_zero a1
  obtain ⟨hk, _⟩ := headB_iff.1 hh
  obtain ⟨k, hkk⟩ := Int.eq_ofNat_of_zero_le (show 0 ≤ x.kind by omega)
  refine ⟨.int .u8 (k : Int), by rw [← hkk]; exact M2.cell 0 rfl rfl, ?_⟩
  refine (formOf_spec k w2).weak.mono ?_
  rintro v w3 ⟨hv, e3⟩
  rw [if_pos ⟨by omega, by omega⟩] at hv
  obtain ⟨cs, rfl, hlen, hone, hform⟩ := hv
  obtain ⟨n1, n2, n3, c2, heq, r1, r2, r3, a1', a2', a3'⟩ := hform
  have hcs : cs = [.string (wordA k), .func (.func n1) #[] #[], .func (.func n2) #[] c2, .func (.func n3) #[] #[], .bool (Nat.beq k 1)] := by
    injection heq with h
    exact congrArg Array.toList h
  subst hcs
  have M3 := M2.grow e3
  intro g5 w4 h4
  have M4 := M3.alloc h4
  refine ⟨rfl, _, _, M4.get 0 rfl, Nat.le_of_ble_eq_true rfl, hone, ?_⟩
  intro w5 h5
  have h5 : Put w4 g5 (.cells #[.string (wordA k), .func (.func n1) #[] #[], .func (.func n2) #[] c2, .func (.func n3) #[] #[], .bool (Nat.beq k 1)] 88 (0, 0)) w5 := h5
  have M5 := M4.put 0 rfl h5
  have e35 : Ext w3 w5 := h5.ext_of h4.ext (by rw [h4.new]; exact Nat.le_refl _)
  refine ⟨_, M5.cell 1 rfl rfl, ?_⟩
  refine ⟨_, M5.cell 1 rfl rfl, ?_⟩
  refine ⟨_, M5.cell 0 rfl rfl, ?_⟩
  refine (Itoa_spec x.id hx.id _ (T.ext M5.ext)).weak.mono ?_
  rintro v w6 ⟨rfl, e6⟩
  refine ⟨e6, ?_⟩
  have M6 := M5.grow e6
  refine (Itoa_spec x.known hx.known _ (T.ext M6.ext)).weak.mono ?_
  rintro v w7 ⟨rfl, e7⟩
  refine ⟨e7, ?_⟩
  have M7 := M6.grow e7
  intro g7 w8 h8
  have M8 := M7.grow h8.ext
  have ho8 : w8.ownsRow w.heap.size 9 1 (.slice (some ⟨g7, 0, none⟩) 3 3) 3 (strs [itoaS x.id, itoaS x.known, wordA k]) :=
    owns_block (cs := strs [itoaS x.id, itoaS x.known, wordA k]) h8.here (by rw [h8.new]; exact M7.ext.size) rfl (by simp only [maxLen]; omega)
  refine ⟨_, M8.cell 0 rfl rfl, ?_⟩
  refine brE_true r1 ?_
  refine (a1' g1 w8).weak.mono ?_
  rintro v w9 ⟨⟨h, rfl, hh9, hnew⟩, e9⟩
  have M9 := (M8.grow e9).add hh9 (Nat.le_trans M8.ext.size hnew) (fun p hp => by
    have := M8.lt (g := p.1) (o := p.2) hp
    omega)
  have ho9 := ownsRow_ext ho8 e9
  have hlen5 := offs_len k
  have hov := @offs_mem k
  have hkc : (k : Int) = x.kind := hkk.symm
  have hfull : wordsB x = ([itoaS x.id, itoaS x.known, wordA k] ++ (offs k).map (fun o => itoaS (fieldI x o))) ++ if k = 1 then [x.name] else [] := by
    unfold wordsB
    rw [hkk, Int.toNat_natCast]
    congr 1
    by_cases hk1 : k = 1
    · rw [if_pos hk1, if_pos (by omega)]
    · rw [if_neg hk1, if_neg (by omega)]
  generalize hOS : offs k = OS at *
  refine loopE Cw_ok (fun (t : Nat × Value) => [(1, .pointer (some ⟨g1, 0, none⟩)), (5, .pointer (some ⟨g5, 0, none⟩)), (7, t.2), (32, .slice (some ⟨h, 0, none⟩) OS.length OS.length), (33, .int .i64 OS.length), (34, .int .i64 t.1)])
    (fun t w' => t.1 ≤ OS.length ∧ Mem w w' [(h, .cells (ptrs g1 OS).toArray 95 (0, 0)), (g5, .cells #[.string (wordA k), .func (.func n1) #[] #[], .func (.func n2) #[] c2, .func (.func n3) #[] #[], .bool (Nat.beq k 1)] 88 (0, 0)), (g1, .cells x.cells.toArray 29 (0, 0))] ∧
      w'.ownsRow w.heap.size 9 1 t.2 (3 + t.1) (strs ([itoaS x.id, itoaS x.known, wordA k] ++ (OS.take t.1).map (fun o => itoaS (fieldI x o))))) (fun t => OS.length - t.1) (0, .slice (some ⟨g7, 0, none⟩) 3 3)
    ⟨rfl, rfl, rfl, rfl, rfl, rfl, trivial⟩ ⟨Nat.zero_le _, M9, ho9⟩ ?_
  rintro ⟨i, v⟩ w10 ⟨hi', M10', ho10'⟩
  have hi : i ≤ OS.length := hi'
  have M10 : Mem w w10 [(h, .cells (ptrs g1 OS).toArray 95 (0, 0)), (g5, .cells #[.string (wordA k), .func (.func n1) #[] #[], .func (.func n2) #[] c2, .func (.func n3) #[] #[], .bool (Nat.beq k 1)] 88 (0, 0)), (g1, .cells x.cells.toArray 29 (0, 0))] := M10'
  have ho10 : w10.ownsRow w.heap.size 9 1 v (3 + i) (strs ([itoaS x.id, itoaS x.known, wordA k] ++ (OS.take i).map (fun o => itoaS (fieldI x o)))) := ho10'
  clear hi' M10' ho10'
  refine brE_dec (fun hlt => ?_) (fun hge => ?_)
  · have hlt : i < OS.length := by have : (i : Int) < (OS.length : Nat) := hlt; omega
    have hom := hov (List.getElem_mem hlt)
    refine ⟨i, h, 0, rfl, hlt, rfl, ?_⟩
    refine ⟨.pointer (some ⟨g1, OS[i], none⟩), by have := (M10.rd 0 rfl) i _ (ptrs_get hlt); simpa using this, ?_⟩
    refine ⟨_, cell_of_block (M10.get 2 rfl) (by rw [List.getElem?_toArray]; exact fieldI_cell x hom), ?_⟩
    refine (Itoa_spec (fieldI x OS[i]) (field_num hx hom) _ (T.ext M10.ext)).weak.mono ?_
    rintro u w11 ⟨rfl, e11⟩
    have M11 := M10.grow e11
    intro g12 w12 h12
    have M12 := M11.grow h12.ext
    have ho12 := ownsRow_ext ho10 (e11.trans h12.ext)
    refine ⟨rfl, rfl, rfl, w.heap.size, _, _, [.string (itoaS (fieldI x OS[i]))], ho12, M12.ext.size, Nat.le_of_ble_eq_true rfl, rfl, rfl, .inr ⟨g12, 0, rfl, Rd.of_block h12.here⟩, rfl, rfl, by omega, by simp only [maxLen]; omega, ?_⟩
    intro v13 w13 ho13 hg13 _
    have e13 : Ext w w13 := app_ext M12.ext ho12 hg13
    have M13 := M12.onlyT e13 (only_app ho12 hg13) rfl
    refine ⟨((i + 1 : Nat) : Int), fit ⟨by omega, by omega⟩, ?_⟩
    refine ⟨(i + 1, v13), ⟨rfl, rfl, rfl, rfl, rfl, rfl, trivial⟩, ⟨hlt, M13, ?_⟩, by show OS.length - (i + 1) < OS.length - i; omega⟩
    show w13.ownsRow w.heap.size 9 1 v13 (3 + (i + 1)) (strs ([itoaS x.id, itoaS x.known, wordA k] ++ (OS.take (i + 1)).map (fun o => itoaS (fieldI x o))))
    rw [List.take_succ_eq_append_getElem hlt, List.map_append, ← List.append_assoc, strs_append]
    exact ho13
  have : i = OS.length := by have : ¬ (i : Int) < (OS.length : Nat) := hge; omega
  subst this
  rw [List.take_length] at ho10
  refine ⟨_, M10.cell 1 rfl rfl, ?_⟩
  refine brE_mk (fun hn => ?A) (fun hn => ?B)
  case' A =>
    have hk1 : k = 1 := Nat.eq_of_beq_eq_true hn
    rw [if_pos hk1] at hfull
    refine ⟨_, M10.cell 2 rfl rfl, ?_⟩
    intro g12 w12 h12
    have M12 := M10.grow h12.ext
    have ho12 := ownsRow_ext ho10 h12.ext
    refine ⟨rfl, rfl, rfl, w.heap.size, _, _, [.string x.name], ho12, M12.ext.size, Nat.le_of_ble_eq_true rfl, rfl, rfl, .inr ⟨g12, 0, rfl, Rd.of_block h12.here⟩, rfl, rfl, by omega, by simp only [maxLen]; omega, ?_⟩
    intro v13 w13 ho13 hg13 _
    have e13 : Ext w w13 := app_ext M12.ext ho12 hg13
    have ho14 : w13.ownsRow w.heap.size 9 1 v13 (wordsB x).length (strs (wordsB x)) := by
      rw [hfull, strs_append, List.length_append, List.length_append, List.length_map]
      exact ho13
  case' B =>
    have hk1 : ¬ k = 1 := fun e => by rw [e] at hn; cases hn
    rw [if_neg hk1, List.append_nil] at hfull
    have e13 : Ext w w10 := M10.ext
    have ho14 : w10.ownsRow w.heap.size 9 1 v (wordsB x).length (strs (wordsB x)) := by
      rw [hfull, List.length_append, List.length_map]
      exact ho10
  all_goals
    obtain ⟨AW, cW, hvW, hrW, hcW⟩ := reads_of_owns ho14
    subst hvW
    have hjl : (Lib.join ((wordsB x).map fun b => b.data.toList) [32]).length ≤ 1000 := by rw [wordsB_L]; exact hb1
    refine (Join_spec hrW hb2 (by omega) hcW (by omega)).mono ?_
    rintro u w15 ⟨rfl, e15⟩
    refine ⟨?_, e13.trans e15⟩
    rw [wordsB_L, a1]
    rfl

end Go.Proofs.YthpdkdmbfdmamaaGreatDoor
