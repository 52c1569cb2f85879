/- The alphabet, letters; the index of a number in a row: the program. -/
import Derived.Test.YthpdkdmbfdmamaaGreatDoorGCf
set_option linter.unusedVariables false
set_option linter.unusedSimpArgs false
set_option linter.unnecessarySimpa false
set_option linter.unusedSectionVars false
namespace Go.Proofs.YthpdkdmbfdmamaaGreatDoor
open Go.Eng Go.RowKit

def entryOf (K : List Fact) (lang s : Int) : Entry := ⟨s, !decide (nameL K s lang = ⟨#[]⟩), nameL K s lang⟩
theorem entryOf_ok (K : List Fact) (lang s : Int) : (entryOf K lang s).Ok := rfl
/-- The entries in the order of the alphabet. -/
theorem entries_order {K : List Fact} {lang : Int} {l' : List Entry} (hp : l'.Perm ((statesL K).map (entryOf K lang))) (hs : l'.Pairwise fun a b => ltE b a = false) : l'.map Entry.state = orderL K lang := by
  have hmem : ∀ e ∈ l', e = entryOf K lang e.state := fun e he => by
    obtain ⟨s, _, rfl⟩ := List.mem_map.1 (hp.mem_iff.1 he)
    rfl
  refine order_eq ?_ ?_
  · have := hp.map Entry.state
    rw [List.map_map] at this
    have e : (Entry.state ∘ entryOf K lang) = id := rfl
    rw [e, List.map_id] at this
    exact this
  · rw [List.pairwise_map]
    refine (List.pairwise_iff_getElem.2 fun i j hi hj hij => ?_)
    have h := (List.pairwise_iff_getElem.1 hs) i j hi hj hij
    have e1 := hmem _ (List.getElem_mem hi)
    have e2 := hmem _ (List.getElem_mem hj)
    rw [e1, e2, ltE_eq (entryOf_ok _ _ _) (entryOf_ok _ _ _)] at h
    exact h

theorem from_eq (lot : Int) {n : Nat} (hn : 0 < n) : (lot.tmod n + n).tmod n = ((lot.emod n).toNat : Int) ∧ -(n : Int) < lot.tmod n ∧ lot.tmod n < n := by
  have hn' : (0 : Int) < n := by omega
  have h1 : lot.tmod n < n := Int.tmod_lt_of_pos lot hn'
  have h2 : -(n : Int) < lot.tmod n := by
    have := Int.lt_tmod_of_pos lot hn'
    exact this
  have h3 := Int.mul_tdiv_add_tmod lot n
  have h4 : 0 ≤ lot.emod n := Int.emod_nonneg lot (by omega)
  refine ⟨?_, h2, h1⟩
  rw [Int.toNat_of_nonneg h4, Int.tmod_eq_emod_of_nonneg (by omega)]
  have h5 : lot % (n : Int) = lot.tmod n % n := by
    conv => lhs; rw [← h3]
    rw [Int.add_comm, Int.add_mul_emod_self_left]
  show (lot.tmod n + n) % (n : Int) = lot % n
  rw [h5, Int.add_emod_right]

theorem Reads.entry {w : World} {A : Option Addr} {l : List Entry} (h : Reads w A (entries l)) {i : Nat} (hi : i < l.length) : ∃ b o, A = some ⟨b, o, none⟩ ∧ Rd w b (o + i * 3) l[i].cells := Reads.elem Entry.len (by omega) h hi
theorem entries_append (a b : List Entry) : entries (a ++ b) = entries a ++ entries b := by simp [entries]
theorem entries_one (x : Entry) : entries [x] = x.cells := by simp [entries]

set_option maxRecDepth 100000 in
theorem Alphabet_spec {w : World} {A : Option Addr} {l : List Fact} {c : Nat} (h : HF w A l c) (hl : l.length ≤ 2 ^ 20) (k day lang lot : Int) :
    CallsV C.P 49 #[.slice A l.length c, .int .i64 k, .int .i64 day, .int .i64 lang, .int .i64 lot] w fun v w' => NewInts w.heap.size w' v (alphaL (atL k day l) lang lot) ∧ Ext w w' := by
  refine callsV_of C_ok (args := [_, _, _, _, _]) (plans := []) Tryz.func49 rfl Tryz.ntmps49 (by kernel_rfl) (Nat.le_of_ble_eq_true rfl) ?_
  refine (look_spec h hl k day).mono ?_
  rintro v w1 ⟨hK, e1⟩
  refine (States_spec (h.ext e1) hl k day).mono ?_
  rintro v2 w2 ⟨hS, e2⟩
  have hkl := atL_length k day l
  generalize atL k day l = K at *
  have hsl : (statesL K).length ≤ K.length := by
    refine Nat.le_trans (sortD_length _) ?_
    unfold whos
    rw [List.length_map]
    exact List.length_filter_le _ _
  obtain ⟨AK, cK, rfl, hrK, _⟩ := hK.slice
  have hrK2 := hrK.ext e2
  have e02 := e1.trans e2
  have hperm := fun (l' : List Entry) => entries_order (K := K) (lang := lang) (l' := l')
  unfold alphaL
  generalize hSe : statesL K = S at *
  obtain ⟨AS, cS, rfl, hrS, _⟩ := hS.slice
  refine loopE C_ok (fun (t : Nat × Value) => [(3, .int .i64 lang), (4, .int .i64 lot), (11, .slice AK K.length cK), (12, t.2), (28, .slice AS S.length cS), (29, .int .i64 S.length), (30, .int .i64 t.1)])
    (fun t w' => t.1 ≤ S.length ∧ Ext w2 w' ∧ w'.ownsRow w2.heap.size 123 3 t.2 ((S.take t.1).map (entryOf K lang)).length (entries ((S.take t.1).map (entryOf K lang)))) (fun t => S.length - t.1) (0, .slice none 0 0)
    ⟨rfl, rfl, rfl, rfl, rfl, rfl, rfl, trivial⟩ ⟨Nat.zero_le _, Ext.refl _, World.ownsRow_nil _ _ _ _⟩ ?_
  rintro ⟨i, v⟩ w3 ⟨hi', e3, ho'⟩
  have hi : i ≤ S.length := hi'
  have ho : w3.ownsRow w2.heap.size 123 3 v ((S.take i).map (entryOf K lang)).length (entries ((S.take i).map (entryOf K lang))) := ho'
  clear hi' ho'
  refine brE_dec (fun hlt => ?_) (fun hge => ?_)
  · have hlt : i < S.length := by have : (i : Int) < (S.length : Nat) := hlt; omega
    have next : IntKind.i64.wrap ((i : Int) + 1) = ((i + 1 : Nat) : Int) := fit ⟨by omega, by omega⟩
    have hlen : ((S.take i).map (entryOf K lang)).length ≤ S.length := by rw [List.length_map, List.length_take]; omega
    have step : (S.take (i + 1)).map (entryOf K lang) = (S.take i).map (entryOf K lang) ++ [entryOf K lang S[i]] := by
      rw [List.take_succ_eq_append_getElem hlt, List.map_append]; rfl
    obtain ⟨b, o, hA, hc⟩ := Reads.int (hrS.ext e3) hlt
    refine ⟨i, b, o, rfl, hlt, hA, ?_⟩
    refine ⟨_, by simpa using hc, ?_⟩
    refine (named_spec (hrK2.ext e3) (by omega) S[i] lang).mono ?_
    rintro v4 w4 ⟨rfl, e4⟩
    have hent : entryOf K lang S[i] = ⟨S[i], !decide (((lastP (isNm S[i] lang) K).getD factZ).name = ⟨#[]⟩), ((lastP (isNm S[i] lang) K).getD factZ).name⟩ := rfl
    generalize (lastP (isNm S[i] lang) K).getD factZ = y at *
    intro g w5 h5
    refine ⟨rfl, _, _, h5.here, Nat.le_of_ble_eq_true rfl, rfl, ?_⟩
    intro w6 h6
    have h6 : Put w5 g (.cells y.cells.toArray 29 (0, 0)) w6 := h6
    have e46 : Ext w4 w6 := h6.ext_of h5.ext (by rw [h5.new]; exact Nat.le_refl _)
    have e36 := e4.trans e46
    refine ⟨_, cell_of_block h6.here rfl, ?_⟩
    refine ⟨_, neqStr _ _ y.name ⟨#[]⟩, ?_⟩
    refine ⟨_, cell_of_block h6.here rfl, ?_⟩
    intro g7 w7 h7
    have ho7 : w7.ownsRow w2.heap.size 123 3 v _ _ := ownsRow_ext ho (e36.trans h7.ext)
    have e7 := (e3.trans e36).trans h7.ext
    refine ⟨rfl, rfl, rfl, w2.heap.size, _, _, Entry.cells ⟨S[i], !decide (y.name = ⟨#[]⟩), y.name⟩, ho7, e7.size, Nat.le_of_ble_eq_true rfl, rfl, rfl, .inr ⟨g7, 0, rfl, Rd.of_block h7.here⟩, rfl, rfl, by omega, by simp only [maxLen]; omega, ?_⟩
    intro v8 w8 ho8 hg8 _
    refine ⟨_, next, ?_⟩
    refine ⟨(i + 1, v8), ⟨rfl, rfl, rfl, rfl, rfl, rfl, rfl, trivial⟩, ⟨hlt, app_ext e7 ho7 hg8, ?_⟩, by show S.length - (i + 1) < S.length - i; omega⟩
    show w8.ownsRow w2.heap.size 123 3 v8 ((S.take (i + 1)).map (entryOf K lang)).length (entries ((S.take (i + 1)).map (entryOf K lang)))
    rw [step, entries_append, entries_one, List.length_append, hent]
    exact ho8
  have : i = S.length := by have : ¬ (i : Int) < (S.length : Nat) := hge; omega
  subst this
  rw [List.take_length] at ho
  have hml : (S.map (entryOf K lang)).length = S.length := List.length_map ..
  refine (SortE_spec ho (by omega)).mono ?_
  rintro r w4 ⟨rfl, l', hp, hs, ho4, hg4, _⟩
  have hord := hperm l' hp hs
  have hll : l'.length = S.length := by rw [hp.length_eq, hml]
  have hol : (orderL K lang).length = l'.length := by rw [← hord, List.length_map]
  have e24 : Ext w2 w4 := app_ext e3 ho hg4
  have e04 := e02.trans e24
  rw [← hord]
  clear hord hperm hp hs hol
  simp only [List.length_map]
  obtain ⟨A4, c4, rfl, hr4, _⟩ := reads_of_owns ho4
  refine brE_dec (fun h0 => ?_) (fun h0 => ?_)
  · have h0 : (l'.length : Int) = 0 := h0
    have : l' = [] := List.length_eq_zero_iff.1 (by omega)
    subst this
    exact ⟨newInts_nil _ _, e04⟩
  have h0 : ¬ (l'.length : Int) = 0 := h0
  have hn : 0 < l'.length := by omega
  obtain ⟨f1, f2, f3⟩ := from_eq lot hn
  refine ⟨h0, _, rfl, ?_⟩
  refine ⟨_, fit ⟨by omega, by omega⟩, ?_⟩
  refine ⟨h0, _, f1, ?_⟩
  have hfr : (lot.emod l'.length).toNat < l'.length := by
    have := Int.emod_lt_of_pos lot (show (0 : Int) < l'.length by omega)
    have h' : lot.emod l'.length < l'.length := this
    have h'' : 0 ≤ lot.emod l'.length := Int.emod_nonneg lot (by omega)
    omega
  generalize (lot.emod l'.length).toNat = fr at *
  refine loopE C_ok (fun (t : Nat × Value) => [(12, .slice A4 l'.length c4), (17, .int .i64 l'.length), (18, .int .i64 fr), (19, t.2), (65, .int .i64 l'.length), (66, .int .i64 t.1)])
    (fun t w' => t.1 ≤ l'.length ∧ Ext w4 w' ∧ NewInts w4.heap.size w' t.2 ((List.range t.1).map fun i => (l'.map Entry.state).getD ((fr + i) % l'.length) 0)) (fun t => l'.length - t.1) (0, .slice none 0 0)
    ⟨rfl, rfl, rfl, rfl, rfl, rfl, trivial⟩ ⟨Nat.zero_le _, Ext.refl _, newInts_nil _ _⟩ ?_
  rintro ⟨i, v⟩ w5 ⟨hi', e5, ho'⟩
  have hi : i ≤ l'.length := hi'
  have ho5 : NewInts w4.heap.size w5 v ((List.range i).map fun i => (l'.map Entry.state).getD ((fr + i) % l'.length) 0) := ho'
  clear hi' ho'
  refine brE_dec (fun hlt => ?_) (fun hge => ?_)
  · have hlt : i < l'.length := by have : (i : Int) < (l'.length : Nat) := hlt; omega
    have next : IntKind.i64.wrap ((i : Int) + 1) = ((i + 1 : Nat) : Int) := fit ⟨by omega, by omega⟩
    have hj : (fr + i) % l'.length < l'.length := Nat.mod_lt _ hn
    have hlen : ((List.range i).map fun i => (l'.map Entry.state).getD ((fr + i) % l'.length) 0).length ≤ l'.length := by rw [List.length_map, List.length_range]; omega
    have hget : (l'.map Entry.state).getD ((fr + i) % l'.length) 0 = l'[(fr + i) % l'.length].state := by
      rw [List.getD_eq_getElem?_getD, List.getElem?_map, List.getElem?_eq_getElem hj]; rfl
    refine ⟨((fr + i : Nat) : Int), by rw [fit ⟨by omega, by omega⟩]; omega, ?_⟩
    refine ⟨h0, (((fr + i) % l'.length : Nat) : Int), by rw [Int.tmod_eq_emod_of_nonneg (by omega)]; omega, ?_⟩
    obtain ⟨b, o, hA, hc⟩ := Reads.entry (hr4.ext e5) hj
    refine ⟨(fr + i) % l'.length, b, o, rfl, hj, hA, ?_⟩
    refine ⟨_, hc 0 _ rfl, ?_⟩
    intro g7 w7 h7
    have ho7 : w7.ownsRow w4.heap.size 3 1 v _ _ := ownsRow_ext ho5 h7.ext
    have e7 := e5.trans h7.ext
    refine ⟨rfl, rfl, rfl, w4.heap.size, _, _, [.int .i64 l'[(fr + i) % l'.length].state], ho7, e7.size, Nat.le_of_ble_eq_true rfl, rfl, rfl, .inr ⟨g7, 0, rfl, Rd.of_block h7.here⟩, rfl, rfl, by omega, by simp only [maxLen]; omega, ?_⟩
    intro v8 w8 ho8 hg8 _
    refine ⟨_, next, ?_⟩
    refine ⟨(i + 1, v8), ⟨rfl, rfl, rfl, rfl, rfl, rfl, trivial⟩, ⟨hlt, app_ext e7 ho7 hg8, ?_⟩, by show l'.length - (i + 1) < l'.length - i; omega⟩
    show NewInts w4.heap.size w8 v8 ((List.range (i + 1)).map fun i => (l'.map Entry.state).getD ((fr + i) % l'.length) 0)
    rw [List.range_succ, List.map_append]
    unfold NewInts
    rw [ints_append, List.length_append, List.map_cons, List.map_nil, hget]
    exact ho8
  · have : i = l'.length := by have : ¬ (i : Int) < (l'.length : Nat) := hge; omega
    subst this
    exact ⟨NewInts.base ho5 e04.size, e04.trans e5⟩

theorem IndexI_spec {w : World} {A : Option Addr} {xs : List Int} {c : Nat} (hr : Reads w A (ints xs)) (hl : xs.length ≤ 2 ^ 40) (n : Int) :
    CallsV C.P 105 #[.slice A xs.length c, .int .i64 n] w fun v w' => (v = .int .i64 (match xs.findIdx? (fun x => decide (x = n)) with | some i => (i : Int) | none => -1)) ∧ w' = w := by
  refine callsV_of C_ok (args := [_, _]) (plans := []) Tryz.func105 rfl Tryz.ntmps105 (by kernel_rfl) (Nat.le_of_ble_eq_true rfl) ?_
  refine loopE C_ok (fun (i : Nat) => [(0, .slice A xs.length c), (1, .int .i64 n), (7, .int .i64 xs.length), (8, .int .i64 i)])
    (fun i w' => w' = w ∧ i ≤ xs.length ∧ ∀ j (h : j < xs.length), j < i → xs[j] ≠ n) (fun i => xs.length - i) 0 ⟨rfl, rfl, rfl, rfl, trivial⟩ ⟨rfl, Nat.zero_le _, fun _ _ h => absurd h (Nat.not_lt_zero _)⟩ ?_
  rintro i w1 ⟨rfl, hi, hall⟩
  refine brE_dec (fun hlt => ?_) (fun hge => ?_)
  · have hlt : i < xs.length := by have : (i : Int) < (xs.length : Nat) := hlt; omega
    obtain ⟨b, o, hA, hc⟩ := Reads.int hr hlt
    refine ⟨i, b, o, rfl, hlt, hA, ?_⟩
    refine ⟨_, by simpa using hc, ?_⟩
    refine brE_dec (fun h2 => ?_) (fun h2 => ?_)
    · have h2 : n = xs[i] := h2
      have : xs.findIdx? (fun x => decide (x = n)) = some i := by
        rw [List.findIdx?_eq_some_iff_getElem]
        exact ⟨hlt, decide_eq_true h2.symm, fun j hj => by simpa using hall j (by omega) hj⟩
      exact ⟨by rw [this], rfl⟩
    · have h2 : ¬ n = xs[i] := h2
      refine ⟨((i + 1 : Nat) : Int), fit ⟨by omega, by omega⟩, ?_⟩
      refine ⟨i + 1, ⟨rfl, rfl, rfl, rfl, trivial⟩, ⟨rfl, hlt, fun j hj hji => ?_⟩, by omega⟩
      rcases Nat.lt_or_ge j i with h | h
      · exact hall j hj h
      · obtain rfl : j = i := by omega
        exact fun e => h2 e.symm
  · have : i = xs.length := by have : ¬ (i : Int) < (xs.length : Nat) := hge; omega
    subst this
    have : xs.findIdx? (fun x => decide (x = n)) = none := by
      rw [List.findIdx?_eq_none_iff]
      intro x hx
      obtain ⟨j, hj, rfl⟩ := List.getElem_of_mem hx
      exact decide_eq_false (hall j hj hj)
    exact ⟨by rw [this], rfl⟩
theorem ContainsI_spec {w : World} {A : Option Addr} {xs : List Int} {c : Nat} (hr : Reads w A (ints xs)) (hl : xs.length ≤ 2 ^ 40) (n : Int) :
    CallsV C.P 121 #[.slice A xs.length c, .int .i64 n] w fun v w' => v = .bool (decide (n ∈ xs)) ∧ w' = w := by
  refine callsV_of C_ok (args := [_, _]) (plans := []) Tryz.func121 rfl Tryz.ntmps121 (by kernel_rfl) (Nat.le_of_ble_eq_true rfl) ?_
  refine (IndexI_spec hr hl n).mono ?_
  rintro v w1 ⟨rfl, rfl⟩
  refine ⟨congrArg Value.bool ?_, rfl⟩
  cases hf : xs.findIdx? (fun x => decide (x = n)) with
  | some i =>
    obtain ⟨hi, he, _⟩ := List.findIdx?_eq_some_iff_getElem.1 hf
    have he := of_decide_eq_true he
    show decide ((i : Int) ≥ 0) = _
    rw [decide_eq_true (by omega), decide_eq_true (he ▸ List.getElem_mem hi)]
  | none =>
    rw [List.findIdx?_eq_none_iff] at hf
    show decide ((-1 : Int) ≥ 0) = _
    rw [decide_eq_false (by omega), decide_eq_false fun h => by have := hf n h; simp at this]

theorem Letter_spec {w : World} {A : Option Addr} {l : List Fact} {c : Nat} (h : HF w A l c) (hl : l.length ≤ 2 ^ 20) (k day lang lot s : Int) :
    CallsV C.P 45 #[.slice A l.length c, .int .i64 k, .int .i64 day, .int .i64 lang, .int .i64 lot, .int .i64 s] w fun v w' => v = .tuple #[.int .i64 (letterL (atL k day l) lang lot s).1, .bool (letterL (atL k day l) lang lot s).2] ∧ Ext w w' := by
  refine callsV_of C_ok (args := [_, _, _, _, _, _]) (plans := []) Tryz.func45 rfl Tryz.ntmps45 (by kernel_rfl) (Nat.le_of_ble_eq_true rfl) ?_
  refine (Alphabet_spec h hl k day lang lot).mono ?_
  rintro v w1 ⟨ho, e1⟩
  have hlen : (alphaL (atL k day l) lang lot).length ≤ l.length := by
    unfold alphaL
    simp only [List.length_map, List.length_range]
    rw [(orderL_perm _ _).length_eq]
    refine Nat.le_trans (sortD_length _) ?_
    unfold whos
    rw [List.length_map]
    exact Nat.le_trans (List.length_filter_le _ _) (atL_length k day l)
  unfold letterL
  generalize alphaL (atL k day l) lang lot = a at *
  obtain ⟨Aa, ca, rfl, hra, _⟩ := ho.slice
  refine (IndexI_spec hra (by omega) s).mono ?_
  rintro v w2 ⟨hv, rfl⟩
  cases hf : a.findIdx? (fun x => decide (x = s)) with
  | some i =>
    rw [hf] at hv
    have hz : ∃ z : Int, z = (i : Int) := ⟨_, rfl⟩
    obtain ⟨z, hz⟩ := hz
    have hv : v = .int .i64 z := by rw [hz]; exact hv
    subst hv
    refine brE_dec (fun hge => ?_) (fun hlt => ?_)
    · rw [hz]; exact ⟨rfl, e1⟩
    · exact absurd (show z ≥ 0 by omega) hlt
  | none =>
    rw [hf] at hv
    have hz : ∃ z : Int, z = -1 := ⟨_, rfl⟩
    obtain ⟨z, hz⟩ := hz
    have hv : v = .int .i64 z := by rw [hz]; exact hv
    subst hv
    refine brE_dec (fun hge => ?_) (fun hlt => ?_)
    · exact absurd (show z ≥ 0 from hge) (by omega)
    · exact ⟨rfl, e1⟩

end Go.Proofs.YthpdkdmbfdmamaaGreatDoor
