/- The reference's Restrict. -/
import Derived.Test.YtdfhfehlmonjjaaQ9
namespace Go.Proofs.Ytdfhfehlmonjjaa
open Go.Eng Go.RowKit

def keepErr (N : Int) : List Int → List Int → Int
  | _, [] => 0
  | seen, a :: r => if inR N a = true then (if a ∈ seen then 6 else keepErr N (seen ++ [a]) r) else 1
theorem keepErr_at {N : Int} {keep : List Int} {i : Nat} (hi : i < keep.length) : keepErr N (keep.take i) (keep.drop i) =
    if inR N keep[i] = true then (if keep[i] ∈ keep.take i then 6 else keepErr N (keep.take (i + 1)) (keep.drop (i + 1))) else 1 := by
  rw [List.drop_eq_getElem_cons hi, keepErr, List.take_succ_eq_append_getElem hi]

/-- What is wrong with a restriction. -/
def restrictE (N : Int) (xs : List Arrow) (keep : List Int) : Int := if chk N xs = 0 then keepErr N [] keep else chk N xs

def rowR (N : Int) (xs : List Arrow) (keep : List Int) (a b : Nat) : List Arrow := (List.range b).filterMap fun k => (arrowS N xs (keep.getD a 0) (keep.getD k 0)).map fun x => ⟨(a : Int), (k : Int), x.rule, x.wt⟩
def listR (N : Int) (xs : List Arrow) (keep : List Int) (a : Nat) : List Arrow := (List.range a).flatMap fun k => rowR N xs keep k keep.length
def restrictL (N : Int) (xs : List Arrow) (keep : List Int) : List Arrow := listR N xs keep keep.length

theorem rowR_succ (N : Int) (xs : List Arrow) (keep : List Int) (a b : Nat) : rowR N xs keep a (b + 1) = rowR N xs keep a b ++ ((arrowS N xs (keep.getD a 0) (keep.getD b 0)).map fun x => (⟨(a : Int), (b : Int), x.rule, x.wt⟩ : Arrow)).toList := by
  unfold rowR
  rw [List.range_succ, List.filterMap_append]
  rw [List.filterMap_cons, List.filterMap_nil]
  cases arrowS N xs (keep.getD a 0) (keep.getD b 0) <;> rfl
theorem rowR_length (N : Int) (xs : List Arrow) (keep : List Int) (a b : Nat) : (rowR N xs keep a b).length ≤ b := by
  unfold rowR
  exact Nat.le_trans (List.length_filterMap_le _ _) (by simp)
theorem listR_succ (N : Int) (xs : List Arrow) (keep : List Int) (a : Nat) : listR N xs keep (a + 1) = listR N xs keep a ++ rowR N xs keep a keep.length := by
  unfold listR
  rw [List.range_succ, List.flatMap_append]; simp
theorem listR_length (N : Int) (xs : List Arrow) (keep : List Int) (a : Nat) : (listR N xs keep a).length ≤ a * keep.length := by
  induction a with
  | zero => simp [listR]
  | succ a ih =>
    rw [listR_succ, List.length_append, Nat.succ_mul]
    have := rowR_length N xs keep a keep.length
    omega

theorem refRestrict_spec {N : Int} {A B : Option Addr} {xs : List Arrow} {c d : Nat} {keep : List Int} {w : World} (h : HRel w N A xs c) (hr : Reads w B (ints keep)) (hkl : keep.length ≤ 60) :
    CallsV C.P 51 #[relVal N A xs.length c, .slice B keep.length d] w fun v w' => (∃ u, v = .tuple #[u, .int .i64 (restrictE N xs keep)] ∧ NewRel w.heap.size w' u (if restrictE N xs keep = 0 then keep.length else 0) (if restrictE N xs keep = 0 then restrictL N xs keep else [])) ∧ Ext w w' := by
  refine callsV_of C_ok (args := [_, _]) (plans := plans51) Try.func51 rfl Try.ntmps51 (by kernel_rfl) (Nat.le_of_ble_eq_true rfl) ?_
  intro g2 w1 h1
  intro g4 w2 h2
  have M2 : Mem w w2 [(g4, .cells #[.int .i64 0, .slice none 0 0] 24 (0, 0)), (g2, .cells #[.int .i64 N, .slice A xs.length c] 24 (0, 0))] := ((Mem.start w).alloc h1).alloc h2
  refine ⟨[.int .i64 N, .slice A xs.length c], rfl, M2.rd 1 rfl, ?_⟩
  refine (refCheck_spec (h.ext M2.ext)).mono ?_
  rintro v w3 ⟨rfl, e3⟩
  have M3 := M2.grow e3
  have wrong : ∀ {e : Int} {u : Value} {w' : World}, e = restrictE N xs keep → e ≠ 0 → u = .agg #[.int .i64 0, .slice none 0 0] → Ext w w' →
      (∃ u', Value.tuple #[u, .int .i64 e] = .tuple #[u', .int .i64 (restrictE N xs keep)] ∧ NewRel w.heap.size w' u' (if restrictE N xs keep = 0 then keep.length else 0) (if restrictE N xs keep = 0 then restrictL N xs keep else [])) ∧ Ext w w' := by
    intro e u w' he hne hu hE
    subst hu
    refine ⟨⟨_, by rw [he], ?_⟩, hE⟩
    rw [← he, if_neg hne, if_neg hne]
    exact newRel_zero _ _
  refine brE_mk (fun hb => ?_) (fun hb => ?_)
  · have hv : chk N xs ≠ 0 := by simpa using hb
    refine ⟨rfl, _, _, M3.get 0 rfl, Nat.le_of_ble_eq_true rfl, rfl, ?_⟩
    intro w4 h4
    have M4 := M3.put 0 rfl h4
    refine ⟨[.int .i64 0, .slice none 0 0], rfl, M4.rd 0 rfl, ?_⟩
    exact wrong (by rw [restrictE, if_neg hv]) hv rfl M4.ext
  have hv : chk N xs = 0 := by simpa using hb
  have hok := valid_of_chk hv
  have hE : restrictE N xs keep = keepErr N [] keep := by rw [restrictE, if_pos hv]
  refine loopE C_ok (fun (i : Nat) => [(1, .slice B keep.length d), (2, .pointer (some ⟨g2, 0, none⟩)), (4, .pointer (some ⟨g4, 0, none⟩)), (7, .int .i64 i)])
    (fun i w' => i ≤ keep.length ∧ Mem w w' [(g4, .cells #[.int .i64 0, .slice none 0 0] 24 (0, 0)), (g2, .cells #[.int .i64 N, .slice A xs.length c] 24 (0, 0))] ∧ keepErr N [] keep = keepErr N (keep.take i) (keep.drop i)) (fun i => keep.length - i) 0
    ⟨rfl, rfl, rfl, rfl, trivial⟩ ⟨Nat.zero_le _, M3, rfl⟩ ?_
  rintro i w4 ⟨hi, M4, hloop⟩
  refine brE_dec (fun hlt => ?_) (fun hge => ?_)
  · have hlt : i < keep.length := by have : (i : Int) < (keep.length : Nat) := hlt; omega
    rw [keepErr_at hlt] at hloop
    obtain ⟨b1, o1, hB1, hc1⟩ := Reads.int (hr.ext M4.ext) hlt
    refine ⟨[.int .i64 N, .slice A xs.length c], rfl, M4.rd 1 rfl, ?_⟩
    refine ⟨i, b1, o1, rfl, hlt, hB1, ?_⟩
    refine ⟨_, by simpa using hc1, ?_⟩
    refine (refIn_spec N A xs.length c keep[i] w4).mono ?_
    rintro v w5 ⟨rfl, e5⟩
    have M5 := M4.grow e5
    refine brE_mk (fun hb => ?_) (fun hb => ?_)
    · rw [Bool.not_eq_true'] at hb
      rw [if_neg (by rw [hb]; decide)] at hloop
      refine ⟨rfl, _, _, M5.get 0 rfl, Nat.le_of_ble_eq_true rfl, rfl, ?_⟩
      intro w6 h6
      have M6 := M5.put 0 rfl h6
      refine ⟨[.int .i64 0, .slice none 0 0], rfl, M6.rd 0 rfl, ?_⟩
      exact wrong (by rw [hE, hloop]) (by decide) rfl M6.ext
    rw [Bool.not_eq_false'] at hb
    rw [if_pos hb] at hloop
    refine loopE C_ok (fun (k : Nat) => [(1, .slice B keep.length d), (2, .pointer (some ⟨g2, 0, none⟩)), (4, .pointer (some ⟨g4, 0, none⟩)), (7, .int .i64 i), (8, .int .i64 k)])
      (fun k w' => w' = w5 ∧ k ≤ i ∧ ∀ j (h : j < keep.length), j < k → keep[j] ≠ keep[i]) (fun k => i - k) 0
      ⟨rfl, rfl, rfl, rfl, rfl, trivial⟩ ⟨rfl, Nat.zero_le _, fun j _ hj => absurd hj (Nat.not_lt_zero _)⟩ ?_
    rintro k w6 ⟨rfl, hk, hno⟩
    refine brE_dec (fun hltk => ?_) (fun hgek => ?_)
    · have hltk : k < i := by have : (k : Int) < i := hltk; omega
      obtain ⟨b2, o2, hB2, hc2⟩ := Reads.int (hr.ext M5.ext) (i := k) (by omega)
      obtain ⟨b3, o3, hB3, hc3⟩ := Reads.int (hr.ext M5.ext) hlt
      refine ⟨k, b2, o2, rfl, (by omega : k < keep.length), hB2, ?_⟩
      refine ⟨_, by simpa using hc2, ?_⟩
      refine ⟨i, b3, o3, rfl, hlt, hB3, ?_⟩
      refine ⟨_, by simpa using hc3, ?_⟩
      refine brE_dec (fun he => ?_) (fun he => ?_)
      · have he : keep[k] = keep[i] := he
        have hm : keep[i] ∈ keep.take i := by
          rw [← he]
          have hkt : k < (keep.take i).length := by rw [List.length_take]; omega
          have := List.getElem_mem hkt
          rw [List.getElem_take] at this
          exact this
        rw [if_pos hm] at hloop
        refine ⟨rfl, _, _, M5.get 0 rfl, Nat.le_of_ble_eq_true rfl, rfl, ?_⟩
        intro w7 h7
        have M7 := M5.put 0 rfl h7
        refine ⟨[.int .i64 0, .slice none 0 0], rfl, M7.rd 0 rfl, ?_⟩
        exact wrong (by rw [hE, hloop]) (by decide) rfl M7.ext
      · have he : ¬ keep[k] = keep[i] := he
        refine ⟨((k + 1 : Nat) : Int), fit ⟨by omega, by omega⟩, ?_⟩
        refine ⟨k + 1, ⟨rfl, rfl, rfl, rfl, rfl, trivial⟩, ⟨rfl, hltk, fun j hj hji => ?_⟩, by omega⟩
        rcases Nat.lt_or_ge j k with h | h
        · exact hno j hj h
        · obtain rfl : j = k := by omega
          exact he
    · have : k = i := by have : ¬ (k : Int) < i := hgek; omega
      subst this
      have hm : keep[k] ∉ keep.take k := fun hm => by
        obtain ⟨j, hj, e⟩ := List.getElem_of_mem hm
        rw [List.getElem_take] at e
        rw [List.length_take] at hj
        exact hno j (by omega) (by omega) e
      rw [if_neg hm] at hloop
      refine ⟨((k + 1 : Nat) : Int), fit ⟨by omega, by omega⟩, ?_⟩
      exact ⟨k + 1, ⟨rfl, rfl, rfl, rfl, trivial⟩, ⟨hlt, M5, hloop⟩, by omega⟩
  have : i = keep.length := by have : ¬ (i : Int) < (keep.length : Nat) := hge; omega
  subst this
  rw [List.drop_length] at hloop
  have hE0 : restrictE N xs keep = 0 := by rw [hE, hloop]; rfl
  rw [hE0, if_pos rfl, if_pos rfl]
  intro g9 w5 h5
  have M5 := M4.alloc h5
  refine ⟨rfl, _, _, M5.get 0 rfl, Nat.le_of_ble_eq_true rfl, rfl, ?_⟩
  intro w6 h6
  have M6 : Mem w w6 [(g9, .cells #[.int .i64 keep.length, .slice none 0 0] 24 (0, 0)), (g4, .cells #[.int .i64 0, .slice none 0 0] 24 (0, 0)), (g2, .cells #[.int .i64 N, .slice A xs.length c] 24 (0, 0))] := M5.put 0 rfl h6
  have hll := listR_length N xs keep
  have hmul : ∀ a, a ≤ keep.length → a * keep.length ≤ 3600 := fun a ha => Nat.le_trans (Nat.mul_le_mul (Nat.le_trans ha hkl) hkl) (by decide)
  refine loopE C_ok (fun (s : Nat × Value) => [(1, .slice B keep.length d), (2, .pointer (some ⟨g2, 0, none⟩)), (4, .pointer (some ⟨g4, 0, none⟩)), (9, .pointer (some ⟨g9, 0, none⟩)), (10, .int .i64 s.1)])
    (fun s w' => s.1 ≤ keep.length ∧ Mem w w' [(g9, .cells #[.int .i64 keep.length, s.2] 24 (0, 0)), (g4, .cells #[.int .i64 0, .slice none 0 0] 24 (0, 0)), (g2, .cells #[.int .i64 N, .slice A xs.length c] 24 (0, 0))] ∧
      w'.ownsRow w.heap.size 43 4 s.2 (listR N xs keep s.1).length (arrows (listR N xs keep s.1))) (fun s => keep.length - s.1) (0, .slice none 0 0)
    ⟨rfl, rfl, rfl, rfl, rfl, trivial⟩ ⟨Nat.zero_le _, M6, World.ownsRow_nil _ _ _ _⟩ ?_
  rintro ⟨a, v⟩ w7 ⟨ha, M7, ho7⟩
  have ha : a ≤ keep.length := ha
  have ho7 : w7.ownsRow w.heap.size 43 4 v (listR N xs keep a).length (arrows (listR N xs keep a)) := ho7
  refine brE_dec (fun hlt => ?_) (fun hge => ?_)
  · have hlt : a < keep.length := by have : (a : Int) < (keep.length : Nat) := hlt; omega
    have ha1 := hll a
    have ha2 := hmul a ha
    have ga : keep.getD a 0 = keep[a] := by simp [List.getD_eq_getElem?_getD, hlt]
    refine loopE C_ok (fun (s : Nat × Value) => [(1, .slice B keep.length d), (2, .pointer (some ⟨g2, 0, none⟩)), (4, .pointer (some ⟨g4, 0, none⟩)), (9, .pointer (some ⟨g9, 0, none⟩)), (10, .int .i64 a), (11, .int .i64 s.1)])
      (fun s w' => s.1 ≤ keep.length ∧ Mem w w' [(g9, .cells #[.int .i64 keep.length, s.2] 24 (0, 0)), (g4, .cells #[.int .i64 0, .slice none 0 0] 24 (0, 0)), (g2, .cells #[.int .i64 N, .slice A xs.length c] 24 (0, 0))] ∧
        w'.ownsRow w.heap.size 43 4 s.2 (listR N xs keep a ++ rowR N xs keep a s.1).length (arrows (listR N xs keep a ++ rowR N xs keep a s.1))) (fun s => keep.length - s.1) (0, v)
      ⟨rfl, rfl, rfl, rfl, rfl, rfl, trivial⟩ ⟨Nat.zero_le _, M7, by show w7.ownsRow _ _ _ v (_ ++ rowR N xs keep a 0).length (arrows (_ ++ rowR N xs keep a 0)); simp only [rowR, List.range_zero, List.filterMap_nil, List.append_nil]; exact ho7⟩ ?_
    rintro ⟨b, v⟩ w8 ⟨hb, M8, ho8⟩
    have hb : b ≤ keep.length := hb
    have M8 : Mem w w8 [(g9, .cells #[.int .i64 keep.length, v] 24 (0, 0)), (g4, .cells #[.int .i64 0, .slice none 0 0] 24 (0, 0)), (g2, .cells #[.int .i64 N, .slice A xs.length c] 24 (0, 0))] := M8
    have ho8 : w8.ownsRow w.heap.size 43 4 v (listR N xs keep a ++ rowR N xs keep a b).length (arrows (listR N xs keep a ++ rowR N xs keep a b)) := ho8
    refine brE_dec (fun hltb => ?_) (fun hgeb => ?_)
    · have hltb : b < keep.length := by have : (b : Int) < (keep.length : Nat) := hltb; omega
      have gb : keep.getD b 0 = keep[b] := by simp [List.getD_eq_getElem?_getD, hltb]
      have hb1 := rowR_length N xs keep a b
      have next : IntKind.i64.wrap ((b : Int) + 1) = ((b + 1 : Nat) : Int) := fit ⟨by omega, by omega⟩
      have hrs := rowR_succ N xs keep a b
      rw [ga, gb] at hrs
      obtain ⟨b1, o1, hB1, hc1⟩ := Reads.int (hr.ext M8.ext) hlt
      obtain ⟨b2, o2, hB2, hc2⟩ := Reads.int (hr.ext M8.ext) hltb
      refine ⟨[.int .i64 N, .slice A xs.length c], rfl, M8.rd 2 rfl, ?_⟩
      refine ⟨a, b1, o1, rfl, hlt, hB1, ?_⟩
      refine ⟨_, by simpa using hc1, ?_⟩
      refine ⟨b, b2, o2, rfl, hltb, hB2, ?_⟩
      refine ⟨_, by simpa using hc2, ?_⟩
      refine ⟨?A, ?B⟩
      case' A =>
        refine (refArrow_spec (h.ext M8.ext) keep[a] keep[b]).mono ?_
        rintro v9 w9 ⟨rfl, e9⟩
        refine ⟨e9, ?_⟩
        intro g12 w10 h10
        refine ⟨h10.ext, ?_⟩
        have e810 : Ext w8 w10 := e9.trans h10.ext
        have hnew : w8.heap.size ≤ g12 := by rw [h10.new]; exact e9.size
        have hcell : w10.heap[g12]? = some (.cells ty43.zero.cells 43 (0, 0)) := h10.here
      case' B =>
        intro g12 w9 h9
        refine ⟨h9.ext, ?_⟩
        refine (refArrow_spec (h.ext (M8.ext.trans h9.ext)) keep[a] keep[b]).mono ?_
        rintro v10 w10 ⟨rfl, e10⟩
        refine ⟨e10, ?_⟩
        have e810 : Ext w8 w10 := h9.ext.trans e10
        have hnew : w8.heap.size ≤ g12 := by rw [h9.new]; exact Nat.le_refl _
        have hcell : w10.heap[g12]? = some (.cells ty43.zero.cells 43 (0, 0)) := e10.heap h9.here
      all_goals
        clear hc1 hc2
        generalize arrowS N xs keep[a] keep[b] = r at *
        refine ⟨rfl, _, _, hcell, Nat.le_of_ble_eq_true rfl, rfl, ?_⟩
        intro w11 h11
        have h11 : Put w10 g12 (.cells (r.getD arrowZ).cells.toArray 43 (0, 0)) w11 := h11
        have e811 : Ext w8 w11 := h11.ext_of e810 hnew
        have M11 := M8.grow e811
        have ho11 := ownsRow_ext ho8 e811
        refine brE_mk (fun hs => ?_) (fun hs => ?_)
        · obtain ⟨x, rfl⟩ := Option.isSome_iff_exists.1 hs
          refine ⟨_, M11.cell 0 rfl rfl, ?_⟩
          refine ⟨_, cell_of_block h11.here rfl, ?_⟩
          refine ⟨_, cell_of_block h11.here rfl, ?_⟩
          intro g13 w12 h12
          have ho12 := ownsRow_ext ho11 h12.ext
          obtain ⟨A8, c8, rfl, _, _⟩ := reads_of_owns ho8
          have M12 := M11.grow h12.ext
          refine ⟨rfl, rfl, rfl, w.heap.size, _, _, [.int .i64 a, .int .i64 b, .int .i64 x.rule, .int .i64 x.wt], ho12, M12.ext.size, Nat.le_of_ble_eq_true rfl, rfl, rfl, .inr ⟨g13, 0, rfl, Rd.of_block h12.here⟩, rfl, rfl, by rw [List.length_append]; omega, by rw [List.length_append]; simp only [maxLen]; omega, ?_⟩
          intro v13 w13 ho13 hg13 _
          have o13 := only_app ho12 hg13
          have M13 := M12.onlyT (app_ext M12.ext ho12 hg13) o13 rfl
          obtain ⟨A13, c13, rfl, _, _⟩ := reads_of_owns ho13
          refine ⟨rfl, _, _, M13.get 0 rfl, Nat.le_of_ble_eq_true rfl, rfl, ?_⟩
          intro w14 h14
          have M14 := M13.put 0 rfl h14
          refine ⟨_, next, ?_⟩
          refine ⟨(b + 1, .slice A13 _ c13), ⟨rfl, rfl, rfl, rfl, rfl, rfl, trivial⟩, ⟨(by show b + 1 ≤ keep.length; omega), M14, ?_⟩, by show keep.length - (b + 1) < keep.length - b; omega⟩
          show w14.ownsRow _ _ _ (.slice A13 _ c13) (_ ++ rowR N xs keep a (b + 1)).length (arrows (_ ++ rowR N xs keep a (b + 1)))
          have hl1 : ∀ y : Arrow, ((listR N xs keep a ++ rowR N xs keep a b) ++ [y]).length = (listR N xs keep a ++ rowR N xs keep a b).length + 1 := fun y => by rw [List.length_append]; rfl
          rw [hrs, ← List.append_assoc, arrows_append]
          simp only [Option.map_some, Option.toList_some]
          rw [hl1]
          exact ownsRow_only ho13 (only_put h14 (M13.get 0 rfl)) (by decide)
        · have hr0 : r = none := by cases r with
            | none => rfl
            | some x => cases hs
          subst hr0
          have hrs : rowR N xs keep a (b + 1) = rowR N xs keep a b := by rw [hrs]; simp
          refine ⟨_, next, ?_⟩
          refine ⟨(b + 1, v), ⟨rfl, rfl, rfl, rfl, rfl, rfl, trivial⟩, ⟨(by show b + 1 ≤ keep.length; omega), M11, ?_⟩, by show keep.length - (b + 1) < keep.length - b; omega⟩
          show w11.ownsRow _ _ _ v (_ ++ rowR N xs keep a (b + 1)).length (arrows (_ ++ rowR N xs keep a (b + 1)))
          rw [hrs]
          exact ho11
    · have : b = keep.length := by have : ¬ (b : Int) < (keep.length : Nat) := hgeb; omega
      subst this
      rw [← listR_succ] at ho8
      refine ⟨((a + 1 : Nat) : Int), fit ⟨by omega, by omega⟩, ?_⟩
      exact ⟨(a + 1, v), ⟨rfl, rfl, rfl, rfl, rfl, trivial⟩, ⟨hlt, M8, ho8⟩, by show keep.length - (a + 1) < keep.length - a; omega⟩
  · have : a = keep.length := by have : ¬ (a : Int) < (keep.length : Nat) := hge; omega
    subst this
    obtain ⟨A7, c7, rfl, _, _⟩ := reads_of_owns ho7
    refine ⟨[.int .i64 keep.length, .slice A7 (restrictL N xs keep).length c7], rfl, M7.rd 0 rfl, ?_⟩
    refine ⟨rfl, _, _, M7.get 1 rfl, Nat.le_of_ble_eq_true rfl, rfl, ?_⟩
    intro w8 h8
    have M8 := M7.put 1 rfl h8
    refine ⟨[.int .i64 keep.length, .slice A7 (restrictL N xs keep).length c7], rfl, M8.rd 1 rfl, ?_⟩
    refine ⟨⟨_, rfl, A7, c7, rfl, ?_⟩, M8.ext⟩
    exact ownsRow_only ho7 (only_put h8 (M7.get 1 rfl)) (by decide)

end Go.Proofs.Ytdfhfehlmonjjaa
