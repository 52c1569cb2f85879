/- Circles: lists are struck off a row of one's own. -/
import Derived.Test.YtdfhfehlmonjjaaR34
import Derived.Test.YtdfhfehlmonjjaaE8
namespace Go.Proofs.Ytdfhfehlmonjjaa
open Go.Eng Go.RowKit

theorem Circles1_spec (A : Option Addr) (n c : Nat) (w : World) : CallsV C.P 76 #[.slice A n c] w fun v w' => v = .bool (decide (n < 2)) ∧ w' = w := by
  refine callsV_of C_ok (args := [_]) (plans := []) Try.func76 rfl Try.ntmps76 (by kernel_rfl) (Nat.le_of_ble_eq_true rfl) ?_
  refine ⟨?_, rfl⟩
  congr 1
  rw [decide_eq_decide]
  omega

/-- Those that are kept, of the first 'j'. -/
def keepL (L : List (List Int)) (j : Nat) : List (List Int) := (L.take j).filter fun l => !decide (l.length < 2)
def keepU (us : List Value) (L : List (List Int)) (j : Nat) : List Value := (((us.zip L).take j).filter fun p => !decide (p.2.length < 2)).map Prod.fst

theorem keep_succ {us : List Value} {L : List (List Int)} {j : Nat} (hu : us.length = L.length) (hj : j < L.length) :
    keepL L (j + 1) = (if L[j].length < 2 then keepL L j else keepL L j ++ [L[j]]) ∧ keepU us L (j + 1) = (if L[j].length < 2 then keepU us L j else keepU us L j ++ [us[j]'(by omega)]) := by
  have hz : j < (us.zip L).length := by simp; omega
  unfold keepL keepU
  rw [List.take_succ_eq_append_getElem hj, List.take_succ_eq_append_getElem hz, List.filter_append, List.filter_append, List.map_append]
  by_cases h : L[j].length < 2 <;> simp [h]

theorem keepU_length (us : List Value) (L : List (List Int)) (j : Nat) : (keepU us L j).length ≤ j := by
  unfold keepU
  rw [List.length_map]
  exact Nat.le_trans (List.length_filter_le _ _) (by simp; omega)

theorem keep_same {us : List Value} {L : List (List Int)} (hu : us.length = L.length) : ∀ j, (keepU us L j).length = (keepL L j).length := by
  intro j
  induction j with
  | zero => simp [keepU, keepL]
  | succ j ih =>
    by_cases hj : j < L.length
    · have h := keep_succ hu hj
      rw [h.1, h.2]
      split
      · exact ih
      · simp [ih]
    · have e1 : keepL L (j + 1) = keepL L j := by
        unfold keepL; rw [List.take_of_length_le (by omega), List.take_of_length_le (by omega)]
      have e2 : keepU us L (j + 1) = keepU us L j := by
        unfold keepU; rw [List.take_of_length_le (by simp; omega), List.take_of_length_le (by simp; omega)]
      rw [e1, e2]; exact ih

theorem AllRows.keep {w : World} {B : Nat} {us : List Value} {L : List (List Int)} (h : AllRows w B us L) : ∀ j, AllRows w B (keepU us L j) (keepL L j) := by
  intro j
  induction j with
  | zero => exact .nil
  | succ j ih =>
    have hl := h.length
    by_cases hj : j < L.length
    · have hk := keep_succ hl hj
      rw [hk.1, hk.2]
      split
      · exact ih
      · obtain ⟨u, hu, ho⟩ := h.at hj
        have : us[j]'(by omega) = u := by
          have := (List.getElem?_eq_some_iff.1 hu).2
          exact this
        rw [this]
        exact ih.snoc ho
    · have e1 : keepL L (j + 1) = keepL L j := by
        unfold keepL; rw [List.take_of_length_le (by omega), List.take_of_length_le (by omega)]
      have e2 : keepU us L (j + 1) = keepU us L j := by
        unfold keepU; rw [List.take_of_length_le (by simp; omega), List.take_of_length_le (by simp; omega)]
      rw [e1, e2]; exact ih

theorem keepL_all (L : List (List Int)) : keepL L L.length = L.filter fun l => !decide (l.length < 2) := by
  unfold keepL; rw [List.take_length]

theorem Index2_spec {w : World} {A : Option Addr} {c : Nat} {L : List (List Int)} {us : List Value} (hr : RList w A L us) (hl : L.length ≤ 4611686018427387904) :
    CallsV C.P 89 #[.slice A L.length c, .func (.func 76) #[] #[]] w fun v w' => ((v = .int .i64 (-1) ∧ ∀ l ∈ L, ¬ l.length < 2) ∨ ∃ i : Nat, v = .int .i64 (i : Nat) ∧ ∃ h : i < L.length, L[i].length < 2 ∧ ∀ j (hj : j < L.length), j < i → ¬ L[j].length < 2) ∧ w' = w := by
  refine callsV_of C_ok (args := [_, _]) (plans := []) Try.func89 rfl Try.ntmps89 (by kernel_rfl) (Nat.le_of_ble_eq_true rfl) ?_
  refine loopE C_ok (fun (i : Nat) => [(0, .slice A L.length c), (1, .func (.func 76) #[] #[]), (7, .int .i64 L.length), (8, .int .i64 i)])
    (fun i w' => w' = w ∧ i ≤ L.length ∧ ∀ j (hj : j < L.length), j < i → ¬ L[j].length < 2) (fun i => L.length - i) 0 ⟨rfl, rfl, rfl, rfl, trivial⟩
    ⟨rfl, Nat.zero_le _, fun j _ hj => absurd hj (Nat.not_lt_zero _)⟩ ?_
  rintro i w1 ⟨rfl, hi, hall⟩
  refine brE_dec (fun hlt => ?_) (fun hge => ?_)
  · have hlt : i < L.length := by have : (i : Int) < (L.length : Nat) := hlt; omega
    obtain ⟨A', c', hu, _⟩ := hr.row i hlt
    rcases hr.reads with h0 | ⟨b, o, hA, hrd⟩
    · subst h0; simp at hu
    refine ⟨i, b, o, rfl, hlt, hA, ?_⟩
    refine ⟨_, by have := hrd i _ hu; simpa using this, ?_⟩
    refine (Circles1_spec A' L[i].length c' w1).mono ?_
    rintro v w2 ⟨rfl, rfl⟩
    refine brE_dec (fun h2 => ?_) (fun h2 => ?_)
    · exact ⟨.inr ⟨i, rfl, hlt, h2, hall⟩, rfl⟩
    · refine ⟨((i + 1 : Nat) : Int), fit ⟨by omega, by omega⟩, ?_⟩
      refine ⟨i + 1, ⟨rfl, rfl, rfl, rfl, trivial⟩, ⟨rfl, hlt, fun j hj hji => ?_⟩, by omega⟩
      rcases Nat.lt_or_ge j i with h | h
      · exact hall j hj h
      · obtain rfl : j = i := by omega
        exact h2
  · have : i = L.length := by have : ¬ (i : Int) < (L.length : Nat) := hge; omega
    subst this
    refine ⟨.inl ⟨rfl, fun l hl => ?_⟩, rfl⟩
    obtain ⟨j, hj, rfl⟩ := List.getElem_of_mem hl
    exact hall j hj hj

theorem Only.trans {t : Nat} {a b c : World} (h : Only t a b) (k : Only t b c) : Only t a c := fun q cs t' fr hq hne => k q cs t' fr (h q cs t' fr hq hne) hne

theorem put_below {B g : Nat} {o : Obj} {w w' : World} (h : Put w g o w') (hg : B ≤ g) : Below B w w' := below_put (Below.refl _ _) h hg

theorem splice_take_at {cs vs : List Value} {i : Nat} (h : i ≤ cs.length) : (splice cs i vs).take i = cs.take i := by
  unfold splice
  rw [List.append_assoc, List.take_append_of_le_length (by simp; omega), List.take_take, Nat.min_self]

theorem Delete2_spec {B : Nat} {w : World} {v : Value} {L : List (List Int)} (hv : Lists B w v L) (hB : B ≤ w.heap.size) (hl : L.length ≤ 4611686018427387904) :
    CallsV C.P 75 #[v, .func (.func 76) #[] #[]] w fun v' w' => Lists B w' v' (L.filter fun l => !decide (l.length < 2)) ∧ Below B w w' := by
  obtain ⟨us, ho, hrows⟩ := hv
  have hul := hrows.length
  obtain ⟨A, cap, us', rfl, hR⟩ := (show Lists B w v L from ⟨us, ho, hrows⟩).read
  refine callsV_of C_ok (args := [_, _]) (plans := []) Try.func75 rfl Try.ntmps75 (by kernel_rfl) (Nat.le_of_ble_eq_true rfl) ?_
  refine (Index2_spec hR hl).mono ?_
  rintro v w1 ⟨hi | ⟨i0, rfl, hi0, hsm, hfirst⟩, rfl⟩
  · obtain ⟨rfl, hall⟩ := hi
    have e : (L.filter fun l => !decide (l.length < 2)) = L := List.filter_eq_self.2 fun l hl => by simpa using hall l hl
    rw [e]
    exact ⟨⟨us, ho, hrows⟩, Below.refl _ _⟩
  refine ⟨((i0 + 1 : Nat) : Int), fit ⟨by omega, by omega⟩, ?_⟩
  have hA : ∃ g, A = some ⟨g, 0, none⟩ := by
    obtain ⟨_, ⟨hv, h0⟩ | ⟨g, cap', cur, hv, _⟩⟩ := ho
    · simp at hv; omega
    · simp at hv; exact ⟨g, hv.1⟩
  obtain ⟨g, rfl⟩ := hA
  have kp0 : keepL L (i0 + 1) = L.take i0 ∧ keepU us L (i0 + 1) = us.take i0 := by
    have h := keep_succ hul hi0
    rw [if_pos hsm, if_pos hsm] at h
    rw [h.1, h.2]
    have key : ∀ m, m ≤ i0 → keepL L m = L.take m ∧ keepU us L m = us.take m := by
      intro m
      induction m with
      | zero => intro _; simp [keepL, keepU]
      | succ m ih =>
        intro hm
        have h1 := ih (by omega)
        have hmL : m < L.length := by omega
        have h2 := keep_succ hul hmL
        rw [if_neg (hfirst m hmL (by omega)), if_neg (hfirst m hmL (by omega))] at h2
        rw [h2.1, h2.2, h1.1, h1.2, List.take_succ_eq_append_getElem hmL, List.take_succ_eq_append_getElem (by omega : m < us.length)]
        exact ⟨rfl, rfl⟩
    exact key i0 (Nat.le_refl _)
  refine loopE C_ok (fun (s : Nat × Nat × List Value) => [(0, .slice (some ⟨g, 0, none⟩) L.length cap), (1, .func (.func 76) #[] #[]), (5, .int .i64 s.2.1), (6, .int .i64 s.1)])
    (fun s w' => s.2.1 = (keepL L s.1).length ∧ s.2.1 < s.1 ∧ s.1 ≤ L.length ∧ w'.ownsRow B 30 1 (.slice (some ⟨g, 0, none⟩) L.length cap) L.length s.2.2 ∧ s.2.2.take s.2.1 = keepU us L s.1 ∧ (∀ k, s.1 ≤ k → s.2.2[k]? = us[k]?) ∧ Only 30 w1 w' ∧ Below B w1 w')
    (fun s => L.length - s.1) (i0 + 1, i0, us) ⟨rfl, rfl, rfl, rfl, trivial⟩
    ⟨by show i0 = (keepL L (i0 + 1)).length; rw [kp0.1, List.length_take]; omega, Nat.lt_succ_self _, hi0, ho, kp0.2.symm, fun _ _ => rfl, only_ext _ (Ext.refl _), Below.refl _ _⟩ ?_
  rintro ⟨j, i, ds⟩ w2 ⟨hi, hij, hj, ho2, htake, hrest, o2, b2⟩
  have hi : i = (keepL L j).length := hi
  have hij : i < j := hij
  have hj : j ≤ L.length := hj
  have ho2 : w2.ownsRow B 30 1 (.slice (some ⟨g, 0, none⟩) L.length cap) L.length ds := ho2
  have htake : ds.take i = keepU us L j := htake
  have hrest : ∀ k, j ≤ k → ds[k]? = us[k]? := hrest
  obtain ⟨cur, hg, hgB, hcl, hccap, hncap, hdl, hct, hput⟩ := ownsRow_open ho2
  refine brE_dec (fun hlt => ?_) (fun hge => ?_)
  · have hlt : j < L.length := by have : (j : Int) < (L.length : Nat) := hlt; omega
    obtain ⟨u, hu, hou⟩ := hrows.at hlt
    obtain ⟨A', c', rfl, _, _⟩ := reads_of_owns hou
    have hcj : w2.cell? ⟨g, 0 + j * 1, none⟩ = some (.slice A' L[j].length c') := by
      have h1 : ds[j]? = some (.slice A' L[j].length c') := (hrest j (Nat.le_refl _)).trans hu
      rw [← hct] at h1
      rw [List.getElem?_take, if_pos (by omega)] at h1
      have := (Rd.of_block hg) j _ h1
      simpa using this
    have next : IntKind.i64.wrap ((j : Int) + 1) = ((j + 1 : Nat) : Int) := fit ⟨by omega, by omega⟩
    have hk := keep_succ hul hlt
    refine ⟨j, g, 0, rfl, hlt, rfl, ?_⟩
    refine ⟨_, hcj, ?_⟩
    refine (Circles1_spec A' L[j].length c' w2).mono ?_
    rintro v w3 ⟨rfl, rfl⟩
    refine brE_mk (fun h2 => ?_) (fun h2 => ?_)
    · have h2 : ¬ L[j].length < 2 := by simpa using h2
      rw [if_neg h2, if_neg h2] at hk
      refine ⟨i, g, 0, rfl, (by omega : i < L.length), rfl, ?_⟩
      refine ⟨rfl, _, _, hg, by show 0 + i * 1 + 1 ≤ cur.length; omega, rfl, ?_⟩
      intro w4 h4
      have h4 : Put w3 g (.cells (splice cur (0 + i * 1) [.slice A' L[j].length c']).toArray 30 (0, 0)) w4 := h4
      have e0 : 0 + i * 1 = i := by omega
      have ho4 := hput (0 + i * 1) [.slice A' L[j].length c'] w4 (by show 0 + i * 1 + 1 ≤ _; omega) h4
      rw [e0, splice_one (by omega)] at ho4
      refine ⟨((i + 1 : Nat) : Int), fit ⟨by omega, by omega⟩, ?_⟩
      refine ⟨_, next, ?_⟩
      refine ⟨(j + 1, i + 1, ds.set i (.slice A' L[j].length c')), ⟨rfl, rfl, rfl, rfl, trivial⟩, ⟨?_, by show i + 1 < j + 1; omega, hlt, ho4, ?_, ?_, Only.trans o2 (only_put h4 hg), below_put b2 h4 hgB⟩, by show L.length - (j + 1) < L.length - j; omega⟩
      · show i + 1 = (keepL L (j + 1)).length
        rw [hk.1, List.length_append, ← hi]; rfl
      · show (ds.set i (.slice A' L[j].length c')).take (i + 1) = keepU us L (j + 1)
        have hil : i < (ds.set i (.slice A' L[j].length c')).length := by rw [List.length_set]; omega
        rw [hk.2, List.take_succ_eq_append_getElem hil, List.take_set_of_le (Nat.le_refl _), htake]
        congr 1
        simp
        exact ((List.getElem?_eq_some_iff.1 hu).2).symm
      · intro k hk1
        show (ds.set i (.slice A' L[j].length c'))[k]? = us[k]?
        have hk1 : j + 1 ≤ k := hk1
        rw [List.getElem?_set_ne (by omega)]
        exact hrest k (by omega)
    · have h2 : L[j].length < 2 := by simpa using h2
      rw [if_pos h2, if_pos h2] at hk
      refine ⟨_, next, ?_⟩
      exact ⟨(j + 1, i, ds), ⟨rfl, rfl, rfl, rfl, trivial⟩, ⟨by show i = (keepL L (j + 1)).length; rw [hk.1]; exact hi, by show i < j + 1; omega, hlt, ho2, by show ds.take i = keepU us L (j + 1); rw [hk.2]; exact htake, fun k hk1 => hrest k (by have : j + 1 ≤ k := hk1; omega), o2, b2⟩, by show L.length - (j + 1) < L.length - j; omega⟩
  · have : j = L.length := by have : ¬ (j : Int) < (L.length : Nat) := hge; omega
    subst this
    refine ⟨i, L.length, rfl, rfl, by omega, by omega, ?_⟩
    have hA : (if cap = i then (some (⟨g, 0, none⟩ : Addr)) else (some (⟨g, 0, none⟩ : Addr)).map (·.add (i * 1))) = some ⟨g, 0 + i * 1, none⟩ := by
      rw [if_neg (by omega)]
      simp [add_spot]
    refine clearRow (esz := 1) C_ok rfl rfl rfl rfl rfl rfl rfl (by decide) hA (by omega) hg (by omega) ?_
    intro zs w3 hzs h3
    have ho3 := hput (0 + i * 1) zs w3 (by rw [hzs]; omega) h3
    refine ⟨0, i, rfl, rfl, Nat.zero_le _, by omega, ?_⟩
    have e : (if cap = 0 then (some ⟨g, 0, none⟩ : Option Addr) else (some (⟨g, 0, none⟩ : Addr)).map (·.add (0 * 1))) = some ⟨g, 0, none⟩ := by
      split <;> rfl
    have hcut := ownsRow_cut ho3 (k := i) (by omega)
    have e0 : 0 + i * 1 = i := by omega
    rw [e0, Nat.mul_one, splice_take_at (by omega), htake] at hcut
    have hrows3 : AllRows w3 B us L := (hrows.only o2 (by decide)).only (only_put h3 hg) (by decide)
    refine ⟨?_, below_put b2 h3 hgB⟩
    rw [← keepL_all]
    refine ⟨keepU us L L.length, ?_, hrows3.keep _⟩
    show w3.ownsRow B 30 1 (.slice (if cap = 0 then (some ⟨g, 0, none⟩ : Option Addr) else (some (⟨g, 0, none⟩ : Addr)).map (·.add (0 * 1))) i cap) (keepL L L.length).length _
    rw [e, ← hi]
    exact hcut

noncomputable def circlesV (N : Int) (xs : List Arrow) : List (List Int) := (compsV N xs).filter fun l => !decide (l.length < 2)

theorem Circles_spec {N : Int} {A : Option Addr} {xs : List Arrow} {c : Nat} {w : World} (h : HRel w N A xs c) :
    CallsV C.P 39 #[relVal N A xs.length c] w fun v w' => Lists w.heap.size w' v (circlesV N xs) ∧ Ext w w' := by
  refine callsV_of C_ok (args := [_]) (plans := []) Try.func39 rfl Try.ntmps39 (by kernel_rfl) (Nat.le_of_ble_eq_true rfl) ?_
  intro g1 w1 h1
  have M1 := (Mem.start w).alloc h1
  refine ⟨[.int .i64 N, .slice A xs.length c], rfl, M1.rd 0 rfl, ?_⟩
  refine (Components_spec (h.ext M1.ext)).mono ?_
  rintro v w2 ⟨hl, e2⟩
  have M2 := M1.grow e2
  have hpr := (compsV_props (N := N) (xs := xs)).1
  refine (Delete2_spec (hl.base M1.ext.size) M2.ext.size (by omega)).mono ?_
  rintro v' w3 ⟨hl3, b3⟩
  exact ⟨hl3, Below.trans M2.ext b3⟩

end Go.Proofs.Ytdfhfehlmonjjaa
