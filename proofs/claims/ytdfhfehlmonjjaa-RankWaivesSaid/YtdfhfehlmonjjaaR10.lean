/- rank: components, Components. -/
import Derived.Test.YtdfhfehlmonjjaaR9
import Derived.Test.YtdfhfehlmonjjaaE7
namespace Go.Proofs.Ytdfhfehlmonjjaa
open Go.Eng Go.RowKit

theorem lists_nil (B : Nat) (w : World) : Lists B w (.slice none 0 0) [] := ⟨[], World.ownsRow_nil _ _ _ _, .nil⟩
theorem Lists.base {B B' : Nat} {w : World} {v : Value} {L : List (List Int)} (h : Lists B' w v L) (hb : B ≤ B') : Lists B w v L :=
  let ⟨us, h1, h2⟩ := h
  ⟨us, ownsRow_base h1 hb, h2.base hb⟩
theorem Lists.ext {B : Nat} {w w' : World} {v : Value} {L : List (List Int)} (h : Lists B w v L) (e : Ext w w') : Lists B w' v L := h.only (only_ext 0 e) (by decide) (by decide)

/-- The rows, read: the slice, and each row of it. -/
structure RList (w : World) (A : Option Addr) (L : List (List Int)) (us : List Value) : Prop where
  len : us.length = L.length
  reads : Reads w A us
  row : ∀ i (h : i < L.length), ∃ A' c, us[i]? = some (.slice A' L[i].length c) ∧ Reads w A' (ints L[i])

theorem Lists.read {B : Nat} {w : World} {v : Value} {L : List (List Int)} (h : Lists B w v L) : ∃ A c us, v = .slice A L.length c ∧ RList w A L us := by
  obtain ⟨us, h1, h2⟩ := h
  obtain ⟨A, c, e, hr, _⟩ := reads_of_owns h1
  refine ⟨A, c, us, e, h2.length, hr, fun i hi => ?_⟩
  obtain ⟨u, hu, ho⟩ := h2.at hi
  obtain ⟨A', c', e', hr', _⟩ := reads_of_owns ho
  subst e'
  exact ⟨A', c', hu, hr'⟩
theorem RList.ext {w w' : World} {A : Option Addr} {L : List (List Int)} {us : List Value} (h : RList w A L us) (e : Ext w w') : RList w' A L us :=
  ⟨h.len, h.reads.ext e, fun i hi => let ⟨A', c, h1, h2⟩ := h.row i hi; ⟨A', c, h1, h2.ext e⟩⟩

/-- The components of a relation that is valid. -/
def compsL (n : Nat) (R : Nat → Nat → Bool) : List (List Int) := compsF n R 24 fun _ => false

theorem components_spec {w : World} {g n : Nat} {T R : Nat → Nat → Bool} (hw : Web w g n T R) (hn : n ≤ 24) :
    CallsV C.P 65 #[.pointer (some ⟨g, 0, none⟩)] w fun v w' => Lists w.heap.size w' v (compsL n R) ∧ Ext w w' := by
  refine callsV_of C_ok (args := [_]) (plans := []) Try.func65 rfl Try.ntmps65 (by kernel_rfl) (Nat.le_of_ble_eq_true rfl) ?_
  intro gb w1 h1
  intro go w2 h2
  intro gd w3 h3
  intro gv w4 h4
  refine ⟨[], [.pointer (some ⟨gb, 0, none⟩), .pointer (some ⟨gd, 0, none⟩), .pointer (some ⟨go, 0, none⟩), .pointer (some ⟨gv, 0, none⟩)], rfl, rfl, ?_⟩
  have M4 := ((((Mem.start w).alloc h1).alloc h2).alloc h3).alloc h4
  refine ⟨rfl, _, _, M4.get 0 rfl, Nat.le_of_ble_eq_true rfl, rfl, ?_⟩
  intro w5 h5
  have M5 := M4.put 0 rfl h5
  refine ⟨_, cell_of_block h5.here rfl, ?_⟩
  have e0 : List.replicate 24 (Value.bool false) = setCells fun _ => false := bools_false 24
  have hd : w5.heap[gd]? = some (.cells (setCells fun _ => false).toArray 76 (0, 0)) := by rw [← e0]; exact M5.get 1 rfl
  have hl : Lists w.heap.size w5 (.slice none 0 0) [] := lists_nil _ _
  have mem : CompMem w.heap.size w5 g gb gd go gv n T R (fun _ => false) (.slice none 0 0) [] :=
    ⟨M5.ext.size, ⟨M5.new 3 rfl, M5.new 1 rfl, M5.new 2 rfl, M5.new 0 rfl⟩, hw.ext M5.ext, M5.get 3 rfl, hd, M5.get 2 rfl, h5.here, hl⟩
  have hu : unseen (fun _ => false) ≤ 24 := Nat.le_trans (List.length_filter_le _ _) (by simp)
  refine (next_spec 24 _ _ w5 g gb gd go gv n T R _ _ hu hn (by rw [List.length_nil, Nat.zero_add]; exact hu) mem).mono ?_
  rintro v6 w6 ⟨v7, hb, ho, hl6⟩
  refine ⟨_, cell_of_block ho rfl, ?_⟩
  exact ⟨hl6, Below.trans M5.ext hb⟩

noncomputable def compsV (N : Int) (xs : List Arrow) : List (List Int) := if chk N xs = 0 then compsL N.toNat (reach (toM xs)) else []

theorem Components_spec {N : Int} {A : Option Addr} {xs : List Arrow} {c : Nat} {w : World} (h : HRel w N A xs c) :
    CallsV C.P 22 #[relVal N A xs.length c] w fun v w' => Lists w.heap.size w' v (compsV N xs) ∧ Ext w w' := by
  refine callsV_of C_ok (args := [_]) (plans := []) Try.func22 rfl Try.ntmps22 (by kernel_rfl) (Nat.le_of_ble_eq_true rfl) ?_
  intro g1 w1 h1
  have M1 := (Mem.start w).alloc h1
  refine ⟨[.int .i64 N, .slice A xs.length c], rfl, M1.rd 0 rfl, ?_⟩
  by_cases hv : chk N xs = 0
  · have hok := valid_of_chk hv
    refine (open_yes (h.ext M1.ext) hok).mono ?_
    rintro v w2 ⟨g, rfl, hg, hw, he⟩
    have M2 := M1.grow he
    obtain ⟨n, rfl⟩ := Int.eq_ofNat_of_zero_le hok.lo
    have := hok.hi
    refine (components_spec hw (by omega)).mono ?_
    rintro v w3 ⟨hl, he3⟩
    rw [compsV, if_pos hv]
    exact ⟨hl.base M2.ext.size, M2.ext.trans he3⟩
  · refine (open_no (h.ext M1.ext) hv).mono ?_
    rintro v w2 ⟨rfl, he⟩
    rw [compsV, if_neg hv]
    exact ⟨lists_nil _ _, (M1.grow he).ext⟩

end Go.Proofs.Ytdfhfehlmonjjaa
