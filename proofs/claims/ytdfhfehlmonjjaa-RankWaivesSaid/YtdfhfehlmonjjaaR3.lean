/- rank: the search from a guest; the web of a relation. -/
import Derived.Test.YtdfhfehlmonjjaaR2
namespace Go.Proofs.Ytdfhfehlmonjjaa
open Go.Eng Go.RowKit

def unseen (S : Nat → Bool) : Nat := ((List.range 24).filter fun k => !S k).length

theorem filter_le {p q : Nat → Bool} (l : List Nat) (h : ∀ k, p k = true → q k = true) : (l.filter p).length ≤ (l.filter q).length := by
  induction l with
  | nil => simp
  | cons a l ih =>
    by_cases hp : p a = true
    · simp [hp, h a hp]; exact ih
    · by_cases hq : q a = true
      · simp [hp, hq]; omega
      · simp [hp, hq]; exact ih

theorem filter_lt {p q : Nat → Bool} (l : List Nat) (h : ∀ k, p k = true → q k = true) {y : Nat} (hy : y ∈ l) (hp : p y = false) (hq : q y = true) : (l.filter p).length < (l.filter q).length := by
  induction l with
  | nil => simp at hy
  | cons a l ih =>
    by_cases e : y = a
    · subst e
      have := filter_le l h
      simp [hp, hq]; omega
    · have := ih (by simpa [e] using hy)
      by_cases ha : p a = true
      · simp [ha, h a ha]; exact this
      · by_cases hb : q a = true
        · simp [ha, hb]; omega
        · simp [ha, hb]; exact this

theorem unseen_mono {S S' : Nat → Bool} (h : ∀ k, S k = true → S' k = true) : unseen S' ≤ unseen S :=
  filter_le _ fun k hk => by
    cases hS : S k with
    | true => rw [h k hS] at hk; cases hk
    | false => rfl

theorem unseen_upd {S : Nat → Bool} {y : Nat} (hy : y < 24) (h : S y = false) : unseen (upd S y true) < unseen S :=
  filter_lt _ (fun k hk => by
    simp only [upd] at hk
    by_cases e : k = y
    · subst e; simp at hk
    · simpa [e] using hk) (List.mem_range.2 hy) (by simp [upd]) (by simp [h])

theorem members_get {S : Nat → Bool} {i : Nat} (hi : i < (members S).length) : ∃ k : Nat, (members S)[i] = (k : Int) ∧ k < 24 ∧ S k = true := by
  have hm := List.getElem_mem hi
  obtain ⟨k, hk, e⟩ := List.mem_map.1 hm
  obtain ⟨h1, h2⟩ := List.mem_filter.1 hk
  exact ⟨k, e.symm, List.mem_range.1 h1, h2⟩

theorem members_mem {S : Nat → Bool} {k : Nat} (hk : k < 24) (h : S k = true) : ∃ i, ∃ hi : i < (members S).length, (members S)[i] = (k : Int) := by
  have : (k : Int) ∈ members S := List.mem_map.2 ⟨k, List.mem_filter.2 ⟨List.mem_range.2 hk, h⟩, rfl⟩
  obtain ⟨i, hi, e⟩ := List.getElem_of_mem this
  exact ⟨i, hi, e⟩

/-- What a visit of 'x' adds to what was seen. -/
structure Vis (T : Nat → Nat → Bool) (x : Nat) (S S' : Nat → Bool) : Prop where
  keeps : ∀ k, S k = true → S' k = true
  next : ∀ y < 24, T x y = true → S' y = true
  new : ∀ z, S' z = true → S z = false → Path T x z ∧ ∀ y < 24, T z y = true → S' y = true

/-- The blocks that a visit sees. -/
structure VisMem (w : World) (g gb gs gv : Nat) (N : Int) (T R : Nat → Nat → Bool) (S : Nat → Bool) : Prop where
  web : Web w g N T R
  box : w.heap[gb]? = some (.cells #[.pointer (some ⟨g, 0, none⟩)] 70 (0, 0))
  seen : w.heap[gs]? = some (.cells (setCells S).toArray 76 (0, 0))
  fn : w.heap[gv]? = some (.cells #[.func (.func 93) #[] #[.pointer (some ⟨gb, 0, none⟩), .pointer (some ⟨gs, 0, none⟩), .pointer (some ⟨gv, 0, none⟩)]] 114 (0, 0))

theorem VisMem.ne {w : World} {g gb gs gv : Nat} {N : Int} {T R : Nat → Nat → Bool} {S : Nat → Bool} (h : VisMem w g gb gs gv N T R S) : g ≠ gs ∧ gb ≠ gs ∧ gv ≠ gs := by
  refine ⟨fun e => ?_, fun e => ?_, fun e => ?_⟩
  · subst e; have := h.web.symm.trans h.seen; simp at this
  · subst e; have := h.box.symm.trans h.seen; simp at this
  · subst e; have := h.fn.symm.trans h.seen; simp at this

theorem VisMem.ext {w w' : World} {g gb gs gv : Nat} {N : Int} {T R : Nat → Nat → Bool} {S : Nat → Bool} (h : VisMem w g gb gs gv N T R S) (e : Ext w w') : VisMem w' g gb gs gv N T R S :=
  ⟨h.web.ext e, e.heap h.box, e.heap h.seen, e.heap h.fn⟩

theorem VisMem.grown {w w' : World} {g gb gs gv : Nat} {N : Int} {T R : Nat → Nat → Bool} {S S' : Nat → Bool} (h : VisMem w g gb gs gv N T R S) (hg : w.grownBy w' (some gs)) (hs : w'.heap[gs]? = some (.cells (setCells S').toArray 76 (0, 0))) :
    VisMem w' g gb gs gv N T R S' :=
  ⟨grownBy_heap hg h.web h.ne.1, grownBy_heap hg h.box h.ne.2.1, hs, grownBy_heap hg h.fn h.ne.2.2⟩

theorem visit_spec (m : Nat) : ∀ (x : Nat) (S : Nat → Bool) (w : World) (g gb gs gv : Nat) (N : Int) (T R : Nat → Nat → Bool), unseen S ≤ m → x < 24 → VisMem w g gb gs gv N T R S →
    CallsV C.P 93 #[.int .i64 x, .pointer (some ⟨gb, 0, none⟩), .pointer (some ⟨gs, 0, none⟩), .pointer (some ⟨gv, 0, none⟩)] w fun _ w' =>
      ∃ S', Vis T x S S' ∧ w.grownBy w' (some gs) ∧ w'.heap[gs]? = some (.cells (setCells S').toArray 76 (0, 0)) := by
  induction m using Nat.strongRecOn with
  | _ m ih =>
  intro x S w g gb gs gv N T R hm hx hv
  refine callsV_of C_ok (args := [_, _, _, _]) (plans := []) Try.func93 rfl Try.ntmps93 (by kernel_rfl) (Nat.le_of_ble_eq_true rfl) ?_
  refine ⟨.pointer (some ⟨g, 0, none⟩), cell_of_block hv.box rfl, ?_⟩
  refine ⟨x, rfl, hx, ?_⟩
  refine ⟨setCells (T x), bools_length _ _, hv.web.toRow hx, ?_⟩
  refine (list_spec (T x) w).mono ?_
  rintro v w1 ⟨hl, he⟩
  obtain ⟨A, c, rfl, hr, hc⟩ := hl.slice
  have hblk : ∀ b o, A = some ⟨b, o, none⟩ → b ≠ gs := by
    rintro b o rfl e
    have := (hl.lt b rfl).1
    have h2 := lt_of_heap hv.seen
    omega
  have hv1 := hv.ext he
  refine loopE C_ok (fun (s : Nat × (Nat → Bool)) => [(1, .pointer (some ⟨gb, 0, none⟩)), (2, .pointer (some ⟨gs, 0, none⟩)), (3, .pointer (some ⟨gv, 0, none⟩)), (13, .slice A (members (T x)).length c), (14, .int .i64 (members (T x)).length), (15, .int .i64 s.1)])
    (fun s w' => w1.grownBy w' (some gs) ∧ VisMem w' g gb gs gv N T R s.2 ∧ s.1 ≤ (members (T x)).length ∧ (∀ k, S k = true → s.2 k = true) ∧
      (∀ j (h : j < (members (T x)).length) (k : Nat), j < s.1 → (members (T x))[j] = (k : Int) → s.2 k = true) ∧
      (∀ z, s.2 z = true → S z = false → Path T x z ∧ ∀ y < 24, T z y = true → s.2 y = true)) (fun s => (members (T x)).length - s.1) (0, S)
    ⟨rfl, rfl, rfl, rfl, rfl, rfl, trivial⟩ ⟨grownBy_refl _ _, hv1, Nat.zero_le _, fun _ h => h, fun _ _ _ h => absurd h (Nat.not_lt_zero _), fun z (h1 : S z = true) h2 => (by rw [h2] at h1; cases h1)⟩ ?_
  rintro ⟨i, S2⟩ w2 ⟨hg2, hv2, hi, hkeep, hdone, hnew⟩
  have hi : i ≤ (members (T x)).length := hi
  have hml : (members (T x)).length ≤ 24 := membersTo_length _ 24
  refine brE_dec (fun hlt => ?_) (fun hge => ?_)
  · have hlt : i < (members (T x)).length := by have : (i : Int) < ((members (T x)).length : Nat) := hlt; omega
    obtain ⟨k, ek, hk, hTk⟩ := members_get hlt
    obtain ⟨b, o, hA, hc⟩ := Reads.int (reads_grown_by hblk hr hg2) hlt
    rw [ek] at hc
    have next : IntKind.i64.wrap ((i : Int) + 1) = ((i + 1 : Nat) : Int) := fit ⟨by omega, by omega⟩
    refine ⟨i, b, o, rfl, hlt, hA, ?_⟩
    refine ⟨_, by simpa using hc, ?_⟩
    refine ⟨k, rfl, hk, ?_⟩
    refine ⟨.bool (S2 k), by have := (Rd.of_block hv2.seen) k _ (bools_get hk S2); simpa using this, ?_⟩
    refine brE_mk (fun hS => ?_) (fun hS => ?_)
    · have hS : S2 k = false := by simpa using hS
      refine ⟨k, rfl, hk, ?_⟩
      refine ⟨rfl, _, _, hv2.seen, by rw [bools_length]; show 0 + k * 1 + 1 ≤ 24; omega, rfl, ?_⟩
      intro w3 h3
      have e3 : splice (setCells S2) (0 + k * 1) [.bool true] = setCells (upd S2 k true) := by
        have := bools_set hk S2 true
        simpa using this
      have h3 : Put w2 gs (.cells (setCells (upd S2 k true)).toArray 76 (0, 0)) w3 := by rw [← e3]; exact h3
      have hv3 := hv2.grown h3.grownBy h3.here
      refine ⟨_, cell_of_block hv3.fn rfl, ?_⟩
      have hlt3 : unseen (upd S2 k true) < m := by
        have h1 := unseen_upd hk hS
        have h2 : unseen S2 ≤ unseen S := unseen_mono hkeep
        omega
      refine (ih (unseen (upd S2 k true)) hlt3 k (upd S2 k true) w3 g gb gs gv N T R (Nat.le_refl _) hk hv3).mono ?_
      rintro v w4 ⟨S4, hvis, hg4, hs4⟩
      refine ⟨_, next, ?_⟩
      have hup : ∀ z, S2 z = true → S4 z = true := fun z hz => hvis.keeps z (by simp only [upd]; split <;> simp_all)
      have hk4 : S4 k = true := hvis.keeps k (by simp [upd])
      refine ⟨(i + 1, S4), ⟨rfl, rfl, rfl, rfl, rfl, rfl, trivial⟩, ⟨grownBy_trans (grownBy_trans hg2 h3.grownBy) hg4, hv3.grown hg4 hs4, hlt, fun z hz => hup z (hkeep z hz), ?_, ?_⟩, by show _ - (i + 1) < _ - i; omega⟩
      · intro j hj k' hji ek'
        have hji : j < i + 1 := hji
        rcases Nat.lt_or_ge j i with h | h
        · exact hup _ (hdone j hj k' h ek')
        · obtain rfl : j = i := by omega
          have : k' = k := by rw [ek] at ek'; omega
          subst this; exact hk4
      · intro z hz hSz
        by_cases h2 : S2 z = true
        · obtain ⟨p, q⟩ := hnew z h2 hSz
          exact ⟨p, fun y hy ht => hup y (q y hy ht)⟩
        · by_cases hzk : z = k
          · subst hzk
            exact ⟨.one hTk, fun y hy ht => hvis.next y hy ht⟩
          · obtain ⟨p, q⟩ := hvis.new z hz (by simp [upd, hzk]; simpa using h2)
            exact ⟨Path.head hTk p, q⟩
    · have hS : S2 k = true := by simpa using hS
      refine ⟨_, next, ?_⟩
      refine ⟨(i + 1, S2), ⟨rfl, rfl, rfl, rfl, rfl, rfl, trivial⟩, ⟨hg2, hv2, hlt, hkeep, ?_, hnew⟩, by show _ - (i + 1) < _ - i; omega⟩
      intro j hj k' hji ek'
      have hji : j < i + 1 := hji
      rcases Nat.lt_or_ge j i with h | h
      · exact hdone j hj k' h ek'
      · obtain rfl : j = i := by omega
        have : k' = k := by rw [ek] at ek'; omega
        subst this; exact hS
  · have : i = (members (T x)).length := by have : ¬ (i : Int) < ((members (T x)).length : Nat) := hge; omega
    subst this
    refine ⟨S2, ⟨hkeep, fun y hy ht => ?_, hnew⟩, grownBy_trans (ext_grownBy he _) hg2, hv2.seen⟩
    obtain ⟨j, hj, ej⟩ := members_mem hy ht
    exact hdone j hj y hj ej

end Go.Proofs.Ytdfhfehlmonjjaa
