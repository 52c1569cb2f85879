/- rank, plain: sets and matrices of guests as rows of cells; whom chains lead to. -/
import Derived.Test.YtdfhfehlmonjjaaRC
namespace Go.Proofs.Ytdfhfehlmonjjaa
open Go.Eng Go.RowKit

def bools (n : Nat) (f : Nat → Bool) : List Value := (List.range n).map fun k => .bool (f k)
abbrev setCells (S : Nat → Bool) : List Value := bools 24 S
abbrev mat (M : Nat → Nat → Bool) : List Value := bools 576 fun k => M (k / 24) (k % 24)
def webCells (N : Int) (T R : Nat → Nat → Bool) : List Value := .int .i64 N :: (mat T ++ mat R)

theorem bools_length (n : Nat) (f : Nat → Bool) : (bools n f).length = n := by simp [bools]
theorem bools_get {n i : Nat} (h : i < n) (f : Nat → Bool) : (bools n f)[i]? = some (.bool (f i)) := by simp [bools, h]
theorem bools_one (n : Nat) (f : Nat → Bool) : (bools n f).all (·.oneCell') = true := by
  rw [List.all_eq_true]
  intro v hv
  obtain ⟨k, _, rfl⟩ := List.mem_map.1 hv
  rfl
theorem bools_congr {n : Nat} {f g : Nat → Bool} (h : ∀ k < n, f k = g k) : bools n f = bools n g := by
  apply List.map_congr_left
  intro k hk
  rw [h k (List.mem_range.1 hk)]
theorem bools_false (n : Nat) : List.replicate n (Value.bool false) = bools n fun _ => false := by
  apply List.ext_getElem?
  intro i
  by_cases h : i < n
  · rw [bools_get h]; simp [h]
  · rw [List.getElem?_eq_none (by simp; omega), List.getElem?_eq_none (by simp [bools_length]; omega)]

theorem cell_idx {a b : Nat} (ha : a < 24) (hb : b < 24) : (a * 24 + b) / 24 = a ∧ (a * 24 + b) % 24 = b ∧ a * 24 + b < 576 := by omega

theorem mat_get {a b : Nat} (ha : a < 24) (hb : b < 24) (M : Nat → Nat → Bool) : (mat M)[a * 24 + b]? = some (.bool (M a b)) := by
  obtain ⟨h1, h2, h3⟩ := cell_idx ha hb
  rw [bools_get h3, h1, h2]

theorem web_n (N : Int) (T R : Nat → Nat → Bool) : (webCells N T R)[0]? = some (.int .i64 N) := rfl
theorem web_to {a b : Nat} (ha : a < 24) (hb : b < 24) (N : Int) (T R : Nat → Nat → Bool) : (webCells N T R)[1 + a * 24 + b]? = some (.bool (T a b)) := by
  have h := mat_get ha hb T
  obtain ⟨_, _, h3⟩ := cell_idx ha hb
  have e : 1 + a * 24 + b = (a * 24 + b) + 1 := by omega
  rw [e, webCells, List.getElem?_cons_succ, List.getElem?_append_left (by rw [bools_length]; exact h3)]
  exact h
theorem web_reach {a b : Nat} (ha : a < 24) (hb : b < 24) (N : Int) (T R : Nat → Nat → Bool) : (webCells N T R)[577 + a * 24 + b]? = some (.bool (R a b)) := by
  have h := mat_get ha hb R
  have e : 577 + a * 24 + b = (576 + (a * 24 + b)) + 1 := by omega
  rw [e, webCells, List.getElem?_cons_succ, List.getElem?_append_right (by rw [bools_length]; omega), bools_length]
  simpa using h

/-- The row of a matrix. -/
theorem mat_row {a : Nat} (ha : a < 24) (M : Nat → Nat → Bool) : ∀ i v, (setCells (M a))[i]? = some v → (mat M)[a * 24 + i]? = some v := by
  intro i v h
  have hi : i < 24 := by
    have := (List.getElem?_eq_some_iff.1 h).1
    rwa [bools_length] at this
  rw [mat_get ha hi]
  rw [bools_get hi] at h
  exact h
theorem web_to_row {a : Nat} (ha : a < 24) (N : Int) (T R : Nat → Nat → Bool) : ∀ i v, (setCells (T a))[i]? = some v → (webCells N T R)[1 + a * 24 + i]? = some v := by
  intro i v h
  have hi : i < 24 := by
    have := (List.getElem?_eq_some_iff.1 h).1
    rwa [bools_length] at this
  rw [web_to ha hi]
  rw [bools_get hi] at h
  exact h

/-- One place of a row of cells is set. -/
def upd (f : Nat → Bool) (i : Nat) (b : Bool) : Nat → Bool := fun k => if k = i then b else f k
def upd2 (M : Nat → Nat → Bool) (i j : Nat) (b : Bool) : Nat → Nat → Bool := fun a c => if a = i ∧ c = j then b else M a c

theorem splice_one {cs : List Value} {i : Nat} {v : Value} (h : i < cs.length) : splice cs i [v] = cs.set i v := by
  apply List.ext_getElem?
  intro k
  unfold splice
  rw [List.getElem?_set]
  rcases Nat.lt_trichotomy k i with hk | hk | hk
  · rw [List.append_assoc, List.getElem?_append_left (by simp; omega), List.getElem?_take, if_pos hk, if_neg (by omega)]
  · subst hk
    rw [List.append_assoc, List.getElem?_append_right (by simp; omega)]
    have : min k cs.length = k := by omega
    simp [this, h]
  · rw [List.getElem?_append_right (by simp; omega), if_neg (by omega)]
    simp only [List.length_append, List.length_take, List.length_singleton, List.getElem?_drop]
    congr 1; omega

theorem bools_set {n i : Nat} (h : i < n) (f : Nat → Bool) (b : Bool) : splice (bools n f) i [.bool b] = bools n (upd f i b) := by
  rw [splice_one (by rw [bools_length]; exact h)]
  apply List.ext_getElem?
  intro k
  rw [List.getElem?_set]
  by_cases hk : i = k
  · subst hk; rw [if_pos rfl, bools_length, if_pos h, bools_get h]; simp [upd]
  · rw [if_neg hk]
    by_cases hkn : k < n
    · rw [bools_get hkn, bools_get hkn]; simp [upd, Ne.symm hk]
    · rw [List.getElem?_eq_none (by rw [bools_length]; omega), List.getElem?_eq_none (by rw [bools_length]; omega)]

theorem mat_set {a b : Nat} (ha : a < 24) (hb : b < 24) (M : Nat → Nat → Bool) (v : Bool) : splice (mat M) (a * 24 + b) [.bool v] = mat (upd2 M a b v) := by
  obtain ⟨h1, h2, h3⟩ := cell_idx ha hb
  rw [bools_set h3]
  apply bools_congr
  intro k hk
  simp only [upd, upd2]
  by_cases e : k = a * 24 + b
  · subst e; simp [h1, h2]
  · rw [if_neg e, if_neg]
    rintro ⟨e1, e2⟩
    omega

theorem splice_right {xs bs vs : List Value} {o : Nat} : splice (xs ++ bs) (xs.length + o) vs = xs ++ splice bs o vs := by
  unfold splice
  have h1 : xs.take (xs.length + o) = xs := List.take_of_length_le (by omega)
  have h2 : xs.drop (xs.length + o + vs.length) = [] := List.drop_eq_nil_of_le (by omega)
  rw [List.take_append, List.drop_append, h1, h2]
  have e1 : xs.length + o - xs.length = o := by omega
  have e2 : xs.length + o + vs.length - xs.length = o + vs.length := by omega
  simp [List.append_assoc, e1, e2]

theorem splice_left {xs bs vs : List Value} {o : Nat} (h : o + vs.length ≤ xs.length) : splice (xs ++ bs) o vs = splice xs o vs ++ bs := by
  unfold splice
  rw [List.take_append_of_le_length (by omega), List.drop_append_of_le_length h]
  simp [List.append_assoc]

theorem splice_cons {x : Value} {bs vs : List Value} {o : Nat} : splice (x :: bs) (o + 1) vs = x :: splice bs o vs := by
  have := splice_right (xs := [x]) (bs := bs) (vs := vs) (o := o)
  simpa [Nat.add_comm] using this

theorem web_set_to {a b : Nat} (ha : a < 24) (hb : b < 24) (N : Int) (T R : Nat → Nat → Bool) (v : Bool) : splice (webCells N T R) (1 + a * 24 + b) [.bool v] = webCells N (upd2 T a b v) R := by
  obtain ⟨_, _, h3⟩ := cell_idx ha hb
  have e : 1 + a * 24 + b = (a * 24 + b) + 1 := by omega
  rw [e, webCells, splice_cons, splice_left (by rw [bools_length]; simp only [List.length_singleton]; omega), mat_set ha hb]
  rfl

/-- A whole row is laid into a matrix. -/
def updRow (M : Nat → Nat → Bool) (i : Nat) (S : Nat → Bool) : Nat → Nat → Bool := fun a c => if a = i then S c else M a c

theorem mat_setRow {a : Nat} (ha : a < 24) (M : Nat → Nat → Bool) (S : Nat → Bool) : splice (mat M) (a * 24) (setCells S) = mat (updRow M a S) := by
  apply List.ext_getElem?
  intro k
  have hl : (splice (mat M) (a * 24) (setCells S)).length = 576 := by rw [splice_length (by simp only [bools_length]; omega), bools_length]
  by_cases hk : k < 576
  · rw [bools_get hk]
    unfold splice
    simp only [updRow]
    rcases Nat.lt_or_ge k (a * 24) with h1 | h1
    · rw [List.append_assoc, List.getElem?_append_left (by simp [bools_length]; omega), List.getElem?_take, if_pos h1, bools_get hk, if_neg (by omega)]
    · rcases Nat.lt_or_ge k (a * 24 + 24) with h2 | h2
      · have e1 : k / 24 = a := by omega
        rw [List.append_assoc, List.getElem?_append_right (by simp [bools_length]; omega), List.getElem?_append_left (by simp [bools_length]; omega)]
        simp only [List.length_take, bools_length]
        have : k - min (a * 24) 576 = k % 24 := by omega
        rw [this, bools_get (by omega), if_pos e1]
      · rw [List.getElem?_append_right (by simp [bools_length]; omega)]
        simp only [List.length_append, List.length_take, bools_length, List.getElem?_drop]
        have : a * 24 + 24 + (k - (min (a * 24) 576 + 24)) = k := by omega
        rw [this, bools_get hk, if_neg (by omega)]
  · rw [List.getElem?_eq_none (by rw [hl]; omega), List.getElem?_eq_none (by rw [bools_length]; omega)]

theorem web_setRow {a : Nat} (ha : a < 24) (N : Int) (T R : Nat → Nat → Bool) (S : Nat → Bool) : splice (webCells N T R) (577 + a * 24) (setCells S) = webCells N T (updRow R a S) := by
  have e : 577 + a * 24 = (576 + a * 24) + 1 := by omega
  rw [e, webCells, splice_cons]
  have e2 : 576 + a * 24 = (mat T).length + a * 24 := by rw [bools_length]
  rw [e2, splice_right, mat_setRow ha]
  rfl

theorem webCells_length (N : Int) (T R : Nat → Nat → Bool) : (webCells N T R).length = 1153 := by simp [webCells, bools_length]

/-- The guests of a set, ascending. -/
def members (S : Nat → Bool) : List Int := ((List.range 24).filter S).map (fun (k : Nat) => (k : Int))

/-! ### Chains -/
inductive Path (T : Nat → Nat → Bool) : Nat → Nat → Prop
  | one {a b : Nat} : T a b = true → Path T a b
  | step {a b c : Nat} : Path T a b → T b c = true → Path T a c

theorem Path.trans {T : Nat → Nat → Bool} {a b c : Nat} (h : Path T a b) (k : Path T b c) : Path T a c := by
  induction k with
  | one h' => exact .step h h'
  | step _ h' ih => exact .step ih h'

theorem Path.head {T : Nat → Nat → Bool} {a b c : Nat} (h : T a b = true) (k : Path T b c) : Path T a c := (Path.one h).trans k

theorem Path.closed {T : Nat → Nat → Bool} {a b : Nat} (h : Path T a b) {S : Nat → Prop} (h0 : ∀ c, T a c = true → S c) (hs : ∀ x c, S x → T x c = true → S c) : S b := by
  induction h with
  | one h' => exact h0 _ h'
  | step _ h' ih => exact hs _ _ ih h'

/-- Arrows lead between guests below 'n' alone. -/
def Inside (n : Nat) (T : Nat → Nat → Bool) : Prop := ∀ a b, T a b = true → a < n ∧ b < n

theorem Path.inside {n : Nat} {T : Nat → Nat → Bool} (hT : Inside n T) {a b : Nat} (h : Path T a b) : a < n ∧ b < n := by
  induction h with
  | one h' => exact hT _ _ h'
  | step _ h' ih => exact ⟨ih.1, (hT _ _ h').2⟩

end Go.Proofs.Ytdfhfehlmonjjaa
