/- a part of the proof: steps, walks and plain laws that the law below stands on; no condition. -/
import Derived.Test.YthpdkdmbfdmamaaGreatDoorGDf
set_option linter.unusedVariables false
set_option linter.unusedSimpArgs false
set_option linter.unnecessarySimpa false
set_option linter.unusedSectionVars false
namespace Go.Proofs.YthpdkdmbfdmamaaGreatDoor
open Go.Eng Go.RowKit

/-- What counts, from the last one back, with the Ids that are voided. -/
def bkL : List Int → List Fact → List Fact
  | _, [] => []
  | vs, x :: r => if x.id ∈ vs then bkL vs r else x :: bkL (if x.kind = 11 then x.what :: vs else vs) r
theorem bkL_in {vs : List Int} {x : Fact} {r : List Fact} (h : x.id ∈ vs) : bkL vs (x :: r) = bkL vs r := by rw [bkL, if_pos h]
theorem bkL_out {vs : List Int} {x : Fact} {r : List Fact} (h : x.id ∉ vs) : bkL vs (x :: r) = x :: bkL (if x.kind = 11 then x.what :: vs else vs) r := by rw [bkL, if_neg h]
theorem bkL_congr : ∀ (K : List Fact) {vs us : List Int}, (∀ n, n ∈ vs ↔ n ∈ us) → bkL vs K = bkL us K
  | [], _, _, _ => rfl
  | x :: r, vs, us, h => by
    by_cases hx : x.id ∈ vs
    · rw [bkL_in hx, bkL_in ((h _).1 hx)]; exact bkL_congr r h
    · rw [bkL_out hx, bkL_out (fun e => hx ((h _).2 e))]
      congr 1
      refine bkL_congr r fun n => ?_
      split
      · rw [List.mem_cons, List.mem_cons, h n]
      · exact h n
def voidIds (acc : List Fact) : List Int := (acc.filter fun y => decide (y.kind = 11)).map Fact.what
theorem voidedBy_ids (acc : List Fact) (n : Int) : voidedBy acc n = decide (n ∈ voidIds acc) := by
  unfold voidedBy voidIds
  rw [Bool.eq_iff_iff, List.any_eq_true, decide_eq_true_eq, List.mem_map]
  constructor
  · rintro ⟨y, hy, h⟩
    obtain ⟨h1, h2⟩ := of_decide_eq_true h
    exact ⟨y, List.mem_filter.2 ⟨hy, decide_eq_true h1⟩, h2⟩
  · rintro ⟨y, hy, h⟩
    obtain ⟨h1, h2⟩ := List.mem_filter.1 hy
    exact ⟨y, h1, decide_eq_true ⟨of_decide_eq_true h2, h⟩⟩
theorem voidIds_snoc (acc : List Fact) (x : Fact) : voidIds (acc ++ [x]) = voidIds acc ++ if x.kind = 11 then [x.what] else [] := by
  unfold voidIds
  rw [List.filter_append, List.map_append, List.filter_cons, List.filter_nil]
  by_cases h : x.kind = 11
  · rw [if_pos (by simpa using h), if_pos h]; rfl
  · rw [if_neg (by simpa using h), if_neg h]; rfl
theorem backL_bk : ∀ (K acc : List Fact), backL acc K = acc ++ bkL (voidIds acc) K
  | [], acc => by simp [backL, bkL]
  | x :: r, acc => by
    rw [backL, voidedBy_ids]
    by_cases hx : x.id ∈ voidIds acc
    · rw [if_pos (by simpa using hx), bkL_in hx]; exact backL_bk r acc
    · rw [if_neg (by simpa using hx), bkL_out hx, backL_bk r (acc ++ [x]), List.append_assoc]
      congr 1
      show x :: _ = x :: _
      congr 1
      refine bkL_congr r fun n => ?_
      rw [voidIds_snoc]
      split
      · simp only [List.mem_append, List.mem_cons, List.not_mem_nil, or_false]; exact Or.comm
      · rw [List.append_nil]
theorem countL_bk (k : Int) (l : List Fact) : countL k l = (bkL [] (knownL k l).reverse).reverse := by
  unfold countL
  rw [backL_bk]; rfl

/-- An Id that nobody has makes no difference. -/
theorem bkL_none : ∀ (K : List Fact) {vs : List Int} {n : Int}, (∀ x ∈ K, x.id ≠ n) → bkL (n :: vs) K = bkL vs K
  | [], _, _, _ => rfl
  | x :: r, vs, n, h => by
    have hx := h x (by simp)
    by_cases hv : x.id ∈ vs
    · rw [bkL_in hv, bkL_in (by simp [hv])]; exact bkL_none r fun y hy => h y (by simp [hy])
    · rw [bkL_out hv, bkL_out (by simp [hv, hx])]
      congr 1
      split
      · rw [bkL_congr r (us := n :: x.what :: vs) fun m => by simp only [List.mem_cons]; exact ⟨fun h => by rcases h with h | h | h <;> simp [h], fun h => by rcases h with h | h | h <;> simp [h]⟩]
        exact bkL_none r fun y hy => h y (by simp [hy])
      · exact bkL_none r fun y hy => h y (by simp [hy])

theorem bkL_swap {y old : Fact} {R2 : List Fact} (hid : y.id = old.id) (hy : y.kind ≠ 11) (h2 : ∀ x ∈ R2, x.id ≠ old.id) :
    ∀ (R1 : List Fact) {vs : List Int}, old.id ∉ vs → (∀ x ∈ R1, x.id ≠ old.id ∧ ¬ (x.kind = 11 ∧ x.what = old.id)) →
      (bkL vs (R1 ++ y :: R2)).Perm (y :: bkL (old.id :: vs) (R1 ++ old :: R2))
  | [], vs, hv, _ => by
    rw [List.nil_append, List.nil_append, bkL_out (by rw [hid]; exact hv), if_neg hy, bkL_in (by simp), bkL_none R2 h2]
  | x :: r, vs, hv, h1 => by
    obtain ⟨hx, hxv⟩ := h1 x (by simp)
    have hr := fun z (hz : z ∈ r) => h1 z (by simp [hz])
    rw [List.cons_append, List.cons_append]
    by_cases hxs : x.id ∈ vs
    · rw [bkL_in hxs, bkL_in (by simp [hxs])]
      exact bkL_swap hid hy h2 r hv hr
    · rw [bkL_out hxs, bkL_out (by simp [hxs, hx])]
      have ih := bkL_swap hid hy h2 r (vs := if x.kind = 11 then x.what :: vs else vs) (by
        split
        · rename_i hk
          rw [List.mem_cons]
          rintro (e | e)
          · exact hxv ⟨hk, e.symm⟩
          · exact hv e
        · exact hv) hr
      refine (List.Perm.cons x ih).trans ((List.Perm.swap y x _).trans ?_)
      refine List.Perm.cons y (List.Perm.cons x ?_)
      rw [bkL_congr (r ++ old :: R2) (us := if x.kind = 11 then x.what :: old.id :: vs else old.id :: vs) fun m => by
        split
        · simp only [List.mem_cons]; exact ⟨fun h => by rcases h with h | h | h <;> simp [h], fun h => by rcases h with h | h | h <;> simp [h]⟩
        · rfl]

theorem known_all {k : Int} : ∀ {l : List Fact}, (∀ x ∈ l, x.known ≤ k) → knownL k l = l
  | [], _ => rfl
  | x :: r, h => by
    unfold knownL
    rw [List.takeWhile_cons, if_pos (decide_eq_true (h x (by simp)))]
    show x :: knownL k r = x :: r
    rw [known_all fun y hy => h y (by simp [hy])]

/-- What is compared: all but the Id and the day from which it is known. -/
def Fact.key (x : Fact) : Fact := { x with id := 0, known := 0 }

/-- What stands in the place of a fact. -/
def putAs (x old : Fact) : Fact := { x with id := old.id, known := old.known }
theorem putAs_key (x old : Fact) : (putAs x old).key = x.key := rfl

theorem correct_perm {l : List Fact} {v x : Fact} {i : Nat} {k day : Int} (hi : i < l.length) (hv : (chkF (l ++ [v])).2 = 0) (h11 : v.kind = 11) (hw : v.what = l[i].id) (hk : v.known = k)
    (hx : (chkF ((l ++ [v]) ++ [x])).2 = 0) (hxk : x.known = k) (hkind : x.kind = l[i].kind) (hnv : l[i].kind ≠ 11) (hno : ∀ y ∈ l, ¬ (y.kind = 11 ∧ y.what = l[i].id)) :
    ((atL k day ((l ++ [v]) ++ [x])).map Fact.key).Perm ((atL k day (l.set i (putAs x l[i]))).map Fact.key) := by
  have hkn := valid_now hv
  have hids := (List.pairwise_append.1 (valid_ids hv)).1
  have e1 : countL k ((l ++ [v]) ++ [x]) = ((bkL [l[i].id] l.reverse).reverse ++ [v]) ++ [x] := by
    rw [countL_bk, known_all fun y hy => ?_]
    · rw [List.reverse_append, List.reverse_append]
      show (bkL [] (x :: v :: l.reverse)).reverse = _
      rw [bkL_out (by simp), if_neg (by rw [hkind]; exact hnv), bkL_out (by simp), if_pos h11, hw, List.reverse_cons, List.reverse_cons]
    · rcases List.mem_append.1 hy with hy | hy
      · rcases List.mem_append.1 hy with hy | hy
        · have := hkn y hy; omega
        · rw [List.mem_singleton.1 hy]; omega
      · rw [List.mem_singleton.1 hy]; omega
  have hsplit : l = l.take i ++ l[i] :: l.drop (i + 1) := by rw [← List.drop_eq_getElem_cons hi, List.take_append_drop]
  have hset : l.set i (putAs x l[i]) = l.take i ++ putAs x l[i] :: l.drop (i + 1) := List.set_eq_take_append_cons_drop.trans (if_pos hi)
  have e2 : countL k (l.set i (putAs x l[i])) = (bkL [] (l.set i (putAs x l[i])).reverse).reverse := by
    rw [countL_bk, known_all fun y hy => ?_]
    rw [hset] at hy
    have hy' : y ∈ l ∨ y = putAs x l[i] := by
      rcases List.mem_append.1 hy with hy | hy
      · exact .inl (List.mem_of_mem_take hy)
      · rcases List.mem_cons.1 hy with hy | hy
        · exact .inr hy
        · exact .inl (List.mem_of_mem_drop hy)
    rcases hy' with hy | hy
    · have := hkn y hy; omega
    · subst hy
      have := hkn l[i] (List.getElem_mem hi)
      show l[i].known ≤ k
      omega
  have hP : (bkL [] (l.set i (putAs x l[i])).reverse).Perm (putAs x l[i] :: bkL [l[i].id] l.reverse) := by
    rw [hset]
    have hrev : l.reverse = (l.drop (i + 1)).reverse ++ l[i] :: (l.take i).reverse := by
      conv => lhs; rw [hsplit]
      simp
    rw [hrev]
    rw [List.reverse_append, List.reverse_cons, List.append_assoc]
    have hpw := hids
    rw [hsplit] at hpw
    obtain ⟨_, hp2, hp3⟩ := List.pairwise_append.1 hpw
    obtain ⟨hp4, _⟩ := List.pairwise_cons.1 hp2
    exact bkL_swap (y := putAs x l[i]) (old := l[i]) rfl (by show x.kind ≠ 11; rw [hkind]; exact hnv) (fun z hz => hp3 z (List.mem_reverse.1 hz) l[i] List.mem_cons_self) _ (by simp)
      fun z hz => ⟨fun e => hp4 z (List.mem_reverse.1 hz) e.symm, hno z (List.mem_of_mem_drop (List.mem_reverse.1 hz))⟩
  unfold atL
  rw [e1, e2, List.filter_append, List.filter_append]
  have hvf : (!decide (v.kind = 11) && holdsB day v) = false := by rw [decide_eq_true h11]; rfl
  rw [List.filter_cons, if_neg (by rw [hvf]; decide), List.filter_nil, List.append_nil, List.map_append]
  have h2 := (((List.reverse_perm _).trans hP).filter fun x => !decide (x.kind = 11) && holdsB day x).map Fact.key
  refine List.Perm.trans ?_ h2.symm
  have h3 : (((bkL [l[i].id] l.reverse).reverse.filter fun x => !decide (x.kind = 11) && holdsB day x).map Fact.key).Perm (((bkL [l[i].id] l.reverse).filter fun x => !decide (x.kind = 11) && holdsB day x).map Fact.key) := ((List.reverse_perm _).filter _).map _
  refine (h3.append_right _).trans ?_
  have hsame : (!decide ((putAs x l[i]).kind = 11) && holdsB day (putAs x l[i])) = (!decide (x.kind = 11) && holdsB day x) := rfl
  rw [List.filter_cons, List.filter_cons, List.filter_nil, hsame]
  split
  · rw [List.map_cons, List.map_cons, List.map_nil, putAs_key]
    exact List.perm_append_singleton _ _
  · rw [List.map_nil, List.append_nil]

/-! ### what is left to be matched -/
def leftL : List Fact → List Bool → List Fact
  | y :: b, u :: us => if u = true then leftL b us else y :: leftL b us
  | _, _ => []
theorem leftL_none : ∀ (b : List Fact), leftL b (List.replicate b.length false) = b
  | [] => rfl
  | y :: b => by
    show leftL (y :: b) (false :: List.replicate b.length false) = _
    unfold leftL
    rw [if_neg (by decide), leftL_none b]
theorem leftL_mem : ∀ {b : List Fact} {us : List Bool} {y : Fact}, y ∈ leftL b us → ∃ j, ∃ hj : j < b.length, b[j] = y ∧ us[j]? = some false
  | [], us, y, h => by cases us <;> simp [leftL] at h
  | z :: b, [], y, h => by simp [leftL] at h
  | z :: b, u :: us, y, h => by
    unfold leftL at h
    split at h
    · obtain ⟨j, hj, e1, e2⟩ := leftL_mem h
      exact ⟨j + 1, by simp; omega, by simpa using e1, by simpa using e2⟩
    · rename_i hu
      rcases List.mem_cons.1 h with rfl | h
      · exact ⟨0, by simp, rfl, by cases u <;> simp at hu ⊢⟩
      · obtain ⟨j, hj, e1, e2⟩ := leftL_mem h
        exact ⟨j + 1, by simp; omega, by simpa using e1, by simpa using e2⟩
theorem leftL_set : ∀ {b : List Fact} {us : List Bool} {j : Nat} (hj : j < b.length), us[j]? = some false → (leftL b us).Perm (b[j] :: leftL b (us.set j true))
  | z :: b, [], j, hj, h => by simp at h
  | z :: b, u :: us, 0, hj, h => by
    have hu : u = false := by simpa using h
    subst hu
    show (leftL (z :: b) (false :: us)).Perm (z :: leftL (z :: b) (true :: us))
    unfold leftL
    rw [if_neg (by decide), if_pos rfl]
  | z :: b, u :: us, j + 1, hj, h => by
    have ih := leftL_set (b := b) (us := us) (j := j) (by simpa using hj) (by simpa using h)
    show (leftL (z :: b) (u :: us)).Perm (b[j]'(by simpa using hj) :: leftL (z :: b) (u :: us.set j true))
    unfold leftL
    split
    · exact ih
    · exact (List.Perm.cons z ih).trans (List.Perm.swap _ _ _)
theorem left_next {a b : List Fact} {us : List Bool} {i j : Nat} (hi : i < a.length) (hj : j < b.length) (hu : us[j]? = some false) (hk : b[j].key = a[i].key) (h : ((a.drop i).map Fact.key).Perm ((leftL b us).map Fact.key)) :
    ((a.drop (i + 1)).map Fact.key).Perm ((leftL b (us.set j true)).map Fact.key) := by
  have h1 := (leftL_set hj hu).map Fact.key
  rw [List.map_cons, hk] at h1
  rw [List.drop_eq_getElem_cons hi, List.map_cons] at h
  exact (h.trans h1).cons_inv
theorem left_some {a b : List Fact} {us : List Bool} {i : Nat} (hi : i < a.length) (h : ((a.drop i).map Fact.key).Perm ((leftL b us).map Fact.key)) : ∃ j, ∃ hj : j < b.length, us[j]? = some false ∧ b[j].key = a[i].key := by
  rw [List.drop_eq_getElem_cons hi, List.map_cons] at h
  have : a[i].key ∈ (leftL b us).map Fact.key := h.subset (by simp)
  obtain ⟨y, hy, e⟩ := List.mem_map.1 this
  obtain ⟨j, hj, e1, e2⟩ := leftL_mem hy
  exact ⟨j, hj, e2, by rw [e1, e]⟩

end Go.Proofs.YthpdkdmbfdmamaaGreatDoor

namespace Go.Proofs.YthpdkdmbfdmamaaGreatDoor
open Go.Eng Go.RowKit

def firstF (k : Int) (nm : ByteArray) : Fact := ⟨1, k, 1, 1, 0, 1, 0, 0, nm⟩
def limF (k : Int) (nm : ByteArray) (n wh : Int) : Fact := ⟨n, k, 1, wh, 0, 1, 0, 0, nm⟩
def limL (k : Int) (nm : ByteArray) (n : Nat) : List Fact := (List.range n).map fun i => limF k nm ((i + 1 : Nat) : Int) ((1 + i % 200 : Nat) : Int)
theorem limL_length (k : Int) (nm : ByteArray) (n : Nat) : (limL k nm n).length = n := by simp [limL]
theorem limL_succ (k : Int) (nm : ByteArray) (n : Nat) : limL k nm (n + 1) = limL k nm n ++ [limF k nm ((n + 1 : Nat) : Int) ((1 + n % 200 : Nat) : Int)] := by
  unfold limL; rw [List.range_succ, List.map_append]; rfl
theorem limL_take (k : Int) (nm : ByteArray) {n m : Nat} (h : m ≤ n) : (limL k nm n).take m = limL k nm m := by
  unfold limL
  rw [← List.map_take, List.take_range, Nat.min_eq_left h]
theorem limL_mem {k : Int} {nm : ByteArray} {n : Nat} {y : Fact} (h : y ∈ limL k nm n) : ∃ i, i < n ∧ y = limF k nm ((i + 1 : Nat) : Int) ((1 + i % 200 : Nat) : Int) := by
  obtain ⟨i, hi, e⟩ := List.mem_map.1 h
  exact ⟨i, List.mem_range.1 hi, e.symm⟩
theorem limL_has {k : Int} {nm : ByteArray} {n i : Nat} (h : i < n) : limF k nm ((i + 1 : Nat) : Int) ((1 + i % 200 : Nat) : Int) ∈ limL k nm n := List.mem_map.2 ⟨i, List.mem_range.2 h, rfl⟩

theorem lim_form {k : Int} {nm : ByteArray} (h : formE (firstF k nm) = 0) {n wh : Int} (hn : 1 ≤ n ∧ n ≤ 1000) (hw : 1 ≤ wh ∧ wh ≤ 1000) : formE (limF k nm n wh) = 0 := by
  have h' : headB (firstF k nm) = true ∧ nameB nm.data.toList = true := by
    unfold formE at h
    split at h
    · rename_i h1
      simp only [Bool.and_eq_true] at h1
      refine ⟨h1.1.1, ?_⟩
      cases hb : nameB nm.data.toList with
      | true => rfl
      | false => rw [if_pos ⟨rfl, hb⟩] at h; cases h
    · cases h
  obtain ⟨h1, h2⟩ := h'
  have hd : dayB k = true := by
    unfold headB at h1
    simp only [Bool.and_eq_true] at h1
    exact h1.1.1.2
  have a1 : headB (limF k nm n wh) = true := by
    unfold headB
    simp only [Bool.and_eq_true]
    refine ⟨⟨⟨⟨decide_eq_true (by show (1 : Int) ≤ 1 ∧ (1 : Int) ≤ 11; decide), decide_eq_true (by show 1 ≤ n ∧ n ≤ 1000000; omega)⟩, hd⟩, by show dayB 0 = true; decide⟩, by show (decide ((0 : Int) = 0) || _) = true; rfl⟩
  have a2 : restB (limF k nm n wh) = true := by
    unfold restB
    simp only [Bool.and_eq_true]
    refine ⟨⟨⟨⟨⟨?_, ?_⟩, ?_⟩, ?_⟩, ?_⟩, ?_⟩ <;> simp [limF, offs]
  have a3 : rightB (limF k nm n wh) = true := by
    unfold rightB
    rw [if_pos (show (limF k nm n wh).kind = 1 from rfl)]
    simp only [Bool.and_eq_true]
    exact ⟨decide_eq_true (by show 1 ≤ wh ∧ wh ≤ 1000000; omega), by show decide ((1 : Int) ≤ 1 ∧ (1 : Int) ≤ 3) = true; decide⟩
  unfold formE
  rw [a1, a2, a3, if_pos (by rfl), if_neg (by show ¬ ((1 : Int) = 1 ∧ nameB nm.data.toList = false); rw [h2]; simp)]

theorem lim_last {k : Int} {nm : ByteArray} {n : Nat} {z : Fact} (hz : z.known = k) : (limL k nm n).getLast?.any (fun y => decide (z.known < y.known)) = false := by
  cases h : (limL k nm n).getLast? with
  | none => rfl
  | some y =>
    obtain ⟨i, _, rfl⟩ := limL_mem (List.mem_of_getLast? h)
    show decide (z.known < k) = false
    exact decide_eq_false (by omega)
theorem lim_id {k : Int} {nm : ByteArray} {n : Nat} {m : Int} (hm : (n : Int) < m) : idIn (limL k nm n) m = false := by
  unfold idIn
  rw [List.any_eq_false]
  intro y hy
  obtain ⟨i, hi, rfl⟩ := limL_mem hy
  have : ¬ ((i + 1 : Nat) : Int) = m := by omega
  show ¬ decide (((i + 1 : Nat) : Int) = m) = true
  rw [decide_eq_false this]; decide
theorem lim_named {k : Int} {nm : ByteArray} {n : Nat} {s : Nat} (hs : s < n) (h2 : s < 200) : namedIn (limL k nm n) ((1 + s : Nat) : Int) = true := by
  unfold namedIn
  rw [List.any_eq_true]
  refine ⟨_, limL_has hs, ?_⟩
  rw [Nat.mod_eq_of_lt h2]
  exact decide_eq_true ⟨rfl, rfl⟩
theorem lim_unnamed {k : Int} {nm : ByteArray} {n : Nat} : namedIn (limL k nm n) 201 = false := by
  unfold namedIn
  rw [List.any_eq_false]
  intro y hy
  obtain ⟨i, hi, rfl⟩ := limL_mem hy
  have : ¬ ((1 + i % 200 : Nat) : Int) = 201 := by omega
  intro h
  exact this (of_decide_eq_true h).2
theorem lim_speaks (k : Int) (nm : ByteArray) (n wh : Int) : speaks (limF k nm n wh) = [] := by
  unfold speaks
  rw [if_neg (by show ¬ ((1 : Int) = 2 ∨ (1 : Int) = 3 ∨ (1 : Int) = 5 ∨ (1 : Int) = 8); decide), if_neg (by show ¬ (1 : Int) = 4; decide), if_neg (by show ¬ (1 : Int) = 7; decide)]
theorem lim_states {k : Int} {nm : ByteArray} {n : Nat} : statesN (limL k nm n) ≤ n := by
  unfold statesN
  refine Nat.le_trans (sortD_length _) ?_
  unfold whos
  rw [List.length_map]
  exact Nat.le_trans (List.length_filter_le _ _) (by rw [limL_length]; exact Nat.le_refl _)
theorem nodup_sub {α : Type} [DecidableEq α] : ∀ {a b : List α}, a.Nodup → (∀ x ∈ a, x ∈ b) → a.length ≤ b.length
  | [], b, _, _ => Nat.zero_le _
  | x :: r, b, h, hs => by
    obtain ⟨h1, h2⟩ := List.nodup_cons.1 h
    have hx := hs x (by simp)
    have := nodup_sub (b := b.erase x) h2 fun y hy => (List.mem_erase_of_ne (fun e => h1 (by rw [← e]; exact hy))).2 (hs y (by simp [hy]))
    rw [List.length_erase_of_mem hx] at this
    have hp : 0 < b.length := List.length_pos_of_mem hx
    simp; omega
theorem lim_many {k : Int} {nm : ByteArray} {n : Nat} (h : 200 ≤ n) : 200 ≤ statesN (limL k nm n) := by
  unfold statesN
  have hnd : ((List.range 200).map fun i : Nat => ((1 + i : Nat) : Int)).Nodup := by
    refine List.Pairwise.map _ (fun a b (h : a ≠ b) e => h (by omega)) List.nodup_range
  have := nodup_sub hnd (b := sortD (whos (limL k nm n))) fun x hx => by
    obtain ⟨i, hi, rfl⟩ := List.mem_map.1 hx
    have hi := List.mem_range.1 hi
    rw [mem_sortD]
    unfold whos
    refine List.mem_map.2 ⟨limF k nm ((i + 1 : Nat) : Int) ((1 + i % 200 : Nat) : Int), List.mem_filter.2 ⟨limL_has (by omega), by rfl⟩, ?_⟩
    rw [Nat.mod_eq_of_lt hi]; rfl
  simpa using this

theorem lim_valid {k : Int} {nm : ByteArray} (h : formE (firstF k nm) = 0) : ∀ {n : Nat}, n ≤ 300 → (chkF (limL k nm n)).2 = 0
  | 0, _ => rfl
  | n + 1, hn => by
    rw [limL_succ, chk_snoc]
    refine ⟨lim_valid h (by omega), behind_mk (lim_form h (by omega) (by omega)) (by rw [limL_length]; omega) (lim_last rfl) (lim_id (by show (n : Int) < ((n + 1 : Nat) : Int); omega)) (by rw [lim_speaks]; rfl) (fun e => by have := e.1; revert this; show ¬ (1 : Int) = 11; decide) ?_⟩
    rintro ⟨_, h1, h2⟩
    rcases Nat.lt_or_ge n 200 with h3 | h3
    · have := lim_states (k := k) (nm := nm) (n := n); omega
    · have h4 : namedIn (limL k nm n) ((1 + n % 200 : Nat) : Int) = true := lim_named (by omega) (Nat.mod_lt _ (by decide))
      have h5 : namedIn (limL k nm n) ((1 + n % 200 : Nat) : Int) = false := h1
      rw [h4] at h5; cases h5

theorem chkG_valid : ∀ {l seen : List Fact}, (chkG seen l).2 = 0 → (chkG seen l).1 = 0
  | [], _, _ => rfl
  | x :: r, seen, h => by
    obtain ⟨h1, h2⟩ := chkG_cons.1 h
    unfold chkG
    rw [if_neg (fun e => e h1)]
    exact chkG_valid h2
theorem chkF_valid {l : List Fact} (h : (chkF l).2 = 0) : chkF l = (0, 0) := Prod.ext (chkG_valid h) h
theorem chkG_stop : ∀ {l seen : List Fact} {x : Fact}, (chkG seen l).2 = 0 → behindE (seen ++ l) x ≠ 0 → chkG seen (l ++ [x]) = ((seen ++ l).length, behindE (seen ++ l) x)
  | [], seen, x, _, h => by
    rw [List.append_nil] at h ⊢
    show chkG seen (x :: []) = _
    unfold chkG
    rw [if_pos h]
  | y :: l, seen, x, h1, h => by
    obtain ⟨h2, h3⟩ := chkG_cons.1 h1
    have e : seen ++ y :: l = (seen ++ [y]) ++ l := by simp
    show chkG seen (y :: (l ++ [x])) = _
    unfold chkG
    rw [if_neg (fun c => c h2), e]
    exact chkG_stop h3 (by rw [← e]; exact h)
theorem chkF_stop {l : List Fact} {x : Fact} (h1 : (chkF l).2 = 0) (h : behindE l x ≠ 0) : chkF (l ++ [x]) = (l.length, behindE l x) := chkG_stop h1 h

theorem lim_first {k : Int} {nm : ByteArray} (h : (chkF [firstF k nm]).2 = 0) : formE (firstF k nm) = 0 := by
  have : (chkF ([] ++ [firstF k nm])).2 = 0 := h
  exact (behind_zero (chk_snoc.1 this).2).1
theorem lim_more {k : Int} {nm : ByteArray} (h : formE (firstF k nm) = 0) : chkF (limL k nm 300 ++ [limF k nm 301 1]) = (300, 2) := by
  have hb : behindE (limL k nm 300) (limF k nm 301 1) = 2 := by
    unfold behindE
    rw [if_neg (fun e => e (lim_form h (by omega) (by omega))), if_pos (by rw [limL_length]; exact Nat.le_refl _)]
  rw [chkF_stop (lim_valid h (Nat.le_refl _)) (by rw [hb]; decide), hb, limL_length]
theorem lim_other {k : Int} {nm : ByteArray} (h : formE (firstF k nm) = 0) : chkF (limL k nm 250 ++ [limF k nm 1000 201]) = (250, 2) := by
  have hb : behindE (limL k nm 250) (limF k nm 1000 201) = 2 := by
    unfold behindE
    rw [if_neg (fun e => e (lim_form h (by omega) (by omega))), if_neg (by rw [limL_length]; decide), if_neg (by rw [lim_last (k := k) (nm := nm) (n := 250) (z := limF k nm 1000 201) rfl]; decide), if_neg (by rw [show (limF k nm 1000 201).id = 1000 from rfl, lim_id (by decide)]; decide),
      if_neg (by rw [lim_speaks]; exact fun h => by cases h), if_neg (fun e => by have := e.1; revert this; show ¬ (1 : Int) = 11; decide), if_pos ⟨rfl, lim_unnamed, lim_many (by decide)⟩]
  rw [chkF_stop (lim_valid h (by decide)) (by rw [hb]; decide), hb, limL_length]

end Go.Proofs.YthpdkdmbfdmamaaGreatDoor
