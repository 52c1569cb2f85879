/- a part of the proof: steps, walks and plain laws that the law below stands on; no condition. -/
import Derived.Test.YtcnbpfecgokhiaaGreatDoorDUb
import Derived.Test.YtcnbpfecgokhiaaGreatDoorDBa
set_option linter.unusedVariables false
set_option linter.unusedSimpArgs false
set_option linter.unnecessarySimpa false
set_option linter.unusedSectionVars false
namespace Go.Proofs.YtcnbpfecgokhiaaGreatDoor
open Go.Eng Go.RowKit

/-! ### some of a list, numbered anew -/
theorem filter_set {α : Type} {p : α → Bool} : ∀ {l : List α} {k : Nat} (hk : k < l.length) {y : α}, p y = p l[k] → (l.set k y).filter p = if p l[k] = true then (l.filter p).set ((l.take k).filter p).length y else l.filter p
  | x :: l, 0, _, y, h => by
    have h : p y = p x := h
    show (y :: l).filter p = if p x = true then ((x :: l).filter p).set 0 y else (x :: l).filter p
    rw [List.filter_cons, List.filter_cons, h]
    split <;> rfl
  | x :: l, k + 1, hk, y, h => by
    have hk' : k < l.length := by simpa using hk
    have ih := filter_set (p := p) hk' (y := y) h
    show (x :: l.set k y).filter p = if p l[k] = true then ((x :: l).filter p).set (((x :: l.take k).filter p).length) y else (x :: l).filter p
    rw [List.filter_cons, List.filter_cons, List.filter_cons, ih]
    by_cases hx : p x = true
    · rw [if_pos hx, if_pos hx, if_pos hx]
      split
      · rfl
      · rfl
    · rw [if_neg hx, if_neg hx, if_neg hx]
theorem filter_at {α : Type} {p : α → Bool} : ∀ {l : List α} {k : Nat} (hk : k < l.length), p l[k] = true → ∃ h : ((l.take k).filter p).length < (l.filter p).length, (l.filter p)[((l.take k).filter p).length] = l[k]
  | x :: l, 0, _, h => by
    have h : p x = true := h
    have e : (x :: l).filter p = x :: l.filter p := by rw [List.filter_cons, if_pos h]
    refine ⟨by rw [e]; simp, ?_⟩
    simp [e]
  | x :: l, k + 1, hk, h => by
    have hk' : k < l.length := by simpa using hk
    obtain ⟨h1, h2⟩ := filter_at (p := p) hk' h
    by_cases hx : p x = true
    · have e1 : ((x :: l).take (k + 1)).filter p = x :: (l.take k).filter p := by show (x :: l.take k).filter p = _; rw [List.filter_cons, if_pos hx]
      have e2 : (x :: l).filter p = x :: l.filter p := by rw [List.filter_cons, if_pos hx]
      refine ⟨by rw [e1, e2]; simpa using h1, ?_⟩
      simp only [e1, e2, List.length_cons, List.getElem_cons_succ]
      exact h2
    · have e1 : ((x :: l).take (k + 1)).filter p = (l.take k).filter p := by show (x :: l.take k).filter p = _; rw [List.filter_cons, if_neg hx]
      have e2 : (x :: l).filter p = l.filter p := by rw [List.filter_cons, if_neg hx]
      refine ⟨by rw [e1, e2]; exact h1, ?_⟩
      simp only [e1, e2]
      exact h2

def cntV (s : Int) (l : List Gift) : Nat := (l.filter (sidesB s)).length
/-- The number that a gift has among those that a state sees: 0, if it sees none of it. -/
def idV (s : Int) (gl : List Gift) (n : Int) : Int := if 1 ≤ n ∧ n ≤ gl.length ∧ sidesB s (atN gl n) = true then ((cntV s (gl.take (n - 1).toNat) + 1 : Nat) : Int) else 0
def renG (s : Int) (gl : List Gift) (g : Gift) : Gift := { g with id := idV s gl g.id, returns := idV s gl g.returns }
def renL (s : Int) (gl : List Gift) : List Gift := (gl.filter (sidesB s)).map (renG s gl)
theorem idV_at {s : Int} {gl : List Gift} {k : Nat} (hk : k < gl.length) : idV s gl ((k + 1 : Nat) : Int) = if sidesB s gl[k] = true then ((cntV s (gl.take k) + 1 : Nat) : Int) else 0 := by
  unfold idV
  rw [atN_get hk]
  have : (((k + 1 : Nat) : Int) - 1).toNat = k := by omega
  rw [this]
  by_cases hs : sidesB s gl[k] = true
  · rw [if_pos hs, if_pos ⟨by omega, by omega, hs⟩]
  · rw [if_neg hs, if_neg (fun h => hs h.2.2)]
theorem idV_zero (s : Int) (gl : List Gift) : idV s gl 0 = 0 := if_neg (fun h => by omega)
theorem cnt_take {s : Int} {gl : List Gift} {k : Nat} (hk : k < gl.length) : cntV s (gl.take (k + 1)) = cntV s (gl.take k) + if sidesB s gl[k] = true then 1 else 0 := by
  unfold cntV
  rw [List.take_succ_eq_append_getElem hk, List.filter_append, List.length_append, List.filter_cons, List.filter_nil]
  split <;> rfl
theorem cnt_mono {s : Int} {gl : List Gift} {a b : Nat} (h : a ≤ b) : cntV s (gl.take a) ≤ cntV s (gl.take b) := by
  unfold cntV
  have : (gl.take a).Sublist (gl.take b) := by
    have : gl.take a = (gl.take b).take a := by rw [List.take_take, Nat.min_eq_left h]
    rw [this]; exact List.take_sublist _ _
  exact (this.filter _).length_le
theorem idV_inj {s : Int} {gl : List Gift} {a b : Nat} (ha : a < gl.length) (hb : b < gl.length) (va : sidesB s gl[a] = true) (vb : sidesB s gl[b] = true) (h : idV s gl ((a + 1 : Nat) : Int) = idV s gl ((b + 1 : Nat) : Int)) : a = b := by
  rw [idV_at ha, idV_at hb, if_pos va, if_pos vb] at h
  have h : cntV s (gl.take a) = cntV s (gl.take b) := by omega
  rcases Nat.lt_trichotomy a b with hlt | hlt | hlt
  · have := cnt_mono (s := s) (gl := gl) (show a + 1 ≤ b by omega)
    rw [cnt_take ha, if_pos va] at this
    omega
  · exact hlt
  · have := cnt_mono (s := s) (gl := gl) (show b + 1 ≤ a by omega)
    rw [cnt_take hb, if_pos vb] at this
    omega
theorem idV_le (s : Int) (gl : List Gift) (n : Int) : 0 ≤ idV s gl n ∧ idV s gl n ≤ (cntV s gl : Nat) := by
  unfold idV
  split
  · rename_i h
    obtain ⟨k, hk, rfl⟩ := num_of (n := gl.length) (i := n) h.1 h.2.1
    have h3 := h.2.2
    rw [atN_get hk] at h3
    have e : (((k + 1 : Nat) : Int) - 1).toNat = k := by omega
    rw [e]
    have h1 := cnt_take (s := s) hk
    rw [if_pos h3] at h1
    have h2 := cnt_mono (s := s) (gl := gl) (show k + 1 ≤ gl.length by omega)
    rw [List.take_length] at h2
    omega
  · omega
theorem renL_length (s : Int) (gl : List Gift) : (renL s gl).length = cntV s gl := by unfold renL cntV; simp
theorem renL_at {s : Int} {gl : List Gift} {k : Nat} (hk : k < gl.length) (hv : sidesB s gl[k] = true) : ∃ h : cntV s (gl.take k) < (renL s gl).length, (renL s gl)[cntV s (gl.take k)] = renG s gl gl[k] := by
  obtain ⟨h1, h2⟩ := filter_at (p := sidesB s) hk hv
  refine ⟨by rw [renL_length]; exact h1, ?_⟩
  unfold renL
  rw [List.getElem_map]
  congr 1

/-- A gift's place and what it returns. -/
theorem mirror {gl : List Gift} (h : GiftsOk gl) {i : Nat} (hi : i < gl.length) (hr : gl[i].returns ≠ 0) : ∃ k, ∃ hk : k < gl.length, gl[i].returns = ((k + 1 : Nat) : Int) ∧ ∀ s, sidesB s gl[k] = sidesB s gl[i] := by
  rcases h.refs i hi with h0 | ⟨k, hk, h1, _, _, _, h2, h3⟩
  · exact absurd h0 hr
  · refine ⟨k, hk, h1, fun s => ?_⟩
    unfold sidesB
    rw [h2, h3, Bool.or_comm]

def Mir (gl : List Gift) : Prop := ∀ i (hi : i < gl.length), gl[i].returns ≠ 0 → ∃ k, ∃ hk : k < gl.length, gl[i].returns = ((k + 1 : Nat) : Int) ∧ ∀ s, sidesB s gl[k] = sidesB s gl[i]
theorem mir_of {gl : List Gift} (h : GiftsOk gl) : Mir gl := fun _ hi hr => mirror h hi hr
theorem met_ren {s : Int} {gl : List Gift} (h : Mir gl) {k : Nat} (hk : k < gl.length) (hv : sidesB s gl[k] = true) : metL (renL s gl) (idV s gl ((k + 1 : Nat) : Int)) = metL gl ((k + 1 : Nat) : Int) := by
  have hne : idV s gl ((k + 1 : Nat) : Int) ≠ 0 := by rw [idV_at hk, if_pos hv]; omega
  have key : ∀ x ∈ gl, (sidesB s x = true → metW (idV s gl ((k + 1 : Nat) : Int)) (renG s gl x) = metW ((k + 1 : Nat) : Int) x) ∧ (sidesB s x = false → metW ((k + 1 : Nat) : Int) x = 0) := fun x hx => by
    obtain ⟨i, hi, rfl⟩ := List.getElem_of_mem hx
    constructor
    · intro hvi
      have hiff : idV s gl gl[i].returns = idV s gl ((k + 1 : Nat) : Int) ↔ gl[i].returns = ((k + 1 : Nat) : Int) := by
        constructor
        · intro he
          by_cases h0 : gl[i].returns = 0
          · rw [h0, idV_zero] at he; exact absurd he.symm hne
          · obtain ⟨j, hj, hj1, hj2⟩ := h i hi h0
            rw [hj1] at he ⊢
            have := idV_inj hj hk (by rw [hj2]; exact hvi) hv he
            rw [this]
        · intro he; rw [he]
      unfold metW metB renG
      by_cases hr : gl[i].returns = ((k + 1 : Nat) : Int)
      · simp only [hiff.2 hr, hr]
      · have hr2 : ¬ idV s gl gl[i].returns = idV s gl ((k + 1 : Nat) : Int) := fun he => hr (hiff.1 he)
        rw [if_neg (fun e => hr2 (of_decide_eq_true e).1), if_neg (fun e => hr (of_decide_eq_true e).1)]
    · intro hvi
      unfold metW metB
      rw [if_neg]
      intro hh
      have hh := of_decide_eq_true hh
      obtain ⟨j, hj, hj1, hj2⟩ := h i hi (by rw [hh.1]; omega)
      have : j = k := by have := hh.1; omega
      subst this
      rw [hj2, hvi] at hv
      cases hv
  unfold metL renL
  rw [List.map_map, ← sum_filter (p := sidesB s) (f := metW ((k + 1 : Nat) : Int)) fun x hx hs => (key x hx).2 hs]
  refine sum_congr fun x hx => ?_
  obtain ⟨h1, h2⟩ := List.mem_filter.1 hx
  exact (key x h1).1 h2

/-! ### one more gift; one that is turned -/
theorem idV_snoc {s : Int} {gl : List Gift} {g : Gift} {n : Int} (hn : n ≤ gl.length) : idV s (gl ++ [g]) n = idV s gl n := by
  by_cases h1 : 1 ≤ n
  · obtain ⟨k, hk, rfl⟩ := num_of (n := gl.length) (i := n) h1 hn
    have hk' : k < (gl ++ [g]).length := by simp; omega
    rw [idV_at hk, idV_at hk', List.getElem_append_left hk, List.take_append_of_le_length (by omega)]
  · unfold idV
    rw [if_neg (fun h => h1 h.1), if_neg (fun h => h1 h.1)]
theorem idV_last {s : Int} {gl : List Gift} {g : Gift} : idV s (gl ++ [g]) ((gl.length + 1 : Nat) : Int) = if sidesB s g = true then ((cntV s gl + 1 : Nat) : Int) else 0 := by
  have hk' : gl.length < (gl ++ [g]).length := by simp
  rw [idV_at hk']
  simp
theorem renL_snoc {s : Int} {gl : List Gift} (h : GiftsOk gl) (g : Gift) : renL s (gl ++ [g]) = renL s gl ++ if sidesB s g = true then [renG s (gl ++ [g]) g] else [] := by
  unfold renL
  rw [List.filter_append, List.map_append, List.filter_cons, List.filter_nil]
  congr 1
  · refine List.map_congr_left fun x hx => ?_
    obtain ⟨i, hi, rfl⟩ := List.getElem_of_mem (List.mem_filter.1 hx).1
    have h1 := h.ids i hi
    have h2 : gl[i].returns ≤ gl.length := by
      rcases h.refs i hi with h0 | ⟨k, hk, h1, _⟩ <;> omega
    unfold renG
    rw [idV_snoc (by omega), idV_snoc h2]
  · split <;> rfl
theorem idV_set {s : Int} {gl : List Gift} {k : Nat} (hk : k < gl.length) {y : Gift} (hy : sidesB s y = sidesB s gl[k]) (n : Int) : idV s (gl.set k y) n = idV s gl n := by
  have hcnt : ∀ m, cntV s ((gl.set k y).take m) = cntV s (gl.take m) := fun m => by
    unfold cntV
    rw [List.take_set]
    by_cases hm : k < (gl.take m).length
    · have e : (gl.take m)[k] = gl[k] := by rw [List.getElem_take]
      rw [filter_set hm (by rw [e]; exact hy)]
      split
      · rw [List.length_set]
      · rfl
    · rw [List.set_eq_of_length_le (by omega)]
  by_cases hn : 1 ≤ n ∧ n ≤ gl.length
  · obtain ⟨j, hj, rfl⟩ := num_of (n := gl.length) (i := n) hn.1 hn.2
    have hj' : j < (gl.set k y).length := by simpa using hj
    rw [idV_at hj, idV_at hj', hcnt, List.getElem_set]
    by_cases hkj : k = j
    · subst hkj; rw [if_pos rfl, hy]
    · rw [if_neg hkj]
  · unfold idV
    rw [if_neg (fun h => hn ⟨h.1, by have := h.2.1; simpa using this⟩), if_neg (fun h => hn ⟨h.1, h.2.1⟩)]
theorem renL_set {s : Int} {gl : List Gift} {k : Nat} (hk : k < gl.length) {y : Gift} (hy : sidesB s y = sidesB s gl[k]) : renL s (gl.set k y) = if sidesB s gl[k] = true then (renL s gl).set (cntV s (gl.take k)) (renG s gl y) else renL s gl := by
  have hren : renG s (gl.set k y) = renG s gl := by
    funext g
    unfold renG
    rw [idV_set hk hy, idV_set hk hy]
  unfold renL
  rw [filter_set hk hy, hren]
  split
  · rw [List.map_set]; rfl
  · rfl

/-! ### two ledgers -/
def obsL (s : Int) (es : List Entry) : List (Int × Int × Int × Int × Int) := es.filterMap (seeX (waivL es) (giftL es) s)
theorem obs_snoc {s : Int} {es : List Entry} {x : Entry} {sg : Int} (hA : Acc es) (hx : doE sg es x = 0) : obsL s (es ++ [x]) = obsL s es ++ (seeX (waivL (es ++ [x])) (giftL (es ++ [x])) s x).toList := by
  have hA2 : Acc (es ++ [x]) := .snoc sg hA hx
  unfold obsL
  rw [List.filterMap_append, List.filterMap_cons, List.filterMap_nil]
  obtain ⟨hg, hw⟩ := later_gifts [x] hA2
  congr 1
  · refine filterMap_same fun y hy => ?_
    obtain ⟨r1, r2⟩ := refers hA y hy
    have hk := ok_kind (form_okE ((acc_ok hA).forms y hy)).1
    unfold seeX
    by_cases k12 : y.kind = 1 ∨ y.kind = 2
    · rw [if_pos k12, if_pos k12]
    · rw [if_neg k12, if_neg k12]
      by_cases k34 : y.kind = 3 ∨ y.kind = 4
      · rw [if_pos k34, if_pos k34]
        obtain ⟨k, hk1, hk2⟩ := r1 k34
        obtain ⟨hk', hl⟩ := hw.get k hk1
        rw [hk2, atN_get hk1, atN_get hk', hl.giver, hl.taker, hl.id]
      · rw [if_neg k34, if_neg k34]
        obtain ⟨k, hk1, hk2⟩ := r2 (by omega)
        obtain ⟨hk', hl⟩ := hg.get k hk1
        rw [hk2, atN_get hk1, atN_get hk', hl.frm, hl.to, hl.worth]
theorem sights_obs {es : List Entry} (hA : Acc es) (s day : Int) : sightsL (asOfL es day) s = (obsL s es).filter fun t => decide (t.2.1 ≤ day) := by
  rw [← sight_ref hA]
  unfold obsL
  rw [List.filter_filterMap]
  refine filterMap_same fun x _ => ?_
  have hday : ∀ t, seeX (waivL es) (giftL es) s x = some t → t.2.1 = x.day := fun t ht => by
    unfold seeX at ht
    split at ht
    · injection ht with ht; rw [← ht]
    · split at ht
      · injection ht with ht; rw [← ht]
      · split at ht
        · injection ht with ht; rw [← ht]
        · cases ht
  cases h : seeX (waivL es) (giftL es) s x with
  | none => split <;> rfl
  | some t =>
    have := hday t h
    by_cases hd : x.day ≤ day
    · rw [if_pos hd]; show _ = if decide (t.2.1 ≤ day) = true then some t else none; rw [if_pos (decide_eq_true (by omega))]
    · rw [if_neg hd]; show _ = if decide (t.2.1 ≤ day) = true then some t else none; rw [if_neg (by rw [decide_eq_true_eq]; omega)]

structure RelV (s : Int) (L M : List Entry) : Prop where
  waiv : waivL M = waivL L
  due : dueL M = dueL L
  rate : ∀ c, rateL M c = rateL L c
  ceil : ∀ c, ceilL M c = ceilL L c
  last : lastDay M ≤ lastDay L
  gifts : giftL M = renL s (giftL L)
  obs : obsL s M = obsL s L
theorem RelV.nil (s : Int) : RelV s [] [] := ⟨rfl, rfl, fun _ => rfl, fun _ => rfl, Int.le_refl _, rfl, rfl⟩

theorem gift_plain {es : List Entry} {x : Entry} (h5 : x.kind ≠ 5) (h6 : x.kind ≠ 6) (h7 : x.kind ≠ 7) : giftL (es ++ [x]) = giftL es := by
  rw [giftL_snoc]
  unfold giftS meetS baseS
  rw [if_neg h6, if_neg h5, if_neg h6, if_neg h7]
theorem rel_waiv {s : Int} {L M : List Entry} (h : RelV s L M) {x : Entry} : waivL (M ++ [x]) = waivL (L ++ [x]) ∧ dueL (M ++ [x]) = dueL (L ++ [x]) ∧ (∀ c, rateL (M ++ [x]) c = rateL (L ++ [x]) c) ∧ (∀ c, ceilL (M ++ [x]) c = ceilL (L ++ [x]) c) := by
  refine ⟨by rw [waivL_snoc, waivL_snoc, h.waiv], by rw [dueL_snoc, dueL_snoc, h.due], fun c => by rw [rateL_snoc, rateL_snoc, h.rate], fun c => by rw [ceilL_snoc, ceilL_snoc, h.ceil]⟩

/-- An entry that is not about a gift. -/
theorem rel_same {s : Int} {L M : List Entry} (hL : Acc L) (hM : Acc M) (h : RelV s L M) {sg : Int} {x : Entry} (h5 : x.kind ≠ 5) (h6 : x.kind ≠ 6) (h7 : x.kind ≠ 7) (hx : doE sg L x = 0) : doE sg M x = 0 ∧ RelV s (L ++ [x]) (M ++ [x]) := by
  obtain ⟨hf, hl, hr⟩ := do_zero hx
  have hdo : doE sg M x = 0 := by
    unfold doE
    have hlast := h.last
    rw [if_neg (by rw [hf]; decide), if_neg (by omega), ← hr]
    unfold refusedE grantedE
    rw [h.waiv, h.due]
    split
    · rfl
    · split
      · rfl
      · simp only [if_neg h5, if_neg (show ¬ (x.kind = 6 ∨ x.kind = 7) by omega)]
  obtain ⟨w1, w2, w3, w4⟩ := rel_waiv h (x := x)
  have g1 := gift_plain (es := L) h5 h6 h7
  have g2 := gift_plain (es := M) h5 h6 h7
  refine ⟨hdo, ⟨w1, w2, w3, w4, by rw [lastDay_snoc, lastDay_snoc]; exact Int.le_refl _, by rw [g1, g2]; exact h.gifts, ?_⟩⟩
  rw [obs_snoc hL hx, obs_snoc hM hdo, h.obs]
  congr 2
  unfold seeX
  rw [w1]
  by_cases k12 : x.kind = 1 ∨ x.kind = 2
  · rw [if_pos k12, if_pos k12]
  · rw [if_neg k12, if_neg k12]
    have hk := ok_kind (form_okE hf).1
    rw [if_pos (by omega), if_pos (by omega)]

end Go.Proofs.YtcnbpfecgokhiaaGreatDoor

namespace Go.Proofs.YtcnbpfecgokhiaaGreatDoor
open Go.Eng Go.RowKit

/-! ### gifts and what they return -/
theorem Mir.set {gl : List Gift} (h : Mir gl) {k : Nat} (hk : k < gl.length) {y : Gift} (hr : y.returns = gl[k].returns) (hs : ∀ s, sidesB s y = sidesB s gl[k]) : Mir (gl.set k y) := by
  have side : ∀ s j (hj : j < gl.length), sidesB s ((gl.set k y)[j]'(by simpa using hj)) = sidesB s gl[j] := fun s j hj => by
    rw [List.getElem_set]
    split
    · rename_i e; subst e; exact hs s
    · rfl
  intro i hi hne
  have hi' : i < gl.length := by simpa using hi
  have e : (gl.set k y)[i].returns = gl[i].returns := by
    rw [List.getElem_set]
    split
    · rename_i e; subst e; exact hr
    · rfl
  rw [e] at hne ⊢
  obtain ⟨j, hj, h1, h2⟩ := h i hi' hne
  exact ⟨j, by simpa using hj, h1, fun s => by rw [side s j hj, side s i hi']; exact h2 s⟩

/-! ### a gift that is answered -/
/-- What an answer leaves of the gifts. -/
theorem gift_take {es : List Entry} {x : Entry} (hk : x.kind = 6) {k : Nat} (hl : k < (giftL es).length) (hid : x.g.id = ((k + 1 : Nat) : Int)) :
    giftL (es ++ [x]) = (let gs := (giftL es).set k (takeG x.day (giftL es)[k]); let r := (giftL es)[k].returns; if r = 0 then gs else if (atN gs r).worth ≤ metL gs r then updAt gs r backG else gs) := by
  rw [giftL_snoc]
  unfold giftS meetS baseS
  simp only [hk, Int.reduceEq, if_true, if_false, hid]
  rw [updAt_eq hl]
  have hks : k < ((giftL es).set k (takeG x.day (giftL es)[k])).length := by simpa using hl
  have hat : atN ((giftL es).set k (takeG x.day (giftL es)[k])) ((k + 1 : Nat) : Int) = takeG x.day (giftL es)[k] := by rw [atN_get hks]; simp
  simp only [hat]
  rfl
theorem gift_refuse {es : List Entry} {x : Entry} (hk : x.kind = 7) {k : Nat} (hl : k < (giftL es).length) (hid : x.g.id = ((k + 1 : Nat) : Int)) :
    giftL (es ++ [x]) = (giftL es).set k (refuseG x.day (giftL es)[k]) := by
  rw [giftL_snoc]
  unfold giftS baseS meetS
  rw [if_neg (by omega), if_neg (by omega), if_pos hk, if_neg (by omega), hid, updAt_eq hl]
theorem ans_parts {sg : Int} {es : List Entry} {x : Entry} (hk : x.kind = 6 ∨ x.kind = 7) (hx : doE sg es x = 0) : ∃ k, ∃ hl : k < (giftL es).length, x.g.id = ((k + 1 : Nat) : Int) ∧ (giftL es)[k].state = 1 := by
  obtain ⟨hf, hl, hr⟩ := do_zero hx
  obtain ⟨hok, _, _⟩ := form_okE hf
  unfold refusedE at hr
  rw [if_neg (by omega), if_neg (by omega), if_neg (by omega), if_pos hk] at hr
  have hid : 1 ≤ x.g.id := by
    unfold okE at hok
    rw [if_neg (by omega), if_neg (by omega), if_neg (by omega), if_neg (by omega), if_neg (by omega), if_pos hk, decide_eq_true_eq] at hok
    omega
  exact gift_answered (x := x) hid hr

theorem sides_take (s d : Int) (g : Gift) : sidesB s (takeG d g) = sidesB s g := rfl
theorem sides_refuse (s d : Int) (g : Gift) : sidesB s (refuseG d g) = sidesB s g := rfl
theorem sides_back (s : Int) (g : Gift) : sidesB s (backG g) = sidesB s g := rfl

theorem renL_hidden {s : Int} {es : List Entry} {x : Entry} (hA : Acc es) (hk : x.kind = 6 ∨ x.kind = 7) {k : Nat} (hl : k < (giftL es).length) (hid : x.g.id = ((k + 1 : Nat) : Int)) (hv : sidesB s (giftL es)[k] = false) :
    renL s (giftL (es ++ [x])) = renL s (giftL es) := by
  have hM := mir_of (acc_ok hA).gifts
  rcases hk with hk | hk
  · rw [gift_take hk hl hid]
    generalize giftL es = gs at *
    have h1 : renL s (gs.set k (takeG x.day gs[k])) = renL s gs := by
      rw [renL_set hl (sides_take s _ _), if_neg (by rw [hv]; decide)]
    simp only
    split
    · exact h1
    · rename_i hr
      split
      · obtain ⟨j, hj, h2, h3⟩ := hM k hl hr
        have hjs : j < (gs.set k (takeG x.day gs[k])).length := by simpa using hj
        have hvj : sidesB s (gs.set k (takeG x.day gs[k]))[j] = false := by
          rw [List.getElem_set]
          split
          · exact hv
          · rw [h3 s]; exact hv
        rw [h2, updAt_eq hjs, renL_set hjs (sides_back s _), if_neg (by rw [hvj]; decide)]
        exact h1
      · exact h1
  · rw [gift_refuse hk hl hid, renL_set hl (sides_refuse s _ _), if_neg (by rw [hv]; decide)]

/-! ### entries about gifts of others -/
theorem see_gift {ws : List Waiv} {gs : List Gift} {s : Int} {x : Entry} (hk : x.kind = 5 ∨ x.kind = 6 ∨ x.kind = 7) {k : Nat} (hl : k < gs.length) (hid : x.g.id = ((k + 1 : Nat) : Int)) :
    seeX ws gs s x = if sidesB s gs[k] = true then some (x.kind, x.day, gs[k].frm, gs[k].to, gs[k].worth) else none := by
  unfold seeX
  rw [if_neg (by omega), if_neg (by omega), hid, atN_get hl]
  unfold sidesB
  by_cases h : gs[k].frm = s ∨ gs[k].to = s
  · rw [if_pos h, if_pos (by simpa using h)]
  · rw [if_neg h, if_neg (by simpa using h)]
theorem plain_rest {es : List Entry} {x : Entry} (hk : x.kind = 5 ∨ x.kind = 6 ∨ x.kind = 7) : waivL (es ++ [x]) = waivL es ∧ dueL (es ++ [x]) = dueL es ∧ (∀ c, rateL (es ++ [x]) c = rateL es c) ∧ (∀ c, ceilL (es ++ [x]) c = ceilL es c) := by
  refine ⟨?_, ?_, fun c => ?_, fun c => ?_⟩
  · rw [waivL_snoc]; unfold waivS; rw [if_neg (by omega), if_neg (by omega)]
  · rw [dueL_snoc, if_neg (by omega)]
  · rw [rateL_snoc]; unfold rateS; rw [if_neg (by omega)]
  · rw [ceilL_snoc]; unfold ceilS; rw [if_neg (by omega)]
theorem offer_gift {sg : Int} {es : List Entry} {x : Entry} (hk : x.kind = 5) (hx : doE sg es x = 0) : giftL (es ++ [x]) = giftL es ++ [{ x.g with worth := x.g.n * rateL es x.g.cur, state := 1 }] ∧ x.g.id = (((giftL es).length + 1 : Nat) : Int) := by
  obtain ⟨hf, hl, hr⟩ := do_zero hx
  refine ⟨?_, ?_⟩
  · rw [giftL_snoc]
    unfold giftS baseS meetS
    rw [if_pos hk, if_neg (by omega)]
  · unfold refusedE at hr
    rw [if_neg (by omega), if_neg (by omega), if_pos hk] at hr
    unfold offeredE at hr
    split at hr
    · cases hr
    split at hr
    · cases hr
    rename_i r2
    have := Decidable.not_not.1 r2
    omega

/-- An entry about a gift of others: left out. -/
theorem rel_hidden {s : Int} {L M : List Entry} (hL : Acc L) (h : RelV s L M) {sg : Int} {x : Entry} (hk : x.kind = 5 ∨ x.kind = 6 ∨ x.kind = 7) (hx : doE sg L x = 0)
    (hno : (x.kind = 5 ∧ x.g.frm ≠ s ∧ x.g.to ≠ s) ∨ (x.kind ≠ 5 ∧ idV s (giftL L) x.g.id = 0)) : RelV s (L ++ [x]) M := by
  obtain ⟨hf, hl, hr⟩ := do_zero hx
  obtain ⟨w1, w2, w3, w4⟩ := plain_rest (es := L) hk
  have hg : renL s (giftL (L ++ [x])) = renL s (giftL L) ∧ seeX (waivL (L ++ [x])) (giftL (L ++ [x])) s x = none := by
    rcases hno with ⟨k5, n1, n2⟩ | ⟨k5, n1⟩
    · obtain ⟨g1, g2⟩ := offer_gift k5 hx
      have hv : sidesB s { x.g with worth := x.g.n * rateL L x.g.cur, state := 1 } = false := by
        unfold sidesB
        rw [decide_eq_false n1, decide_eq_false n2]; rfl
      have hlt : (giftL L).length < (giftL (L ++ [x])).length := by rw [g1]; simp
      refine ⟨by rw [g1, renL_snoc (acc_ok hL).gifts, if_neg (by rw [hv]; decide), List.append_nil], ?_⟩
      rw [see_gift hk hlt g2, if_neg]
      have : (giftL (L ++ [x]))[(giftL L).length] = { x.g with worth := x.g.n * rateL L x.g.cur, state := 1 } := by simp [g1]
      rw [this, hv]; decide
    · have hk67 : x.kind = 6 ∨ x.kind = 7 := by omega
      obtain ⟨k, hlk, hid, hst⟩ := ans_parts hk67 hx
      have hv : sidesB s (giftL L)[k] = false := by
        rw [hid, idV_at hlk] at n1
        refine Bool.eq_false_iff.2 fun hc => ?_
        rw [if_pos hc] at n1
        omega
      refine ⟨renL_hidden hL hk67 hlk hid hv, ?_⟩
      obtain ⟨hlk', hlat⟩ := (gifts_step hL hx).get k hlk
      rw [see_gift hk hlk' hid, if_neg]
      have : sidesB s (giftL (L ++ [x]))[k] = sidesB s (giftL L)[k] := by unfold sidesB; rw [hlat.frm, hlat.to]
      rw [this, hv]; decide
  refine ⟨by rw [w1]; exact h.waiv, by rw [w2]; exact h.due, fun c => by rw [w3]; exact h.rate c, fun c => by rw [w4]; exact h.ceil c, ?_, by rw [hg.1]; exact h.gifts, ?_⟩
  · rw [lastDay_snoc]
    have := h.last
    omega
  · rw [obs_snoc hL hx, hg.2]
    show obsL s M = obsL s L ++ []
    rw [List.append_nil]; exact h.obs

/-! ### an answer to a gift that is seen -/
def idE (n : Int) (x : Entry) : Entry := { x with g := { x.g with id := n } }
theorem ans_form {x : Entry} (hk : x.kind = 6 ∨ x.kind = 7) (hf : formX x = true) {n : Int} (hn : 1 ≤ n ∧ n ≤ 500) : formX (idE n x) = true := by
  obtain ⟨hok, hw, hd⟩ := form_okE hf
  have hk' : (idE n x).kind = 6 ∨ (idE n x).kind = 7 := hk
  unfold formX
  rw [Bool.and_eq_true, Bool.and_eq_true]
  refine ⟨⟨?_, decide_eq_true ?_⟩, decide_eq_true hd⟩
  · unfold okE
    have e : (idE n x).kind = x.kind := rfl
    rw [e, if_neg (by omega), if_neg (by omega), if_neg (by omega), if_neg (by omega), if_neg (by omega), if_pos hk]
    exact decide_eq_true hn
  · unfold wantE at hw ⊢
    have e : (idE n x).kind = x.kind := rfl
    rw [e, if_neg (by omega), if_neg (by omega), if_neg (by omega), if_neg (by omega), if_pos hk]
    rw [if_neg (by omega), if_neg (by omega), if_neg (by omega), if_neg (by omega), if_pos hk] at hw
    have h1 := congrArg Entry.w hw
    have h2 := congrArg Entry.g hw
    have h3 := congrArg Entry.a hw
    have h4 := congrArg Entry.b hw
    have h5 := congrArg Entry.n hw
    simp only at h1 h2 h3 h4 h5
    unfold idE
    rw [h1, h2, h3, h4, h5]
theorem ren_at {s : Int} {L M : List Entry} (h : RelV s L M) {k : Nat} (hk : k < (giftL L).length) (hv : sidesB s (giftL L)[k] = true) :
    ∃ hm : cntV s ((giftL L).take k) < (giftL M).length, (giftL M)[cntV s ((giftL L).take k)] = renG s (giftL L) (giftL L)[k] := by
  obtain ⟨h1, h2⟩ := renL_at hk hv
  have hg := h.gifts
  refine ⟨by rw [hg]; exact h1, ?_⟩
  simp only [hg]; exact h2
theorem ren_take (s : Int) (gl : List Gift) (d : Int) (g : Gift) : renG s gl (takeG d g) = takeG d (renG s gl g) := rfl
theorem ren_refuse (s : Int) (gl : List Gift) (d : Int) (g : Gift) : renG s gl (refuseG d g) = refuseG d (renG s gl g) := rfl
theorem ren_back (s : Int) (gl : List Gift) (g : Gift) : renG s gl (backG g) = backG (renG s gl g) := rfl

theorem rel_answer {s : Int} {L M : List Entry} (hL : Acc L) (hM : Acc M) (h : RelV s L M) {sg sg' : Int} {x : Entry} (hk : x.kind = 6 ∨ x.kind = 7) (hx : doE sg L x = 0) (hid : idV s (giftL L) x.g.id ≠ 0) :
    doE sg' M (idE (idV s (giftL L) x.g.id) x) = 0 ∧ RelV s (L ++ [x]) (M ++ [idE (idV s (giftL L) x.g.id) x]) := by
  obtain ⟨hf, hl, hr⟩ := do_zero hx
  obtain ⟨k, hlk, hxk, hst⟩ := ans_parts hk hx
  have hv : sidesB s (giftL L)[k] = true := by
    refine Decidable.byContradiction fun hc => hid ?_
    rw [hxk, idV_at hlk, if_neg hc]
  have hidv : idV s (giftL L) x.g.id = ((cntV s ((giftL L).take k) + 1 : Nat) : Int) := by rw [hxk, idV_at hlk, if_pos hv]
  obtain ⟨hm, hat⟩ := ren_at h hlk hv
  rw [hidv]
  generalize hc : cntV s ((giftL L).take k) = c at *
  have hlen : (giftL M).length ≤ 500 := (acc_ok hM).gifts.len
  have hlast := h.last
  generalize hy : idE ((c + 1 : Nat) : Int) x = y
  have yk : y.kind = x.kind := by rw [← hy]; rfl
  have yd : y.day = x.day := by rw [← hy]; rfl
  have yi : y.g.id = ((c + 1 : Nat) : Int) := by rw [← hy]; rfl
  have hdo : doE sg' M y = 0 := by
    unfold doE
    have hfy : formX y = true := by rw [← hy]; exact ans_form hk hf (by omega)
    rw [if_neg (by rw [hfy]; decide), if_neg (by omega)]
    unfold refusedE
    rw [if_neg (by omega), if_neg (by omega), if_neg (by omega), if_pos (by omega), yi, if_neg (by omega), atN_get hm, hat, if_neg]
    show ¬ ¬ (giftL L)[k].state = 1
    exact fun hn => hn hst
  have hky : y.kind = 6 ∨ y.kind = 7 := by omega
  have hk5 : x.kind = 5 ∨ x.kind = 6 ∨ x.kind = 7 := .inr hk
  have hky5 : y.kind = 5 ∨ y.kind = 6 ∨ y.kind = 7 := .inr hky
  obtain ⟨w1, w2, w3, w4⟩ := plain_rest (es := L) hk5
  obtain ⟨v1, v2, v3, v4⟩ := plain_rest (es := M) hky5
  have hgift : giftL (M ++ [y]) = renL s (giftL (L ++ [x])) := by
    have hMir := mir_of (acc_ok hL).gifts
    have hg := h.gifts
    rcases hk with k6 | k7
    · rw [gift_take k6 hlk hxk, gift_take (yk.trans k6) hm yi, yd]
      simp only
      have hset : (giftL M).set c (takeG x.day (giftL M)[c]) = renL s ((giftL L).set k (takeG x.day (giftL L)[k])) := by
        rw [renL_set hlk (sides_take s _ _), if_pos hv, hc, ren_take, hat, hg]
      have hret : (giftL M)[c].returns = idV s ((giftL L).set k (takeG x.day (giftL L)[k])) (giftL L)[k].returns := by
        rw [idV_set hlk (sides_take s _ _), hat]; rfl
      rw [hset, hret]
      have hMs : Mir ((giftL L).set k (takeG x.day (giftL L)[k])) := Mir.set hMir hlk rfl (fun _ => rfl)
      by_cases h0 : (giftL L)[k].returns = 0
      · rw [if_pos h0, h0, idV_zero, if_pos rfl]
      · rw [if_neg h0]
        obtain ⟨j, hj, hr1, hr2⟩ := hMir k hlk h0
        rw [hr1]
        generalize hgs : (giftL L).set k (takeG x.day (giftL L)[k]) = gs at *
        have hjs : j < gs.length := by rw [← hgs]; simpa using hj
        have hvj : sidesB s gs[j] = true := by
          simp only [← hgs, List.getElem_set]
          split
          · exact hv
          · rw [hr2 s]; exact hv
        obtain ⟨hm2, hat2⟩ := renL_at hjs hvj
        rw [met_ren hMs hjs hvj, idV_at hjs, if_pos hvj, if_neg (by omega), atN_get hm2, hat2, atN_get hjs]
        have hw : (renG s gs gs[j]).worth = gs[j].worth := rfl
        rw [hw]
        split
        · rw [updAt_eq hm2, updAt_eq hjs, hat2, renL_set hjs (sides_back s _), if_pos hvj, ren_back]
        · rfl
    · rw [gift_refuse k7 hlk hxk, gift_refuse (yk.trans k7) hm yi, yd, renL_set hlk (sides_refuse s _ _), if_pos hv, hc, ren_refuse, hat, hg]
  have hobs : seeX (waivL (M ++ [y])) (giftL (M ++ [y])) s y = seeX (waivL (L ++ [x])) (giftL (L ++ [x])) s x := by
    obtain ⟨hlk', hlat⟩ := (gifts_step hL hx).get k hlk
    obtain ⟨hm', hmat⟩ := (gifts_step hM hdo).get c hm
    rw [see_gift hk5 hlk' hxk, see_gift hky5 hm' yi, yk, yd]
    have e1 : sidesB s (giftL (L ++ [x]))[k] = true := by unfold sidesB; rw [hlat.frm, hlat.to]; exact hv
    have e2 : sidesB s (giftL (M ++ [y]))[c] = true := by unfold sidesB; rw [hmat.frm, hmat.to, hat]; exact hv
    rw [if_pos e1, if_pos e2, hlat.frm, hlat.to, hlat.worth, hmat.frm, hmat.to, hmat.worth, hat]
    rfl
  refine ⟨hdo, by rw [v1, w1]; exact h.waiv, by rw [v2, w2]; exact h.due, fun c => by rw [v3, w3]; exact h.rate c, fun c => by rw [v4, w4]; exact h.ceil c, by rw [lastDay_snoc, lastDay_snoc, yd]; exact Int.le_refl _, hgift, ?_⟩
  rw [obs_snoc hL hx, obs_snoc hM hdo, h.obs, hobs]

/-! ### an offer from or to a state that sees it -/
def turnE (n r : Int) (x : Entry) : Entry := { x with g := { x.g with id := n, returns := r } }
theorem rel_offer {s : Int} {L M : List Entry} (hL : Acc L) (hM : Acc M) (h : RelV s L M) {sg sg' : Int} {x : Entry} (hk : x.kind = 5) (hx : doE sg L x = 0) (hs : x.g.frm = s ∨ x.g.to = s) :
    doE sg' M (turnE (((giftL M).length + 1 : Nat) : Int) (idV s (giftL L) x.g.returns) x) = 0 ∧ RelV s (L ++ [x]) (M ++ [turnE (((giftL M).length + 1 : Nat) : Int) (idV s (giftL L) x.g.returns) x]) ∧
    idV s (giftL (L ++ [x])) x.g.id = (((giftL M).length + 1 : Nat) : Int) := by
  obtain ⟨hf, hl, hr⟩ := do_zero hx
  obtain ⟨hok, hw, hd⟩ := form_okE hf
  obtain ⟨g1, g2⟩ := offer_gift hk hx
  have hlen : (giftL M).length = cntV s (giftL L) := by rw [h.gifts, renL_length]
  have hcl : cntV s (giftL L) ≤ (giftL L).length := by unfold cntV; exact List.length_filter_le _ _
  have hidb := idV_le s (giftL L) x.g.returns
  have hlast := h.last
  have hvx : sidesB s x.g = true := by
    unfold sidesB
    rcases hs with e | e
    · rw [decide_eq_true e]; rfl
    · rw [decide_eq_true e, Bool.or_true]
  generalize hy : turnE (((giftL M).length + 1 : Nat) : Int) (idV s (giftL L) x.g.returns) x = y
  have yk : y.kind = 5 := by rw [← hy]; exact hk
  have yd : y.day = x.day := by rw [← hy]; rfl
  have yg : y.g = { x.g with id := (((giftL M).length + 1 : Nat) : Int), returns := idV s (giftL L) x.g.returns } := by rw [← hy]; rfl
  -- what was asked of the offer
  have hr5 : offeredE L x.g = 0 := by
    unfold refusedE at hr
    rw [if_neg (by omega), if_neg (by omega), if_pos hk] at hr
    exact hr
  unfold offeredE at hr5
  split at hr5
  · cases hr5
  rename_i r1
  split at hr5
  · cases hr5
  split at hr5
  · cases hr5
  rename_i r3
  split at hr5
  · cases hr5
  rename_i r4
  split at hr5
  · cases hr5
  rename_i r5
  split at hr5
  · cases hr5
  rename_i r6
  have hform : formX y = true := by
    unfold okE at hok
    rw [if_neg (by omega), if_neg (by omega), if_neg (by omega), if_neg (by omega), if_pos hk] at hok
    unfold formX
    rw [Bool.and_eq_true, Bool.and_eq_true]
    refine ⟨⟨?_, decide_eq_true ?_⟩, ?_⟩
    · unfold okE
      rw [if_neg (by omega), if_neg (by omega), if_neg (by omega), if_neg (by omega), if_pos yk, yg, yd]
      unfold rightG at hok ⊢
      simp only [Bool.and_eq_true, decide_eq_true_eq, Bool.not_eq_true', decide_eq_false_iff_not] at hok ⊢
      obtain ⟨⟨⟨⟨⟨⟨⟨⟨f1, f2⟩, f3⟩, f4⟩, f5⟩, f6⟩, f7⟩, f8⟩, f9⟩ := hok
      exact ⟨⟨⟨⟨⟨⟨⟨⟨by omega, f2⟩, f3⟩, f4⟩, by omega⟩, by omega⟩, f7⟩, f8⟩, f9⟩
    · have hw' : x = ⟨x.kind, x.day, waivZ, plainG x.g, 0, 0, 0⟩ := by
        unfold wantE at hw
        rw [if_neg (by omega), if_neg (by omega), if_neg (by omega), if_pos hk] at hw
        exact hw
      have h1 := congrArg Entry.w hw'
      have h2 := congrArg Entry.g hw'
      have h3 := congrArg Entry.a hw'
      have h4 := congrArg Entry.b hw'
      have h5 := congrArg Entry.n hw'
      simp only at h1 h2 h3 h4 h5
      have q1 := congrArg Gift.worth h2
      have q2 := congrArg Gift.state h2
      have q3 := congrArg Gift.answered h2
      unfold plainG at q1 q2 q3
      simp only at q1 q2 q3
      unfold wantE
      rw [if_neg (by omega), if_neg (by omega), if_neg (by omega), if_pos yk]
      rw [← hy]
      unfold turnE plainG
      rw [h1, h3, h4, h5]
      simp only [q1, q2, q3]
    · rw [yd]; exact decide_eq_true hd
  have hdo : doE sg' M y = 0 := by
    unfold doE
    rw [if_neg (by rw [hform]; decide), if_neg (by omega)]
    unfold refusedE
    rw [if_neg (by omega), if_neg (by omega), if_pos yk, yg]
    unfold offeredE
    rw [if_neg (by omega), if_neg (by simp), if_neg (by rw [h.rate]; exact r3), if_neg (by simp only; omega), if_neg, if_neg (by rw [h.ceil, h.rate]; exact r6)]
    rintro ⟨h1, h2⟩
    simp only at h1 h2
    by_cases hz : 1 ≤ x.g.returns
    · obtain ⟨k, hkl, he⟩ := num_of (n := (giftL L).length) (i := x.g.returns) hz (by omega)
      rw [he, atN_get hkl] at r5
      have r5' : (giftL L)[k].frm = x.g.to ∧ (giftL L)[k].to = x.g.frm ∧ (giftL L)[k].returns = 0 ∧ (giftL L)[k].state = 2 := Decidable.byContradiction fun hn => r5 ⟨by omega, hn⟩
      have hv : sidesB s (giftL L)[k] = true := by
        unfold sidesB
        rw [r5'.1, r5'.2.1, Bool.or_comm]; exact hvx
      obtain ⟨hm, hat⟩ := ren_at h hkl hv
      rw [he, idV_at hkl, if_pos hv, atN_get hm, hat] at h2
      refine h2 ⟨r5'.1, r5'.2.1, ?_, r5'.2.2.2⟩
      show idV s (giftL L) (giftL L)[k].returns = 0
      rw [r5'.2.2.1, idV_zero]
    · have : idV s (giftL L) x.g.returns = 0 := if_neg (fun hh => hz hh.1)
      omega
  obtain ⟨m1, m2⟩ := offer_gift yk hdo
  have hk5 : x.kind = 5 ∨ x.kind = 6 ∨ x.kind = 7 := .inl hk
  have hky5 : y.kind = 5 ∨ y.kind = 6 ∨ y.kind = 7 := .inl yk
  obtain ⟨w1, w2, w3, w4⟩ := plain_rest (es := L) hk5
  obtain ⟨v1, v2, v3, v4⟩ := plain_rest (es := M) hky5
  have hvg : sidesB s { x.g with worth := x.g.n * rateL L x.g.cur, state := 1 } = true := hvx
  have hid : idV s (giftL (L ++ [x])) x.g.id = (((giftL M).length + 1 : Nat) : Int) := by rw [g1, g2, idV_last, if_pos hvg, hlen]
  have hgift : giftL (M ++ [y]) = renL s (giftL (L ++ [x])) := by
    rw [m1, g1, renL_snoc (acc_ok hL).gifts, if_pos hvg, h.gifts, yg, h.rate]
    congr 2
    unfold renG
    simp only
    rw [g1] at hid
    rw [hid, idV_snoc (by omega), h.gifts]
  have hobs : seeX (waivL (M ++ [y])) (giftL (M ++ [y])) s y = seeX (waivL (L ++ [x])) (giftL (L ++ [x])) s x := by
    have hlx : (giftL L).length < (giftL (L ++ [x])).length := by rw [g1]; simp
    have hly : (giftL M).length < (giftL (M ++ [y])).length := by rw [m1]; simp
    rw [see_gift hk5 hlx g2, see_gift hky5 hly m2]
    have e1 : (giftL (L ++ [x]))[(giftL L).length] = { x.g with worth := x.g.n * rateL L x.g.cur, state := 1 } := by simp [g1]
    have e2 : (giftL (M ++ [y]))[(giftL M).length] = { y.g with worth := y.g.n * rateL M y.g.cur, state := 1 } := by simp [m1]
    have hvy : sidesB s { y.g with worth := y.g.n * rateL M y.g.cur, state := 1 } = true := by rw [yg]; exact hvx
    rw [e1, e2, if_pos hvg, if_pos hvy, yk, hk, yd, yg, h.rate]
  refine ⟨hdo, ⟨by rw [v1, w1]; exact h.waiv, by rw [v2, w2]; exact h.due, fun c => by rw [v3, w3]; exact h.rate c, fun c => by rw [v4, w4]; exact h.ceil c, by rw [lastDay_snoc, lastDay_snoc, yd]; exact Int.le_refl _, hgift, ?_⟩, hid⟩
  rw [obs_snoc hL hx, obs_snoc hM hdo, h.obs, hobs]

end Go.Proofs.YtcnbpfecgokhiaaGreatDoor

namespace Go.Proofs.YtcnbpfecgokhiaaGreatDoor

structure OrdB {α : Type} (lt : α → α → Bool) : Prop where
  asym : ∀ x y, lt x y = true → lt y x = false
  ntr : ∀ x y z, lt y x = false → lt z y = false → lt z x = false
abbrev SortedB {α : Type} (lt : α → α → Bool) (l : List α) : Prop := l.Pairwise fun x y => lt y x = false

section
variable {α : Type} {lt : α → α → Bool}

theorem swap_split {P Y S : List α} {x y : α} : ((P ++ x :: (Y ++ y :: S)).set P.length y).set (P.length + 1 + Y.length) x = P ++ y :: (Y ++ x :: S) := by
  rw [List.set_append_right _ _ (Nat.le_refl _), Nat.sub_self, List.set_cons_zero, List.set_append_right _ _ (by omega), show P.length + 1 + Y.length - P.length = Y.length + 1 by omega, List.set_cons_succ, List.set_append_right _ _ (Nat.le_refl _), Nat.sub_self, List.set_cons_zero]
theorem get_mid {P S : List α} {x : α} (h : P.length < (P ++ x :: S).length) : (P ++ x :: S)[P.length] = x := by simp
theorem get_mid2 {P Y S : List α} {x y : α} {k : Nat} (hk : k = P.length + 1 + Y.length) (h : k < (P ++ x :: (Y ++ y :: S)).length) : (P ++ x :: (Y ++ y :: S))[k] = y := by
  subst hk
  rw [List.getElem_append_right (by omega)]
  simp only [show P.length + 1 + Y.length - P.length = Y.length + 1 by omega, List.getElem_cons_succ]
  rw [List.getElem_append_right (Nat.le_refl _)]
  simp

theorem sorted_insert {M1 M2 : List α} {x : α} (h : SortedB lt (M1 ++ M2)) (h1 : ∀ z ∈ M1, lt x z = false) (h2 : ∀ z ∈ M2, lt z x = false) : SortedB lt (M1 ++ x :: M2) := by
  obtain ⟨a, b, c⟩ := List.pairwise_append.1 h
  refine List.pairwise_append.2 ⟨a, List.pairwise_cons.2 ⟨fun z hz => h2 z hz, b⟩, fun z hz y hy => ?_⟩
  rcases List.mem_cons.1 hy with rfl | hy
  · exact h1 z hz
  · exact c z hz y hy
theorem sorted_last (O : OrdB lt) {M : List α} {x y : α} (h : SortedB lt (M ++ [y])) (hx : lt x y = false) : ∀ z ∈ M ++ [y], lt x z = false := by
  intro z hz
  obtain ⟨_, _, c⟩ := List.pairwise_append.1 h
  rcases List.mem_append.1 hz with hz | hz
  · exact O.ntr z y x (c z hz y (by simp)) hx
  · rw [List.mem_singleton.1 hz]; exact hx
theorem sorted_at {l : List α} (h : SortedB lt l) {i j : Nat} (hi : i < l.length) (hj : j < l.length) (hij : i < j) : lt l[j] l[i] = false := List.pairwise_iff_getElem.1 h i j hi hj hij
theorem sorted_le (O : OrdB lt) {l : List α} (h : SortedB lt l) {i j : Nat} (hi : i < l.length) (hj : j < l.length) (hij : i ≤ j) : lt l[j] l[i] = false := by
  rcases Nat.lt_or_ge i j with h' | h'
  · exact sorted_at h hi hj h'
  · obtain rfl : i = j := by omega
    cases e : lt l[i] l[i] with
    | false => rfl
    | true => exact absurd (O.asym _ _ e) (by rw [e]; decide)

/-- What a search finds: all before it are below, all from it on are not. -/
theorem search_yes (O : OrdB lt) {l : List α} (h : SortedB lt l) {x : α} {k : Nat} (hk : k < l.length) (hx : lt l[k] x = true) {t : Nat} (ht : t ≤ k) : lt (l[t]'(by omega)) x = true := by
  cases e : lt (l[t]'(by omega)) x with
  | true => rfl
  | false =>
    have h1 := sorted_le O h (by omega : t < l.length) hk ht
    have := O.ntr x _ _ e h1
    rw [hx] at this; cases this
theorem search_no (O : OrdB lt) {l : List α} (h : SortedB lt l) {x : α} {k : Nat} (hk : k < l.length) (hx : lt l[k] x = false) {t : Nat} (ht : k ≤ t) (htl : t < l.length) : lt l[t] x = false :=
  O.ntr x _ _ hx (sorted_le O h hk htl ht)
theorem search_yes' (O : OrdB lt) {l : List α} (h : SortedB lt l) {x : α} {k : Nat} (hk : k < l.length) (hx : lt x l[k] = false) {t : Nat} (ht : t ≤ k) : lt x (l[t]'(by omega)) = false :=
  O.ntr _ _ x (sorted_le O h (by omega : t < l.length) hk ht) hx
theorem search_no' (O : OrdB lt) {l : List α} (h : SortedB lt l) {x : α} {k : Nat} (hk : k < l.length) (hx : lt x l[k] = true) {t : Nat} (ht : k ≤ t) (htl : t < l.length) : lt x l[t] = true := by
  cases e : lt x l[t] with
  | true => rfl
  | false =>
    have h1 := sorted_le O h hk htl ht
    have := O.ntr _ _ x h1 e
    rw [hx] at this; cases this

theorem mem_take_at {l : List α} {k : Nat} {z : α} (h : z ∈ l.take k) : ∃ t, ∃ ht : t < l.length, t < k ∧ z = l[t] := by
  obtain ⟨t, ht, rfl⟩ := List.getElem_of_mem h
  rw [List.length_take] at ht
  exact ⟨t, by omega, by omega, by rw [List.getElem_take]⟩
theorem mem_drop_at {l : List α} {k : Nat} {z : α} (h : z ∈ l.drop k) : ∃ t, ∃ ht : t < l.length, k ≤ t ∧ z = l[t] := by
  obtain ⟨t, ht, rfl⟩ := List.getElem_of_mem h
  rw [List.length_drop] at ht
  exact ⟨k + t, by omega, by omega, by rw [List.getElem_drop]⟩

/-- One element into a sorted list. -/
theorem merge_one (O : OrdB lt) {B : List α} (h : SortedB lt B) {x : α} {k : Nat} (h1 : ∀ t (ht : t < B.length), t < k → lt B[t] x = true) (h2 : ∀ t (ht : t < B.length), k ≤ t → lt B[t] x = false) : SortedB lt (B.take k ++ x :: B.drop k) := by
  refine sorted_insert (by rw [List.take_append_drop]; exact h) (fun z hz => ?_) (fun z hz => ?_)
  · obtain ⟨t, ht, hk, rfl⟩ := mem_take_at hz
    exact O.asym _ _ (h1 t ht hk)
  · obtain ⟨t, ht, hk, rfl⟩ := mem_drop_at hz
    exact h2 t ht hk
theorem merge_one' (O : OrdB lt) {A : List α} (h : SortedB lt A) {x : α} {k : Nat} (h1 : ∀ t (ht : t < A.length), t < k → lt x A[t] = false) (h2 : ∀ t (ht : t < A.length), k ≤ t → lt x A[t] = true) : SortedB lt (A.take k ++ x :: A.drop k) := by
  refine sorted_insert (by rw [List.take_append_drop]; exact h) (fun z hz => ?_) (fun z hz => ?_)
  · obtain ⟨t, ht, hk, rfl⟩ := mem_take_at hz
    exact h1 t ht hk
  · obtain ⟨t, ht, hk, rfl⟩ := mem_drop_at hz
    exact O.asym _ _ (h2 t ht hk)

/-- Two halves whose middles are turned. -/
theorem merge_halves {A1 A2 B1 B2 X Y : List α} (h1 : ∀ x ∈ A1, ∀ y ∈ B2, lt y x = false) (h2 : ∀ x ∈ B1, ∀ y ∈ A2, lt y x = false) (hA : SortedB lt (A1 ++ A2)) (hB : SortedB lt (B1 ++ B2))
    (hX : SortedB lt X) (hXp : X.Perm (A1 ++ B1)) (hY : SortedB lt Y) (hYp : Y.Perm (A2 ++ B2)) : SortedB lt (X ++ Y) ∧ (X ++ Y).Perm (A1 ++ A2 ++ (B1 ++ B2)) := by
  obtain ⟨_, _, cA⟩ := List.pairwise_append.1 hA
  obtain ⟨_, _, cB⟩ := List.pairwise_append.1 hB
  refine ⟨List.pairwise_append.2 ⟨hX, hY, fun x hx y hy => ?_⟩, ?_⟩
  · rcases List.mem_append.1 (hXp.mem_iff.1 hx) with hx | hx <;> rcases List.mem_append.1 (hYp.mem_iff.1 hy) with hy | hy
    · exact cA x hx y hy
    · exact h1 x hx y hy
    · exact h2 x hx y hy
    · exact cB x hx y hy
  · refine (hXp.append hYp).trans ?_
    rw [List.append_assoc, List.append_assoc]
    refine List.Perm.append_left A1 ?_
    rw [← List.append_assoc, ← List.append_assoc]
    exact List.Perm.append_right B2 List.perm_append_comm

/-- The blocks of a size are sorted. -/
def BlocksB (lt : α → α → Bool) (s : Nat) (l : List α) : Prop := ∀ i j (hi : i < l.length) (hj : j < l.length), i < j → i / s = j / s → lt l[j] l[i] = false

end
end Go.Proofs.YtcnbpfecgokhiaaGreatDoor
