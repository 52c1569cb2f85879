/- The law RankParts. -/
import Derived.Test.YtdfhfehlmonjjaaS4
namespace Go.Proofs.Ytdfhfehlmonjjaa
open Go.Eng Go.RowKit

theorem nodup_le : ∀ (n : Nat) (l : List Int), l.Nodup → (∀ x ∈ l, 0 ≤ x ∧ x < n) → l.length ≤ n
  | 0, l, _, h => by
    cases l with
    | nil => simp
    | cons x r => have := h x (by simp); omega
  | n + 1, l, hn, h => by
    have h1 := nodup_le n (l.erase (n : Int)) (hn.erase _) (fun x hx => by
      have hx := (hn.mem_erase_iff).1 hx
      have h2 := h x hx.2
      have h3 := hx.1
      omega)
    have h2 := List.length_erase (a := (n : Int)) (l := l)
    split at h2 <;> omega

section
variable {N : Int} {xs : List Arrow} {keep : List Int}

theorem keep_len (hok : Valid N xs) (hin : ∀ a ∈ keep, inR N a = true) (hn : keep.Nodup) : keep.length ≤ 24 := by
  have hhi := hok.hi
  refine nodup_le 24 keep hn fun x hx => ?_
  have := of_decide_eq_true (hin x hx)
  omega

theorem restrict_valid (hok : Valid N xs) (hin : ∀ a ∈ keep, inR N a = true) (hn : keep.Nodup) : Valid (keep.length : Nat) (restrictL N xs keep) := by
  have hk := keep_len hok hin hn
  refine valid_of (by omega) (by omega) (fun x hx => ?_) (restrict_sorted N xs keep)
  obtain ⟨a, b, ha, hb, y, hy, e1, e2, rfl⟩ := (mem_restrict hok).1 hx
  obtain ⟨k1, k2, k3, k4, k5, k6, k7, k8, k9⟩ := goodA_spec (hok.goodAll y hy)
  simp only [goodA, Bool.and_eq_true, decide_eq_true_eq, Bool.not_eq_true', decide_eq_false_iff_not]
  refine ⟨⟨⟨⟨⟨by omega, by omega⟩, by omega, by omega⟩, ?_⟩, k6, k7⟩, k8, k9⟩
  intro e
  have e : a = b := by omega
  subst e
  exact k5 (by omega)

theorem arrow_restrict (hok : Valid N xs) (hin : ∀ a ∈ keep, inR N a = true) (hn : keep.Nodup) {i j : Nat} (hi : i < keep.length) (hj : j < keep.length) :
    arrowS (keep.length : Nat) (restrictL N xs keep) i j = (arrowS N xs keep[i] keep[j]).map fun x => (⟨(i : Int), (j : Int), x.rule, x.wt⟩ : Arrow) := by
  have hv := restrict_valid hok hin hn
  have hr : arrowS N xs keep[i] keep[j] = findA xs keep[i] keep[j] := by rw [arrowS, if_pos hok.chk]
  rw [arrowS, if_pos hv.chk, hr]
  cases hq : findA xs keep[i] keep[j] with
  | some y =>
    have h1 := List.find?_some hq
    have h1 := of_decide_eq_true h1
    have h2 := List.mem_of_find?_eq_some hq
    have hm : (⟨(i : Int), (j : Int), y.rule, y.wt⟩ : Arrow) ∈ restrictL N xs keep := (mem_restrict hok).2 ⟨i, j, hi, hj, y, h2, h1.1, h1.2, rfl⟩
    obtain ⟨k, hk, e⟩ := List.getElem_of_mem hm
    rw [findA_of hv hk (by rw [e]; exact ⟨rfl, rfl⟩), e]
    rfl
  | none =>
    refine findA_none fun k hk hh => ?_
    obtain ⟨a, b, ha, hb, y, hy, e1, e2, e⟩ := (mem_restrict hok).1 (List.getElem_mem hk)
    rw [e] at hh
    obtain ⟨h1, h2⟩ := hh
    have h1 : (a : Int) = i := h1
    have h2 : (b : Int) = j := h2
    obtain rfl : a = i := by omega
    obtain rfl : b = j := by omega
    obtain ⟨m, hm, rfl⟩ := List.getElem_of_mem hy
    rw [findA_of hok hm ⟨e1, e2⟩] at hq
    cases hq

theorem toM_restrict (hok : Valid N xs) {a b : Nat} (h : toM (restrictL N xs keep) a b = true) : toM xs (keep.getD a 0).toNat (keep.getD b 0).toNat = true := by
  unfold toM at *
  obtain ⟨x, hx, hd⟩ := List.any_eq_true.1 h
  obtain ⟨p, q, hp, hq, y, hy, e1, e2, rfl⟩ := (mem_restrict hok).1 hx
  have hd := of_decide_eq_true hd
  have h1 : (p : Int) = a := hd.1
  have h2 : (q : Int) = b := hd.2
  obtain rfl : p = a := by omega
  obtain rfl : q = b := by omega
  have ga : keep.getD p 0 = keep[p] := by simp [List.getD_eq_getElem?_getD, hp]
  have gb : keep.getD q 0 = keep[q] := by simp [List.getD_eq_getElem?_getD, hq]
  obtain ⟨k1, k2, k3, k4, _⟩ := goodA_spec (hok.goodAll y hy)
  refine List.any_eq_true.2 ⟨y, hy, decide_eq_true ?_⟩
  rw [ga, gb]
  omega

def namesL (keep : List Int) (l : List Int) : List Int := l.map fun p => keep.getD p.toNat 0

theorem chain_restrict (hok : Valid N xs) (hin : ∀ a ∈ keep, inR N a = true) {i j : Nat} (hi : i < keep.length) (hj : j < keep.length) {l : List Int} (h : checkS (keep.length : Nat) (restrictL N xs keep) i j l = true) :
    (∀ p ∈ l, 0 ≤ p ∧ p < (keep.length : Nat)) ∧ checkS N xs keep[i] keep[j] (namesL keep l) = true := by
  unfold checkS chainOk at h
  simp only [Bool.and_eq_true, decide_eq_true_eq, Bool.not_eq_true', decide_eq_false_iff_not] at h
  obtain ⟨_, ⟨⟨⟨⟨_, hall⟩, h2⟩, hhead⟩, hlast⟩, hlinks⟩ := h
  have hmem : ∀ p ∈ l, 0 ≤ p ∧ p < (keep.length : Nat) := fun p hp => by
    have := of_decide_eq_true (List.all_eq_true.1 hall p hp)
    omega
  have gi : keep.getD (i : Int).toNat 0 = keep[i] := by simp [List.getD_eq_getElem?_getD, hi]
  have gj : keep.getD (j : Int).toNat 0 = keep[j] := by simp [List.getD_eq_getElem?_getD, hj]
  refine ⟨hmem, ?_⟩
  unfold checkS chainOk
  have a1 : (namesL keep l).all (inR N) = true := by
    rw [List.all_eq_true]
    intro z hz
    obtain ⟨p, hp, rfl⟩ := List.mem_map.1 hz
    have h3 := hmem p hp
    have h4 : p.toNat < keep.length := by omega
    have : keep.getD p.toNat 0 = keep[p.toNat] := by simp [List.getD_eq_getElem?_getD, h4]
    rw [this]
    exact hin _ (List.getElem_mem h4)
  have a2 : ¬ (namesL keep l).length < 2 := by rw [namesL, List.length_map]; exact h2
  have a3 : (namesL keep l).head? = some keep[i] := by rw [namesL, List.head?_map, hhead, Option.map_some, gi]
  have a4 : (namesL keep l).getLast? = some keep[j] := by rw [namesL, List.getLast?_map, hlast, Option.map_some, gj]
  have a5 : linksB (toM xs) (namesL keep l) = true := by
    rw [linksB_at]
    intro k hk
    have hk' : k + 1 < l.length := by rw [namesL, List.length_map] at hk; exact hk
    have := toM_restrict hok (linksB_at.1 hlinks k hk')
    simp only [namesL, List.getElem_map]
    exact this
  rw [a1, a3, a4, a5, hok.chk, decide_eq_false a2, show inR N keep[i] = true from hin _ (List.getElem_mem hi), show inR N keep[j] = true from hin _ (List.getElem_mem hj)]
  simp
end

theorem chain_len {N : Int} {xs : List Arrow} {a b : Int} : ((chainS N xs a b).getD []).length ≤ 25 := by
  unfold chainS
  split
  · rename_i hc
    obtain ⟨hv, _, hr⟩ := hc
    have hok := valid_of_chk hv
    have hhi := hok.hi
    have hlo := hok.lo
    have h1 := chainL_length hok.inside (by omega) (reach_iff.1 hr)
    have h2 := dist_le hok.inside b.toNat a.toNat
    show (chainL (toM xs) a.toNat b.toNat).length ≤ 25
    omega
  · simp

theorem namesL_take {keep l : List Int} {k : Nat} (hk : k < l.length) : namesL keep (l.take (k + 1)) = namesL keep (l.take k) ++ [keep.getD l[k].toNat 0] := by
  unfold namesL
  rw [List.take_succ_eq_append_getElem hk, List.map_append]; rfl

end Go.Proofs.Ytdfhfehlmonjjaa
