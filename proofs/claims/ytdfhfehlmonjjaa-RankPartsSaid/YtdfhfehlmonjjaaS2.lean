/- rank.Restrict. -/
import Derived.Test.YtdfhfehlmonjjaaS1
namespace Go.Proofs.Ytdfhfehlmonjjaa
open Go.Eng Go.RowKit

def posOf (l : List Int) (q : Int) : Option Nat := l.findIdx? fun k => decide (k = q)
theorem posOf_snoc {l : List Int} {q : Int} (h : q ∉ l) (p : Int) : posOf (l ++ [q]) p = if p = q then some l.length else posOf l p := by
  unfold posOf
  rw [List.findIdx?_append]
  by_cases e : p = q
  · subst e
    have : l.findIdx? (fun k => decide (k = p)) = none := by
      rw [List.findIdx?_eq_none_iff]
      intro x hx
      exact decide_eq_false fun e => h (e ▸ hx)
    rw [this, if_pos rfl]
    simp [List.findIdx?_cons]
  · rw [if_neg e]
    have : ([q].findIdx? fun k => decide (k = p)) = none := by
      rw [List.findIdx?_eq_none_iff]
      intro x hx
      have : x = q := by simpa using hx
      exact decide_eq_false fun h => e (by omega)
    rw [this]
    simp
theorem posOf_some {l : List Int} (hn : l.Nodup) {q : Int} {i : Nat} : posOf l q = some i ↔ ∃ h : i < l.length, l[i] = q := by
  unfold posOf
  rw [List.findIdx?_eq_some_iff_getElem]
  constructor
  · rintro ⟨h, h1, _⟩
    exact ⟨h, of_decide_eq_true h1⟩
  · rintro ⟨h, rfl⟩
    refine ⟨h, decide_eq_true rfl, fun j hj hd => ?_⟩
    have e := of_decide_eq_true hd
    exact (List.pairwise_iff_getElem.1 hn) j i (by omega) h hj e
theorem posOf_isSome {l : List Int} {q : Int} : (posOf l q).isSome = decide (q ∈ l) := by
  unfold posOf
  rw [List.findIdx?_isSome]
  rw [Bool.eq_iff_iff, List.any_eq_true, decide_eq_true_eq]
  constructor
  · rintro ⟨x, hx, he⟩
    rw [← of_decide_eq_true he]; exact hx
  · exact fun h => ⟨q, h, decide_eq_true rfl⟩

/-- An arrow of the parent, as it stands in the part. -/
def mapA (keep : List Int) (x : Arrow) : Option Arrow := (posOf keep x.fr).bind fun (a : Nat) => (posOf keep x.to).map fun (b : Nat) => (⟨(a : Int), (b : Int), x.rule, x.wt⟩ : Arrow)
def mapsR (keep : List Int) (xs : List Arrow) : List Arrow := xs.filterMap (mapA keep)
theorem mapsR_take {keep : List Int} {xs : List Arrow} {i : Nat} (hi : i < xs.length) : mapsR keep (xs.take (i + 1)) = mapsR keep (xs.take i) ++ (mapA keep xs[i]).toList := by
  unfold mapsR
  rw [List.take_succ_eq_append_getElem hi, List.filterMap_append, List.filterMap_cons, List.filterMap_nil]
  cases mapA keep xs[i] <;> rfl
theorem mapsR_length (keep : List Int) (xs : List Arrow) : (mapsR keep xs).length ≤ xs.length := List.length_filterMap_le _ _

theorem keepErr_zero {N : Int} : ∀ {keep seen : List Int}, keepErr N seen keep = 0 → (∀ a ∈ keep, inR N a = true) ∧ keep.Nodup ∧ ∀ a ∈ keep, a ∉ seen := by
  intro keep
  induction keep with
  | nil => intro seen _; exact ⟨fun _ h => (by cases h), List.nodup_nil, fun _ h => (by cases h)⟩
  | cons a r ih =>
    intro seen h
    rw [keepErr] at h
    split at h
    · rename_i h1
      split at h
      · cases h
      · rename_i h2
        obtain ⟨k1, k2, k3⟩ := ih h
        refine ⟨fun b hb => ?_, List.nodup_cons.2 ⟨fun ha => k3 a ha (by simp), k2⟩, fun b hb => ?_⟩
        · rcases List.mem_cons.1 hb with rfl | hb
          · exact h1
          · exact k1 b hb
        · rcases List.mem_cons.1 hb with rfl | hb
          · exact h2
          · exact fun hs => k3 b hb (by simp [hs])
    · cases h

theorem mem_restrict {N : Int} {xs : List Arrow} (hok : Valid N xs) {keep : List Int} {x : Arrow} :
    x ∈ restrictL N xs keep ↔ ∃ (a b : Nat) (ha : a < keep.length) (hb : b < keep.length), ∃ y ∈ xs, y.fr = keep[a] ∧ y.to = keep[b] ∧ x = ⟨(a : Int), (b : Int), y.rule, y.wt⟩ := by
  unfold restrictL listR rowR
  simp only [List.mem_flatMap, List.mem_range, List.mem_filterMap, Option.map_eq_some_iff]
  constructor
  · rintro ⟨a, ha, b, hb, y, hy, rfl⟩
    have ga : keep.getD a 0 = keep[a] := by simp [List.getD_eq_getElem?_getD, ha]
    have gb : keep.getD b 0 = keep[b] := by simp [List.getD_eq_getElem?_getD, hb]
    rw [ga, gb, arrowS, if_pos hok.chk] at hy
    have h1 := List.find?_some hy
    have h2 := List.mem_of_find?_eq_some hy
    have h1 := of_decide_eq_true h1
    exact ⟨a, b, ha, hb, y, h2, h1.1, h1.2, rfl⟩
  · rintro ⟨a, b, ha, hb, y, hy, h1, h2, rfl⟩
    have ga : keep.getD a 0 = keep[a] := by simp [List.getD_eq_getElem?_getD, ha]
    have gb : keep.getD b 0 = keep[b] := by simp [List.getD_eq_getElem?_getD, hb]
    refine ⟨a, ha, b, hb, y, ?_, rfl⟩
    obtain ⟨i, hi, rfl⟩ := List.getElem_of_mem hy
    rw [ga, gb, arrowS, if_pos hok.chk, findA_of hok hi ⟨h1, h2⟩]

theorem mem_mapsR {xs : List Arrow} {keep : List Int} (hn : keep.Nodup) {x : Arrow} :
    x ∈ mapsR keep xs ↔ ∃ (a b : Nat) (ha : a < keep.length) (hb : b < keep.length), ∃ y ∈ xs, y.fr = keep[a] ∧ y.to = keep[b] ∧ x = ⟨(a : Int), (b : Int), y.rule, y.wt⟩ := by
  unfold mapsR mapA
  simp only [List.mem_filterMap, Option.bind_eq_some_iff, Option.map_eq_some_iff]
  constructor
  · rintro ⟨y, hy, a, ha, b, hb, rfl⟩
    obtain ⟨ha, e1⟩ := (posOf_some hn).1 ha
    obtain ⟨hb, e2⟩ := (posOf_some hn).1 hb
    exact ⟨a, b, ha, hb, y, hy, e1.symm, e2.symm, rfl⟩
  · rintro ⟨a, b, ha, hb, y, hy, e1, e2, rfl⟩
    exact ⟨y, hy, a, (posOf_some hn).2 ⟨ha, e1.symm⟩, b, (posOf_some hn).2 ⟨hb, e2.symm⟩, rfl⟩

theorem restrict_sorted (N : Int) (xs : List Arrow) (keep : List Int) : (restrictL N xs keep).Pairwise fun a b => ltA a b = true := by
  unfold restrictL listR
  rw [List.pairwise_flatMap]
  have key : ∀ a (x : Arrow), x ∈ rowR N xs keep a keep.length → x.fr = a := by
    intro a x hx
    simp only [rowR, List.mem_filterMap, Option.map_eq_some_iff] at hx
    obtain ⟨b, _, y, _, rfl⟩ := hx
    rfl
  refine ⟨fun a _ => ?_, List.pairwise_lt_range.imp fun {a b} hab x hx y hy => ?_⟩
  · unfold rowR
    rw [List.pairwise_filterMap]
    refine List.pairwise_lt_range.imp fun {b c} hbc x hx y hy => ?_
    rw [Option.map_eq_some_iff] at hx hy
    obtain ⟨_, _, rfl⟩ := hx
    obtain ⟨_, _, rfl⟩ := hy
    rw [ltA_iff]
    exact .inr ⟨rfl, by show (b : Int) < c; omega⟩
  · rw [ltA_iff, key a x hx, key b y hy]
    exact .inl (by omega)

/-- The sorted row of mapped arrows is the restriction, told from the place of each pair. -/
theorem sorted_restrict {N : Int} {xs : List Arrow} (hok : Valid N xs) {keep : List Int} (hn : keep.Nodup) {l' : List Arrow} (hp : l'.Perm (mapsR keep xs)) (hs : l'.Pairwise fun a b => ltA b a = false) : l' = restrictL N xs keep := by
  have hmem : ∀ x, x ∈ mapsR keep xs ↔ x ∈ restrictL N xs keep := fun x => (mem_mapsR hn).trans (mem_restrict hok).symm
  have hrs := restrict_sorted N xs keep
  have hrn : (restrictL N xs keep).Nodup := hrs.imp fun {a b} h e => by subst e; rw [ltA_iff] at h; omega
  have same : ∀ x y : Arrow, x ∈ restrictL N xs keep → y ∈ restrictL N xs keep → x.fr = y.fr → x.to = y.to → x = y := by
    intro x y hx hy e1 e2
    obtain ⟨a, b, ha, hb, u, hu, u1, u2, rfl⟩ := (mem_restrict hok).1 hx
    obtain ⟨c, d, hc, hd, v, hv, v1, v2, rfl⟩ := (mem_restrict hok).1 hy
    have e1 : (a : Int) = c := e1
    have e2 : (b : Int) = d := e2
    obtain rfl : a = c := by omega
    obtain rfl : b = d := by omega
    obtain ⟨i, hi, rfl⟩ := List.getElem_of_mem hu
    obtain ⟨j, hj, rfl⟩ := List.getElem_of_mem hv
    have h1 := findA_of hok hi ⟨u1, u2⟩
    rw [findA_of hok hj ⟨v1, v2⟩] at h1
    injection h1 with h1
    rw [h1]
  have hmn : (mapsR keep xs).Nodup := by
    unfold mapsR
    refine List.Pairwise.filterMap _ ?_ hok.sorted
    intro x y hxy u hu v hv e
    subst e
    unfold mapA at hu hv
    simp only [Option.bind_eq_some_iff, Option.map_eq_some_iff] at hu hv
    obtain ⟨a, ha, b, hb, rfl⟩ := hu
    obtain ⟨c, hc, d, hd, e⟩ := hv
    injection e with e1 e2
    obtain rfl : a = c := by omega
    obtain rfl : b = d := by omega
    obtain ⟨_, x1⟩ := (posOf_some hn).1 ha
    obtain ⟨_, x2⟩ := (posOf_some hn).1 hb
    obtain ⟨_, y1⟩ := (posOf_some hn).1 hc
    obtain ⟨_, y2⟩ := (posOf_some hn).1 hd
    rw [ltA_iff] at hxy
    omega
  have hpr : l'.Perm (restrictL N xs keep) := hp.trans ((List.perm_ext_iff_of_nodup hmn hrn).2 hmem)
  refine List.Perm.eq_of_pairwise (le := fun a b => ltA b a = false) (fun a b ha hb h1 h2 => ?_) hs (hrs.imp fun {a b} h => ?_) hpr
  · have n1 : ¬ (b.fr < a.fr ∨ b.fr = a.fr ∧ b.to < a.to) := fun h => by rw [← ltA_iff, h1] at h; cases h
    have n2 : ¬ (a.fr < b.fr ∨ a.fr = b.fr ∧ a.to < b.to) := fun h => by rw [← ltA_iff, h2] at h; cases h
    exact same a b (hpr.mem_iff.1 ha) hb (by omega) (by omega)
  · rw [ltA_iff] at h
    cases hh : ltA b a with
    | false => rfl
    | true => rw [ltA_iff] at hh; omega

def PlaceIs (w : World) (g : Nat) (l : List Int) : Prop := ∃ f, MapIs C.P 3 w g f ∧ ∀ q : Int, f (.int .i64 q) = (posOf l q).map fun k => .int .i64 (k : Int)
theorem PlaceIs.snoc {w : World} {g : Nat} {l : List Int} {q : Int} {f : Value → Option Value} (hf : ∀ q : Int, f (.int .i64 q) = (posOf l q).map fun k => .int .i64 (k : Int)) (hq : q ∉ l) (h : MapIs C.P 3 w g (updV f (.int .i64 q) (.int .i64 l.length))) : PlaceIs w g (l ++ [q]) := by
  refine ⟨_, h, fun p => ?_⟩
  rw [posOf_snoc hq]
  unfold updV
  by_cases e : p = q
  · subst e; rw [if_pos rfl, if_pos rfl]; rfl
  · rw [if_neg (fun h => e (by injection h)), if_neg e, hf]

end Go.Proofs.Ytdfhfehlmonjjaa
