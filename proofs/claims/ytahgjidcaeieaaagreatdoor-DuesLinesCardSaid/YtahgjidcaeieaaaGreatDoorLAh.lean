/- a part of the proof: steps, walks and plain laws that the law below stands on; no condition. -/
import Derived.Test.YtahgjidcaeieaaaGreatDoorLAa
import Derived.Test.YtahgjidcaeieaaaGreatDoorLAb
import Derived.Test.YtahgjidcaeieaaaGreatDoorLAc
import Derived.Test.YtahgjidcaeieaaaGreatDoorLAd
import Derived.Test.YtahgjidcaeieaaaGreatDoorLAe
import Derived.Test.YtahgjidcaeieaaaGreatDoorLAf
import Derived.Test.YtahgjidcaeieaaaGreatDoorLAg
import Derived.Scope
import Derived.Laws.StructEq
import Derived.Sort.Walk0
import Derived.Ground.SlsfProg
set_option linter.unusedVariables false
set_option linter.unusedSimpArgs false
set_option linter.unnecessarySimpa false
set_option linter.unusedSectionVars false
namespace Go.Eng
open Go.RowKit Go.Sort
abbrev enc1 (n : Int) : List Value := [.int .i64 n]
theorem ints_flat : ∀ (xs : List Int), xs.flatMap enc1 = ints xs
  | [] => rfl
  | x :: r => by rw [List.flatMap_cons, ints_flat r]; rfl
theorem getI_flat (d : Array Int) {j : Nat} (h : j < d.size) : (flatK enc1 1 d)[j]! = .int .i64 d[j]! := by
  rw [get_flatK enc1 1 d j (by omega), Nat.div_one, Nat.mod_one]
  rfl
theorem putRow_one (w : World) (blk off : Nat) (d : Array Int) : putRow (Value.int .i64) w blk off d = putRowK enc1 1 w blk off d := by
  unfold putRowK putRow
  congr 1
  funext c
  apply Array.ext_getElem?
  intro k
  simp only [putCells, Array.getElem?_mapIdx, size_flatK, Nat.mul_one]
  cases c[k]? with
  | none => rfl
  | some y =>
    simp only [Option.map_some]
    by_cases h : off ≤ k ∧ k < off + d.size
    · rw [if_pos h, if_pos h, getI_flat d (by omega)]; rfl
    · rw [if_neg h, if_neg h]
theorem holdsI_one {w : World} {blk off : Nat} {d : Array Int} (h : HoldsK enc1 1 w blk off d) : Holds (Value.int .i64) w blk off d := by
  intro j hj
  have := h j (by rw [size_flatK]; omega)
  rw [getI_flat d hj] at this
  exact this
end Go.Eng
namespace Go.Proofs.YtahgjidcaeieaaaGreatDoor
open Go.Eng Go.RowKit Go.Sort
theorem SortI_spec {w : World} {B : Nat} {v : Value} {l : List Int} (h : NewInts B w v l) (hl : l.length ≤ 2 ^ 40) :
    CallsV C.P 165 #[v] w fun r w' => r = .tuple #[] ∧ (∃ l', NewInts B w' v l' ∧ l'.Perm l ∧ l'.Pairwise (· ≤ ·)) ∧ w.grownBy w' v.ownBlock := by
  refine callsV_of_calls fun w₁ hs => ?_
  have h1 : w₁.ownsRow B 3 1 v l.length (ints l) := ownsRow_same hs h
  have turn : ∀ {w' : World} {row : Option Nat}, w₁.grownBy w' row → w.grownBy w' row := fun hg => ⟨hg.os.trans hs.os, hg.tape.trans hs.tape, hg.output.trans hs.output, by rw [← hs.heap]; exact hg.size, fun q hq hne => by rw [← hs.heap] at hq ⊢; exact hg.block q hq hne⟩
  by_cases h0 : l = []
  · subst h0
    obtain ⟨A, c, rfl, _, _⟩ := reads_of_owns h1
    refine (AnyM.slices_Sort_int_none sortI A c w₁).mono ?_
    rintro r w' ⟨rfl, rfl⟩
    exact ⟨_, rfl, ⟨rfl, ⟨[], h1, List.Perm.refl _, List.Pairwise.nil⟩, turn (grownBy_refl _ _)⟩, Nat.le_refl _⟩
  · have hpos : 0 < l.length := List.length_pos_iff.2 h0
    have hv : ∃ q cap, v = .slice (some ⟨q, 0, none⟩) l.length cap := by
      obtain ⟨_, ⟨hv, hn⟩ | ⟨q, cap, cur, hv, _⟩⟩ := h1
      · omega
      · exact ⟨q, cap, hv⟩
    obtain ⟨q, cap, rfl⟩ := hv
    rw [← ints_flat] at h1
    obtain ⟨hH, hlt, hB, hrow⟩ := sort_row (enc := enc1) (k := 1) (fun _ => rfl) h1
    refine (AnyM.slices_Sort_int sortI q 0 cap l w₁ (holdsI_one hH) hlt (by omega)).mono ?_
    rintro r w' ⟨rfl, n, os, rfl⟩
    have hperm := List.mergeSort_perm l fun x y => decide (x ≤ y)
    have hlen : (l.mergeSort fun x y => decide (x ≤ y)).length = l.length := hperm.length_eq
    obtain ⟨ho, hg, _⟩ := hrow (l.mergeSort fun x y => decide (x ≤ y)).toArray n os (by simpa using hlen)
    unfold sortWorldK at ho hg
    rw [← putRow_one] at ho hg
    refine ⟨_, rfl, ⟨rfl, ⟨_, ?_, hperm, ?_⟩, turn hg⟩, ?_⟩
    · show World.ownsRow _ B 3 1 _ (l.mergeSort fun x y => decide (x ≤ y)).length _
      rw [hlen, ← ints_flat]
      exact ho
    · refine (List.pairwise_mergeSort (le := fun x y => decide (x ≤ y)) (fun a b c h1 h2 => ?_) (fun a b => ?_) l).imp fun h => of_decide_eq_true h
      · rw [decide_eq_true_eq] at *; omega
      · rw [Bool.or_eq_true, decide_eq_true_eq, decide_eq_true_eq]; omega
    · show w₁.drawn ≤ w₁.drawn + n
      omega
def compF : Int → List Int → List Int
  | _, [] => []
  | p, x :: r => if x = p then compF p r else x :: compF x r
def compL : List Int → List Int
  | [] => []
  | x :: r => x :: compF x r
def lastOr : Int → List Int → Int
  | p, [] => p
  | _, x :: r => lastOr x r
theorem compF_snoc : ∀ (r : List Int) (p b : Int), compF p (r ++ [b]) = compF p r ++ if b = lastOr p r then [] else [b]
  | [], p, b => by
    show (if b = p then [] else [b]) = _
    rfl
  | x :: r, p, b => by
    rw [List.cons_append, compF, compF, lastOr]
    split
    · rename_i e; subst e; exact compF_snoc r x b
    · rw [compF_snoc r x b, List.cons_append]
theorem lastOr_get : ∀ (r : List Int) (p : Int), lastOr p r = (p :: r)[r.length]'(by simp)
  | [], p => rfl
  | x :: r, p => by
    rw [lastOr, lastOr_get r x]; rfl
theorem compL_take {l : List Int} {j : Nat} (h1 : 1 ≤ j) (hj : j < l.length) : compL (l.take (j + 1)) = compL (l.take j) ++ if l[j] = l[j - 1]'(by omega) then [] else [l[j]] := by
  rw [List.take_succ_eq_append_getElem hj]
  obtain ⟨m, rfl⟩ : ∃ m, j = m + 1 := ⟨j - 1, by omega⟩
  cases l with
  | nil => simp at hj
  | cons x r =>
    have hlen : (r.take m).length = m := by rw [List.length_take]; simp at hj; omega
    rw [List.take_succ_cons, List.cons_append, compL, compF_snoc, compL, List.cons_append]
    have : lastOr x (r.take m) = (x :: r)[m + 1 - 1] := by
      rw [lastOr_get]
      have : (x :: r.take m)[(r.take m).length]'(by simp) = (x :: r.take m)[m]'(by simp [hlen]) := by congr 1
      rw [this]
      have e : x :: r.take m = (x :: r).take (m + 1) := by rw [List.take_succ_cons]
      simp only [e, List.getElem_take, Nat.add_sub_cancel]
    rw [this]
theorem compL_short {l : List Int} (h : l.length < 2) : compL l = l := by
  match l, h with
  | [], _ => rfl
  | [x], _ => rfl
theorem compF_sorted : ∀ {r : List Int} {p : Int}, (p :: r).Pairwise (· ≤ ·) → (p :: compF p r).Pairwise (· < ·) ∧ ∀ x, x ∈ p :: compF p r ↔ x ∈ p :: r
  | [], p, _ => ⟨by simp [compF], fun x => by simp [compF]⟩
  | y :: r, p, h => by
    obtain ⟨h1, h2⟩ := List.pairwise_cons.1 h
    rw [compF]
    split
    · rename_i e
      subst e
      obtain ⟨a, b⟩ := compF_sorted h2
      refine ⟨a, fun x => (b x).trans ?_⟩
      simp
    · rename_i e
      obtain ⟨a, b⟩ := compF_sorted h2
      have hy := h1 y (by simp)
      refine ⟨List.pairwise_cons.2 ⟨fun x hx => ?_, a⟩, fun x => ?_⟩
      · have := (b x).1 hx
        have hyx : y ≤ x := by
          rcases List.mem_cons.1 this with rfl | h
          · exact Int.le_refl _
          · exact (List.pairwise_cons.1 h2).1 x h
        omega
      · rw [List.mem_cons, b x, List.mem_cons (a := x) (b := p)]
theorem comp_sorted {l l' : List Int} (hp : l'.Perm l) (hs : l'.Pairwise (· ≤ ·)) : compL l' = sortD l := by
  have key : (compL l').Pairwise (· < ·) ∧ ∀ x, x ∈ compL l' ↔ x ∈ l' := by
    cases l' with
    | nil => exact ⟨List.Pairwise.nil, fun x => Iff.rfl⟩
    | cons x r => exact compF_sorted hs
  exact sortD_eq key.1 fun x => (key.2 x).trans hp.mem_iff
set_option maxRecDepth 100000 in
theorem Compact_spec {B : Nat} {w : World} {v : Value} {l : List Int} (ho : NewInts B w v l) (hB : B ≤ w.heap.size) (hl : l.length ≤ 2 ^ 40) :
    CallsV C.P 166 #[v] w fun v' w' => NewInts B w' v' (compL l) ∧ Below B w w' := by
  obtain ⟨A, cap, rfl, hR, hlc⟩ := ho.slice
  refine callsV_of C_ok (args := [_]) (plans := plans166) Tryz.func166 rfl Tryz.ntmps166 (by kernel_rfl) (Nat.le_of_ble_eq_true rfl) ?_
  refine brE_dec (fun h2 => ?_) (fun h2 => ?_)
  · have h2 : (l.length : Int) < 2 := h2
    rw [compL_short (by omega)]
    exact ⟨ho, Below.refl _ _⟩
  have h2 : ¬ (l.length : Int) < 2 := h2
  have hA : ∃ g, A = some ⟨g, 0, none⟩ := by
    obtain ⟨_, ⟨hv, h0⟩ | ⟨g, cap', cur, hv, _⟩⟩ := ho
    · omega
    · simp at hv; exact ⟨g, hv.1⟩
  obtain ⟨g, rfl⟩ := hA
  have ho0 : w.ownsRow B 3 1 (.slice (some ⟨g, 0, none⟩) l.length cap) l.length (ints l) := ho
  refine loopE C_ok (fun (k : Nat) => [(0, .slice (some ⟨g, 0, none⟩) l.length cap), (3, .int .i64 k)])
    (fun k w' => w' = w ∧ 1 ≤ k ∧ k ≤ l.length ∧ compL (l.take k) = l.take k) (fun k => l.length - k) 1 ⟨rfl, rfl, trivial⟩ ⟨rfl, Nat.le_refl _, by omega, compL_short (by rw [List.length_take]; omega)⟩ ?_
  rintro k w1 ⟨rfl, hk1, hk, hck⟩
  refine brE_dec (fun hlt => ?_) (fun hge => ?_)
  case' refine_2 =>
    have : k = l.length := by have : ¬ (k : Int) < (l.length : Nat) := hge; omega
    subst this
    rw [List.take_length] at hck
    rw [hck]
    exact ⟨ho, Below.refl _ _⟩
  have hlt : k < l.length := by have : (k : Int) < (l.length : Nat) := hlt; omega
  have next : IntKind.i64.wrap ((k : Int) + 1) = ((k + 1 : Nat) : Int) := fit ⟨by omega, by omega⟩
  have hkp : k - 1 < l.length := by omega
  have hct := compL_take hk1 hlt
  obtain ⟨b1, o1, hA1, hc1⟩ := Reads.int hR hlt
  obtain ⟨b2, o2, hA2, hc2⟩ := Reads.int hR hkp
  refine ⟨k, b1, o1, rfl, hlt, hA1, ?_⟩
  refine ⟨_, by simpa using hc1, ?_⟩
  refine ⟨((k - 1 : Nat) : Int), by rw [fit ⟨by omega, by omega⟩]; omega, ?_⟩
  refine ⟨k - 1, b2, o2, rfl, hkp, hA2, ?_⟩
  refine ⟨_, by simpa using hc2, ?_⟩
  refine brE_dec (fun he => ?_) (fun hn => ?_)
  case' refine_2 =>
    have hn : ¬ l[k] = l[k - 1] := hn
    rw [if_neg hn, hck, ← List.take_succ_eq_append_getElem hlt] at hct
    refine ⟨_, next, ?_⟩
    exact ⟨k + 1, ⟨rfl, rfl, trivial⟩, ⟨rfl, by omega, hlt, hct⟩, by omega⟩
  have he : l[k] = l[k - 1] := he
  rw [if_pos he, hck, List.append_nil] at hct
  refine ⟨k, l.length, rfl, rfl, by omega, by omega, ?_⟩
  have hA2 : (if cap = k then (some (⟨g, 0, none⟩ : Addr)) else (some (⟨g, 0, none⟩ : Addr)).map (·.add (k * 1))) = some ⟨g, k, none⟩ := by
    rw [if_neg (by omega)]
    simp [add_spot]
  refine loopE C_ok (fun (s : Nat × Nat × List Int) => [(0, .slice (some ⟨g, 0, none⟩) l.length cap), (3, .int .i64 s.2.1), (4, .slice (if cap = k then (some (⟨g, 0, none⟩ : Addr)) else (some (⟨g, 0, none⟩ : Addr)).map (·.add (k * 1))) (l.length - k) (cap - k)), (5, .int .i64 s.1)])
    (fun s w' => 1 ≤ s.1 ∧ k + s.1 ≤ l.length ∧ s.2.1 = (compL (l.take (k + s.1))).length ∧ 1 ≤ s.2.1 ∧ s.2.1 < k + s.1 ∧ s.2.2.length = l.length ∧ w'.ownsRow B 3 1 (.slice (some ⟨g, 0, none⟩) l.length cap) l.length (ints s.2.2) ∧ s.2.2.take s.2.1 = compL (l.take (k + s.1)) ∧ (∀ j, k + s.1 ≤ j + 1 → s.2.2[j]? = l[j]?) ∧ Below B w1 w')
    (fun s => l.length - s.1) (1, k, l) ⟨rfl, rfl, rfl, rfl, trivial⟩
    ⟨Nat.le_refl _, hlt, by rw [hct, List.length_take]; show k = _; omega, hk1, Nat.lt_succ_self _, rfl, ho0, hct.symm, fun _ _ => rfl, Below.refl _ _⟩ ?_
  rintro ⟨j, i, R⟩ w2 ⟨hj1', hj', hi', hi1', hij', hRl', ho2', htake', hrest', b2⟩
  have hj1 : 1 ≤ j := hj1'
  have hj : k + j ≤ l.length := hj'
  have hi : i = (compL (l.take (k + j))).length := hi'
  have hi1 : 1 ≤ i := hi1'
  have hij : i < k + j := hij'
  have hRl : R.length = l.length := hRl'
  have ho2 : w2.ownsRow B 3 1 (.slice (some ⟨g, 0, none⟩) l.length cap) l.length (ints R) := ho2'
  have htake : R.take i = compL (l.take (k + j)) := htake'
  have hrest : ∀ q, k + j ≤ q + 1 → R[q]? = l[q]? := hrest'
  clear hj1' hj' hi' hi1' hij' hRl' ho2' htake' hrest'
  have at_ : ∀ {q : Nat} (hq : q < l.length), k + j ≤ q + 1 → ∀ o, o + 0 = q → w2.cell? ⟨g, o, none⟩ = some (.int .i64 l[q]) := fun {q} hq h o ho => by
    have hreads : Reads w2 (some ⟨g, 0, none⟩) (ints R) := by
      obtain ⟨A', c', e, h, _⟩ := reads_of_owns ho2
      cases e; exact h
    obtain ⟨b3, o3, hA3, hc3⟩ := Reads.int hreads (i := q) (by omega)
    cases hA3
    have e := hrest q h
    rw [List.getElem?_eq_getElem hq, List.getElem?_eq_getElem (by omega)] at e
    rw [Option.some.inj e] at hc3
    rw [show o = 0 + q by omega]; exact hc3
  refine brE_dec (fun hlt2 => ?_) (fun hge2 => ?_)
  · have hlt2 : k + j < l.length := by have : (j : Int) < ((l.length - k : Nat) : Int) := hlt2; omega
    have next2 : IntKind.i64.wrap ((j : Int) + 1) = ((j + 1 : Nat) : Int) := fit ⟨by omega, by omega⟩
    have hc := compL_take (l := l) (j := k + j) (by omega) hlt2
    have hp : k + j - 1 < l.length := by omega
    refine ⟨j, g, k, rfl, (by omega : j < l.length - k), hA2, ?_⟩
    refine ⟨_, at_ hlt2 (by omega) _ (by simp), ?_⟩
    refine ⟨((j - 1 : Nat) : Int), by rw [fit ⟨by omega, by omega⟩]; omega, ?_⟩
    refine ⟨j - 1, g, k, rfl, (by omega : j - 1 < l.length - k), hA2, ?_⟩
    refine ⟨_, at_ hp (by omega) _ (by simp; omega), ?_⟩
    refine brE_ndec (fun hn => ?_) (fun he2 => ?_)
    · have hn : ¬ l[k + j] = l[k + j - 1] := hn
      rw [if_neg hn] at hc
      refine ⟨j, g, k, rfl, (by omega : j < l.length - k), hA2, ?_⟩
      refine ⟨_, at_ hlt2 (by omega) _ (by simp), ?_⟩
      obtain ⟨cur, hg, hgB, hcl, hccap, hncap, hdl, hct2, hput⟩ := ownsRow_open ho2
      refine ⟨i, g, 0, rfl, (by omega : i < l.length), rfl, ?_⟩
      refine ⟨rfl, _, _, hg, by show 0 + i * 1 + 1 ≤ cur.length; omega, rfl, ?_⟩
      intro w6 h6
      have h6 : Put w2 g (.cells (splice cur (0 + i * 1) (enc1 l[k + j])).toArray 3 (0, 0)) w6 := h6
      have ho6 := hput (0 + i * 1) (enc1 l[k + j]) w6 (by show 0 + i * 1 + 1 ≤ _; omega) h6
      have hset : splice (ints R) (i * 1) (enc1 l[k + j]) = ints (R.set i l[k + j]) := by
        rw [← ints_flat, ← ints_flat]
        exact flat_set (enc := enc1) (k := 1) (fun _ => rfl) (by omega) _
      rw [show 0 + i * 1 = i * 1 by omega, hset] at ho6
      have nexti : IntKind.i64.wrap ((i : Int) + 1) = ((i + 1 : Nat) : Int) := fit ⟨by omega, by omega⟩
      refine ⟨_, nexti, ?_⟩
      refine ⟨_, next2, ?_⟩
      refine ⟨(j + 1, i + 1, R.set i l[k + j]), ⟨rfl, rfl, rfl, rfl, trivial⟩, ⟨by show 1 ≤ j + 1; omega, hlt2, ?_, by show 1 ≤ i + 1; omega, by show i + 1 < k + (j + 1); omega, by show (R.set i l[k + j]).length = _; rw [List.length_set, hRl], ho6, ?_, ?_, below_put b2 h6 hgB⟩, by show l.length - (j + 1) < l.length - j; omega⟩
      · show i + 1 = (compL (l.take (k + j + 1))).length
        rw [hc, List.length_append, ← hi]; rfl
      · show (R.set i l[k + j]).take (i + 1) = compL (l.take (k + j + 1))
        have hil : i < (R.set i l[k + j]).length := by rw [List.length_set]; omega
        rw [hc, List.take_succ_eq_append_getElem hil, List.take_set_of_le (Nat.le_refl _), htake]
        congr 1
        simp
      · intro q hq
        show (R.set i l[k + j])[q]? = l[q]?
        have hq : k + (j + 1) ≤ q + 1 := hq
        rw [List.getElem?_set_ne (by omega)]
        exact hrest q (by omega)
    · have he2 : l[k + j] = l[k + j - 1] := he2
      rw [if_pos he2, List.append_nil] at hc
      refine ⟨_, next2, ?_⟩
      exact ⟨(j + 1, i, R), ⟨rfl, rfl, rfl, rfl, trivial⟩, ⟨by show 1 ≤ j + 1; omega, hlt2, by show i = (compL (l.take (k + j + 1))).length; rw [hc]; exact hi, hi1, by show i < k + (j + 1); omega, hRl, ho2, by show R.take i = compL (l.take (k + j + 1)); rw [hc]; exact htake, fun q hq => hrest q (by have : k + (j + 1) ≤ q + 1 := hq; omega), b2⟩, by show l.length - (j + 1) < l.length - j; omega⟩
  · have hkj : k + j = l.length := by have : ¬ (j : Int) < ((l.length - k : Nat) : Int) := hge2; omega
    rw [hkj, List.take_length] at hi htake
    obtain ⟨cur, hg, hgB, hcl, hccap, hncap, hdl, hct2, hput⟩ := ownsRow_open ho2
    refine ⟨i, l.length, rfl, rfl, by omega, by omega, ?_⟩
    have hA3 : (if cap = i then (some (⟨g, 0, none⟩ : Addr)) else (some (⟨g, 0, none⟩ : Addr)).map (·.add (i * 1))) = some ⟨g, 0 + i * 1, none⟩ := by
      rw [if_neg (by omega)]
      simp [add_spot]
    refine clearRow (esz := 1) C_ok rfl rfl rfl rfl rfl rfl rfl (by decide) hA3 (by omega) hg (by omega) ?_
    intro zs w3 hzs h3
    have ho3 := hput (0 + i * 1) zs w3 (by rw [hzs]; omega) h3
    refine ⟨0, i, rfl, rfl, Nat.zero_le _, by omega, ?_⟩
    have e : (if cap = 0 then (some ⟨g, 0, none⟩ : Option Addr) else (some (⟨g, 0, none⟩ : Addr)).map (·.add (0 * 1))) = some ⟨g, 0, none⟩ := by
      split <;> rfl
    have hcut := ownsRow_cut ho3 (k := i) (by omega)
    have hft : (ints R).take (i * 1) = ints (R.take i) := by rw [Nat.mul_one, ints, ints, List.map_take]
    rw [show 0 + i * 1 = i * 1 by omega, splice_take_at (by rw [ints_length]; omega), hft, htake] at hcut
    refine ⟨?_, below_put b2 h3 hgB⟩
    show w3.ownsRow B 3 1 (.slice (if cap = 0 then (some ⟨g, 0, none⟩ : Option Addr) else (some (⟨g, 0, none⟩ : Addr)).map (·.add (0 * 1))) i cap) (compL l).length _
    rw [e, ← hi]
    exact hcut
theorem sorted_spec {B : Nat} {w : World} {v : Value} {l : List Int} (ho : NewInts B w v l) (hB : B ≤ w.heap.size) (hl : l.length ≤ 2 ^ 40) :
    CallsV C.P 140 #[v] w fun v' w' => NewInts B w' v' (sortD l) ∧ Below B w w' := by
  refine callsV_of C_ok (args := [_]) (plans := []) Tryz.func140 rfl Tryz.ntmps140 (by kernel_rfl) (Nat.le_of_ble_eq_true rfl) ?_
  refine (SortI_spec ho hl).mono ?_
  rintro r w1 ⟨rfl, ⟨l', ho1, hp, hs⟩, hg⟩
  have b1 : Below B w w1 := below_app (Below.refl _ _) ho hg hB
  refine (Compact_spec ho1 (Nat.le_trans hB b1.size) (by rw [hp.length_eq]; exact hl)).mono ?_
  rintro v' w2 ⟨ho2, b2⟩
  rw [comp_sorted hp hs] at ho2
  exact ⟨ho2, b1.trans b2⟩
end Go.Proofs.YtahgjidcaeieaaaGreatDoor
namespace Go.Proofs.YtahgjidcaeieaaaGreatDoor
open Go.Eng Go.RowKit
theorem fm_take {p : Fact → Bool} {f : Fact → Int} {l : List Fact} {i : Nat} (hi : i < l.length) : ((l.take (i + 1)).filter p).map f = ((l.take i).filter p).map f ++ if p l[i] = true then [f l[i]] else [] := by
  rw [List.take_succ_eq_append_getElem hi, List.filter_append, List.map_append, List.filter_cons, List.filter_nil]
  congr 1
  split <;> rfl
theorem fm_length (p : Fact → Bool) (f : Fact → Int) (l : List Fact) : ((l.filter p).map f).length ≤ l.length := by
  rw [List.length_map]; exact List.length_filter_le _ _
theorem fm_take_length (p : Fact → Bool) (f : Fact → Int) (l : List Fact) (i : Nat) : (((l.take i).filter p).map f).length ≤ l.length := Nat.le_trans (fm_length p f _) (by rw [List.length_take]; omega)
set_option maxRecDepth 100000 in
theorem living_spec {w : World} {A : Option Addr} {l : List Fact} {c : Nat} (hr : Reads w A (fcells l)) (hl : l.length ≤ 2 ^ 20) (k s cl : Int) :
    CallsV C.P 132 #[.slice A l.length c, .int .u8 k, .int .i64 s, .int .i64 cl] w fun v w' => NewInts w.heap.size w' v (livingL l k s cl) ∧ Ext w w' := by
  refine callsV_of C_ok (args := [_, _, _, _]) (plans := []) Tryz.func132 rfl Tryz.ntmps132 (by kernel_rfl) (Nat.le_of_ble_eq_true rfl) ?_
  refine loopE C_ok (fun (t : Nat × Value) => [(0, .slice A l.length c), (1, .int .u8 k), (2, .int .i64 s), (3, .int .i64 cl), (9, t.2), (12, .slice A l.length c), (13, .int .i64 l.length), (14, .int .i64 t.1)])
    (fun t w' => t.1 ≤ l.length ∧ Ext w w' ∧ NewInts w.heap.size w' t.2 (((l.take t.1).filter (livesB l k s cl)).map Fact.who)) (fun t => l.length - t.1) (0, .slice none 0 0)
    ⟨rfl, rfl, rfl, rfl, rfl, rfl, rfl, rfl, trivial⟩ ⟨Nat.zero_le _, Ext.refl _, newInts_nil _ _⟩ ?_
  rintro ⟨i, v⟩ w2 ⟨hi', e2, ho'⟩
  have hi : i ≤ l.length := hi'
  have ho : NewInts w.heap.size w2 v (((l.take i).filter (livesB l k s cl)).map Fact.who) := ho'
  clear hi' ho'
  refine brE_dec (fun hlt => ?_) (fun hge => ?_)
  · have hlt : i < l.length := by have : (i : Int) < (l.length : Nat) := hlt; omega
    have next : IntKind.i64.wrap ((i : Int) + 1) = ((i + 1 : Nat) : Int) := fit ⟨by omega, by omega⟩
    have hlen := fm_take_length (livesB l k s cl) Fact.who l i
    have step := fm_take (p := livesB l k s cl) (f := Fact.who) hlt
    obtain ⟨b, o, hA, hc⟩ := Reads.fact (hr.ext e2) hlt
    refine ⟨i, b, o, rfl, hlt, hA, ?_⟩
    refine ⟨l[i].cells, rfl, hc, ?_⟩
    intro g w3 h3
    refine ⟨rfl, _, _, h3.here, Nat.le_of_ble_eq_true rfl, rfl, ?_⟩
    intro w4 h4
    have h4 : Put w3 g (.cells l[i].cells.toArray 90 (0, 0)) w4 := h4
    have e24 : Ext w2 w4 := h4.ext_of h3.ext (by rw [h3.new]; exact Nat.le_refl _)
    have skip : ∀ {w' : World}, Ext w2 w' → livesB l k s cl l[i] = false → i + 1 ≤ l.length ∧ Ext w w' ∧ NewInts w.heap.size w' v (((l.take (i + 1)).filter (livesB l k s cl)).map Fact.who) := fun e h => by
      rw [step, h, if_neg (by decide), List.append_nil]
      exact ⟨hlt, e2.trans e, ho.ext e⟩
    refine ⟨_, cell_of_block h4.here rfl, ?_⟩
    refine brE_dec (fun a1 => ?_) (fun a1 => ?_)
    case' refine_2 =>
      have a1 : ¬ l[i].kind = k := a1
      refine ⟨_, next, ?_⟩
      exact ⟨(i + 1, v), ⟨rfl, rfl, rfl, rfl, rfl, rfl, rfl, rfl, trivial⟩, skip e24 (by unfold livesB; rw [decide_eq_false fun h => a1 h.1]; rfl), by show l.length - (i + 1) < l.length - i; omega⟩
    have a1 : l[i].kind = k := a1
    refine ⟨_, cell_of_block h4.here rfl, ?_⟩
    refine brE_dec (fun a2 => ?_) (fun a2 => ?_)
    case' refine_2 =>
      have a2 : ¬ l[i].what = s := a2
      refine ⟨_, next, ?_⟩
      exact ⟨(i + 1, v), ⟨rfl, rfl, rfl, rfl, rfl, rfl, rfl, rfl, trivial⟩, skip e24 (by unfold livesB; rw [decide_eq_false fun h => a2 h.2.1]; rfl), by show l.length - (i + 1) < l.length - i; omega⟩
    have a2 : l[i].what = s := a2
    refine ⟨_, cell_of_block h4.here rfl, ?_⟩
    refine brE_dec (fun a3 => ?_) (fun a3 => ?_)
    case' refine_2 =>
      have a3 : ¬ l[i].other = cl := a3
      refine ⟨_, next, ?_⟩
      exact ⟨(i + 1, v), ⟨rfl, rfl, rfl, rfl, rfl, rfl, rfl, rfl, trivial⟩, skip e24 (by unfold livesB; rw [decide_eq_false fun h => a3 h.2.2]; rfl), by show l.length - (i + 1) < l.length - i; omega⟩
    have a3 : l[i].other = cl := a3
    refine ⟨_, cell_of_block h4.here rfl, ?_⟩
    refine (vdead_spec (hr.ext (e2.trans e24)) hl l[i].who).mono ?_
    rintro v5 w5 ⟨rfl, e5⟩
    have e25 := e24.trans e5
    refine brE_mk (fun a4 => ?_) (fun a4 => ?_)
    · have hb : livesB l k s cl l[i] = true := by unfold livesB; rw [decide_eq_true ⟨a1, a2, a3⟩]; exact a4
      rw [hb, if_pos rfl] at step
      refine ⟨_, cell_of_block (e5.heap h4.here) rfl, ?_⟩
      intro g6 w6 h6
      have ho6 : w6.ownsRow w.heap.size 3 1 v _ _ := ownsRow_ext ho (e25.trans h6.ext)
      have e6 := (e2.trans e25).trans h6.ext
      refine ⟨rfl, rfl, rfl, w.heap.size, _, _, [.int .i64 l[i].who], ho6, e6.size, Nat.le_of_ble_eq_true rfl, rfl, rfl, .inr ⟨g6, 0, rfl, Rd.of_block h6.here⟩, rfl, rfl, by omega, by simp only [maxLen]; omega, ?_⟩
      intro v7 w7 ho7 hg7 _
      refine ⟨_, next, ?_⟩
      refine ⟨(i + 1, v7), ⟨rfl, rfl, rfl, rfl, rfl, rfl, rfl, rfl, trivial⟩, ⟨hlt, app_ext e6 ho6 hg7, ?_⟩, by show l.length - (i + 1) < l.length - i; omega⟩
      show NewInts w.heap.size w7 v7 (((l.take (i + 1)).filter (livesB l k s cl)).map Fact.who)
      rw [step]
      unfold NewInts
      rw [ints_append, List.length_append]
      exact ho7
    · refine ⟨_, next, ?_⟩
      exact ⟨(i + 1, v), ⟨rfl, rfl, rfl, rfl, rfl, rfl, rfl, rfl, trivial⟩, skip e25 (by unfold livesB; rw [a4, Bool.and_false]), by show l.length - (i + 1) < l.length - i; omega⟩
  · have : i = l.length := by have : ¬ (i : Int) < (l.length : Nat) := hge; omega
    subst this
    rw [List.take_length] at ho
    have hlen := fm_length (livesB l k s cl) Fact.who l
    refine (sorted_spec ho e2.size (by omega)).mono ?_
    rintro v3 w3 ⟨ho3, b3⟩
    exact ⟨ho3, Below.trans e2 b3⟩
end Go.Proofs.YtahgjidcaeieaaaGreatDoor
namespace Go.Proofs.YtahgjidcaeieaaaGreatDoor
open Go.Eng Go.RowKit
theorem IndexI_spec {w : World} {A : Option Addr} {xs : List Int} {c : Nat} (hr : Reads w A (ints xs)) (hl : xs.length ≤ 2 ^ 40) (n : Int) :
    CallsV C.P 138 #[.slice A xs.length c, .int .i64 n] w fun v w' => (v = .int .i64 (match xs.findIdx? (fun x => decide (x = n)) with | some i => (i : Int) | none => -1)) ∧ w' = w := by
  refine callsV_of C_ok (args := [_, _]) (plans := []) Tryz.func138 rfl Tryz.ntmps138 (by kernel_rfl) (Nat.le_of_ble_eq_true rfl) ?_
  refine loopE C_ok (fun (i : Nat) => [(0, .slice A xs.length c), (1, .int .i64 n), (7, .int .i64 xs.length), (8, .int .i64 i)])
    (fun i w' => w' = w ∧ i ≤ xs.length ∧ ∀ j (h : j < xs.length), j < i → xs[j] ≠ n) (fun i => xs.length - i) 0 ⟨rfl, rfl, rfl, rfl, trivial⟩ ⟨rfl, Nat.zero_le _, fun _ _ h => absurd h (Nat.not_lt_zero _)⟩ ?_
  rintro i w1 ⟨rfl, hi, hall⟩
  refine brE_dec (fun hlt => ?_) (fun hge => ?_)
  · have hlt : i < xs.length := by have : (i : Int) < (xs.length : Nat) := hlt; omega
    obtain ⟨b, o, hA, hc⟩ := Reads.int hr hlt
    refine ⟨i, b, o, rfl, hlt, hA, ?_⟩
    refine ⟨_, by simpa using hc, ?_⟩
    refine brE_dec (fun h2 => ?_) (fun h2 => ?_)
    · have h2 : n = xs[i] := h2
      have : xs.findIdx? (fun x => decide (x = n)) = some i := by
        rw [List.findIdx?_eq_some_iff_getElem]
        exact ⟨hlt, decide_eq_true h2.symm, fun j hj => by simpa using hall j (by omega) hj⟩
      exact ⟨by rw [this], rfl⟩
    · have h2 : ¬ n = xs[i] := h2
      refine ⟨((i + 1 : Nat) : Int), fit ⟨by omega, by omega⟩, ?_⟩
      refine ⟨i + 1, ⟨rfl, rfl, rfl, rfl, trivial⟩, ⟨rfl, hlt, fun j hj hji => ?_⟩, by omega⟩
      rcases Nat.lt_or_ge j i with h | h
      · exact hall j hj h
      · obtain rfl : j = i := by omega
        exact fun e => h2 e.symm
  · have : i = xs.length := by have : ¬ (i : Int) < (xs.length : Nat) := hge; omega
    subst this
    have : xs.findIdx? (fun x => decide (x = n)) = none := by
      rw [List.findIdx?_eq_none_iff]
      intro x hx
      obtain ⟨j, hj, rfl⟩ := List.getElem_of_mem hx
      exact decide_eq_false (hall j hj hj)
    exact ⟨by rw [this], rfl⟩
theorem ContainsI_spec {w : World} {A : Option Addr} {xs : List Int} {c : Nat} (hr : Reads w A (ints xs)) (hl : xs.length ≤ 2 ^ 40) (n : Int) :
    CallsV C.P 131 #[.slice A xs.length c, .int .i64 n] w fun v w' => v = .bool (decide (n ∈ xs)) ∧ w' = w := by
  refine callsV_of C_ok (args := [_, _]) (plans := []) Tryz.func131 rfl Tryz.ntmps131 (by kernel_rfl) (Nat.le_of_ble_eq_true rfl) ?_
  refine (IndexI_spec hr hl n).mono ?_
  rintro v w1 ⟨rfl, rfl⟩
  refine ⟨congrArg Value.bool ?_, rfl⟩
  cases hf : xs.findIdx? (fun x => decide (x = n)) with
  | some i =>
    obtain ⟨hi, he, _⟩ := List.findIdx?_eq_some_iff_getElem.1 hf
    have he := of_decide_eq_true he
    show decide ((i : Int) ≥ 0) = _
    rw [decide_eq_true (by omega), decide_eq_true (he ▸ List.getElem_mem hi)]
  | none =>
    rw [List.findIdx?_eq_none_iff] at hf
    show decide ((-1 : Int) ≥ 0) = _
    rw [decide_eq_false (by omega), decide_eq_false fun h => by have := hf n h; simp at this]
end Go.Proofs.YtahgjidcaeieaaaGreatDoor
namespace Go.Proofs.YtahgjidcaeieaaaGreatDoor
open Go.Eng Go.RowKit
theorem livingL_length (c : List Fact) (k s cl : Int) : (livingL c k s cl).length ≤ c.length := Nat.le_trans (sortD_length _) (fm_length _ _ _)
end Go.Proofs.YtahgjidcaeieaaaGreatDoor
namespace Go.Proofs.YtahgjidcaeieaaaGreatDoor
open Go.Eng Go.RowKit
abbrev classes : List Int := [1, 2, 3, 4]
theorem classes_drop {n : Nat} (h : n < 4) : classes.drop n = ((n + 1 : Nat) : Int) :: classes.drop (n + 1) := by
  have : n = 0 ∨ n = 1 ∨ n = 2 ∨ n = 3 := by omega
  rcases this with rfl | rfl | rfl | rfl <;> rfl
theorem HoldsClass_spec {w : World} {A : Option Addr} {l : List Fact} {c : Nat} (h : HF w A l c) (hl : l.length ≤ 2 ^ 20) (k day p s : Int) :
    CallsV C.P 124 #[.slice A l.length c, .int .i64 k, .int .i64 day, .int .i64 p, .int .i64 s] w fun v w' => v = .int .i64 (leastL (atL k day l) p s) ∧ Ext w w' := by
  refine callsV_of C_ok (args := [_, _, _, _, _]) (plans := []) Tryz.func124 rfl Tryz.ntmps124 (by kernel_rfl) (Nat.le_of_ble_eq_true rfl) ?_
  refine (look_spec h hl k day).mono ?_
  rintro v w1 ⟨hK, e1⟩
  have hkl := atL_length k day l
  generalize atL k day l = K at *
  obtain ⟨AK, cK, rfl, hrK, _⟩ := hK.slice
  have hKl : K.length ≤ 2 ^ 20 := by omega
  unfold leastL
  refine loopE C_ok (fun (n : Nat) => [(3, .int .i64 p), (4, .int .i64 s), (11, .slice AK K.length cK), (12, .int .i64 ((n + 1 : Nat) : Int))])
    (fun n w' => n ≤ 4 ∧ Ext w1 w' ∧ leastAt K p s classes = leastAt K p s (classes.drop n)) (fun n => 4 - n) 0
    ⟨rfl, rfl, rfl, rfl, trivial⟩ ⟨Nat.zero_le _, Ext.refl _, rfl⟩ ?_
  rintro n w2 ⟨hn, e2, hc⟩
  refine brE_dec (fun hlt => ?_) (fun hge => ?_)
  case' refine_2 =>
    have : n = 4 := by have : ¬ ((n + 1 : Nat) : Int) < 5 := hge; omega
    subst this
    exact ⟨by rw [hc]; rfl, e1.trans e2⟩
  have hlt : n < 4 := by have : ((n + 1 : Nat) : Int) < 5 := hlt; omega
  have next : IntKind.i64.wrap (((n + 1 : Nat) : Int) + 1) = ((n + 1 + 1 : Nat) : Int) := by rw [fit ⟨by omega, by omega⟩]; omega
  have hd : leastAt K p s (classes.drop n) = if (decide (p ∈ livingL K 2 s ((n + 1 : Nat) : Int)) || actsB K p s ((n + 1 : Nat) : Int)) = true then ((n + 1 : Nat) : Int) else leastAt K p s (classes.drop (n + 1)) := by
    rw [classes_drop hlt]; rfl
  rw [hd] at hc
  refine (living_spec (hrK.ext e2) hKl 2 s ((n + 1 : Nat) : Int)).mono ?_
  rintro v w3 ⟨ho3, e3⟩
  have hl3 := livingL_length K 2 s ((n + 1 : Nat) : Int)
  obtain ⟨A3, k3, rfl, hr3, _⟩ := ho3.slice
  refine (ContainsI_spec hr3 (by omega) p).mono ?_
  rintro v w4 ⟨rfl, rfl⟩
  have e23 := e2.trans e3
  refine brE_mk (fun t => ?_) (fun t => ?_)
  · rw [t, Bool.true_or, if_pos rfl] at hc
    exact ⟨by rw [hc], e1.trans e23⟩
  rw [t, Bool.false_or] at hc
  refine (living_spec (hrK.ext e23) hKl 3 s ((n + 1 : Nat) : Int)).mono ?_
  rintro v w6 ⟨ho6, e6⟩
  have hl6 := livingL_length K 3 s ((n + 1 : Nat) : Int)
  obtain ⟨A6, k6, rfl, hr6, _⟩ := ho6.slice
  refine (ContainsI_spec hr6 (by omega) p).mono ?_
  rintro v w7 ⟨rfl, rfl⟩
  refine brE_mk (fun u => ?_) (fun u => ?_)
  · rw [show actsB K p s ((n + 1 : Nat) : Int) = true from u, if_pos rfl] at hc
    exact ⟨by rw [hc], (e1.trans e23).trans e6⟩
  · rw [show actsB K p s ((n + 1 : Nat) : Int) = false from u, if_neg (by decide)] at hc
    refine ⟨_, next, ?_⟩
    exact ⟨n + 1, ⟨rfl, rfl, rfl, rfl, trivial⟩, ⟨hlt, e23.trans e6, hc⟩, by omega⟩
end Go.Proofs.YtahgjidcaeieaaaGreatDoor
namespace Go.Proofs.YtahgjidcaeieaaaGreatDoor
open Go.Eng Go.RowKit
open Go.Maps (Keyed)
theorem signs_spec {w : World} {A : Option Addr} {f : List Fact} {c : Nat} (hf : HF w A f c) (hl : f.length ≤ 2 ^ 20) (x : Waiv) :
    CallsV C.P 111 #[.slice A f.length c, x.val] w fun v w' => v = .bool (decide (leastL (atL x.day x.day f) x.signer x.giver ≤ 2)) ∧ Ext w w' := by
  refine callsV_of C_ok (args := [_, _]) (plans := []) Tryz.func111 rfl Tryz.ntmps111 (by kernel_rfl) (Nat.le_of_ble_eq_true rfl) ?_
  intro g1 w1 h1
  have M1 : Mem w w1 [(g1, .cells x.cells.toArray 23 (0, 0))] := (Mem.start w).alloc h1
  refine ⟨_, M1.cell 0 rfl rfl, ?_⟩
  refine ⟨_, M1.cell 0 rfl rfl, ?_⟩
  refine ⟨_, M1.cell 0 rfl rfl, ?_⟩
  refine ⟨_, M1.cell 0 rfl rfl, ?_⟩
  refine (HoldsClass_spec (hf.ext M1.ext) hl _ _ _ _).mono ?_
  rintro v w2 ⟨rfl, e2⟩
  exact ⟨rfl, M1.ext.trans e2⟩
set_option maxRecDepth 100000 in
theorem granted_spec {w : World} {s : SV} {es : List Entry} (h : StateIs w s es) (hA : Acc es) {x : Waiv} (hx : x.Nums) {A : Option Addr} {f : List Fact} {c : Nat} (hf : HF w A f c) (hl : f.length ≤ 2 ^ 20) :
    CallsV C.P 95 #[.pointer (some ⟨s.gs, 0, none⟩), .slice A f.length c, x.val] w fun v w' => v = .int .i64 (grantedE (sgF f x) es x) ∧ Ext w w' := by
  obtain ⟨Aw, cw, hvw, _, _⟩ := reads_of_owns h.waivs
  have hwl := (acc_ok hA).wlen
  refine callsV_of C_ok (args := [_, _, _]) (plans := plans95) Tryz.func95 rfl Tryz.ntmps95 (by kernel_rfl) (Nat.le_of_ble_eq_true rfl) ?_
  intro g1 w1 h1
  have M1 : Mem w w1 [(g1, .cells x.cells.toArray 23 (0, 0))] := (Mem.start w).alloc h1
  have hs := h.ext M1.ext
  have hvc : w1.cell? ⟨s.gs, 2, none⟩ = some (.slice Aw (waivL es).length cw) := cell_of_block hs.block (by show some s.vW = _; rw [hvw])
  refine ⟨_, hvc, ?_⟩
  refine brE_dec (fun b1 => ?_) (fun b1 => ?_)
  · have b1 : (500 : Int) ≤ ((waivL es).length : Nat) := b1
    exact ⟨congrArg _ (by unfold grantedE; rw [if_pos (by omega)]), M1.ext⟩
  have b1 : ¬ (500 : Int) ≤ ((waivL es).length : Nat) := b1
  refine ⟨_, M1.cell 0 rfl rfl, ?_⟩
  refine ⟨_, hvc, ?_⟩
  refine ⟨(((waivL es).length + 1 : Nat) : Int), fit ⟨by omega, by omega⟩, ?_⟩
  refine brE_ndec (fun b2 => ?_) (fun b2 => ?_)
  · have b2 : ¬ x.id = (((waivL es).length + 1 : Nat) : Int) := b2
    exact ⟨congrArg _ (by unfold grantedE; rw [if_neg (by omega), if_pos (by omega)]), M1.ext⟩
  have b2 : x.id = (((waivL es).length + 1 : Nat) : Int) := b2
  refine (Check_spec (hf.ext M1.ext) hl).mono ?_
  rintro v w2 ⟨rfl, e2⟩
  have M2 := M1.grow e2
  refine brE_ndec (fun b3 => ?_) (fun b3 => ?_)
  · have b3 : ¬ (chkF f).2 = 0 := b3
    exact ⟨congrArg _ (by unfold grantedE sgF; rw [if_neg (by omega), if_neg (by omega), if_pos b3, if_pos b3]), M2.ext⟩
  have b3 : (chkF f).2 = 0 := b3
  refine ⟨x.cells, rfl, M2.rd 0 rfl, ?_⟩
  refine (signs_spec (hf.ext M2.ext) hl x).mono ?_
  rintro v w3 ⟨rfl, e3⟩
  have M3 := M2.grow e3
  have hs3 := h.ext M3.ext
  refine brE_mk (fun b4 => ?_) (fun b4 => ?_)
  · have b4 : ¬ leastL (atL x.day x.day f) x.signer x.giver ≤ 2 := by simpa using b4
    have hsg : sgF f x = 60 := by unfold sgF; rw [if_neg (fun h => h b3), if_neg b4]
    exact ⟨congrArg _ (by unfold grantedE; rw [if_neg (by omega), if_neg (by omega), hsg, if_pos (by decide)]), M3.ext⟩
  have b4 : leastL (atL x.day x.day f) x.signer x.giver ≤ 2 := by simpa using b4
  have hg : grantedE (sgF f x) es x = if owesB (dueL es) x.giver x.taker = true then 61 else 0 := by
    have hsg : sgF f x = 0 := by unfold sgF; rw [if_neg (fun h => h b3), if_pos b4]
    unfold grantedE
    rw [if_neg (by omega), if_neg (by omega), hsg, if_neg (by decide)]
  refine ⟨_, cell_of_block (i := 3) hs3.block rfl, ?_⟩
  refine ⟨_, M3.cell 0 rfl rfl, ?_⟩
  refine ⟨_, M3.cell 0 rfl rfl, ?_⟩
  by_cases ho : owesB (dueL es) x.giver x.taker = true
  · obtain ⟨d, hd1, hd2⟩ := owes_iff.1 ho
    refine ⟨.tuple #[.int .i64 d.waiver, .bool true], mapLGet C_ok (te := ty3) (x := sidesV x.giver x.taker) (sidesKey hx.giver hx.taker) hs3.dues sidesK rfl rfl rfl rfl rfl rfl (.inl ⟨rfl, dueP_mem.2 ⟨d, hd1, hd2.1, hd2.2, rfl⟩⟩), ?_⟩
    exact ⟨congrArg _ (by rw [hg, if_pos ho]), M3.ext⟩
  · have hno : ∀ u, (sidesV x.giver x.taker, u) ∉ (dueL es).map dueP := fun u hu => by
      obtain ⟨d, hd1, hd2, hd3, _⟩ := dueP_mem.1 hu
      exact ho (owes_iff.2 ⟨d, hd1, hd2, hd3⟩)
    refine ⟨.tuple #[.int .i64 0, .bool false], mapLGet C_ok (te := ty3) (x := sidesV x.giver x.taker) (sidesKey hx.giver hx.taker) hs3.dues sidesK rfl rfl rfl rfl rfl rfl (.inr ⟨rfl, rfl, hno⟩), ?_⟩
    exact ⟨congrArg _ (by rw [hg, if_neg ho]), M3.ext⟩
theorem StateIs.gift {w : World} {s : SV} {es : List Entry} (h : StateIs w s es) {k : Nat} (hk : k < (giftL es).length) : ∃ A c b o, s.vG = .slice A (giftL es).length c ∧ A = some ⟨b, o, none⟩ ∧ Rd w b (o + k * 10) (giftL es)[k].cells := by
  obtain ⟨A, c, hv, hr, _⟩ := reads_of_owns h.gifts
  obtain ⟨b, o, hA, hrd⟩ := Reads.elem Gift.len (by omega) hr hk
  exact ⟨A, c, b, o, hv, hA, hrd⟩
theorem StateIs.waiv {w : World} {s : SV} {es : List Entry} (h : StateIs w s es) {k : Nat} (hk : k < (waivL es).length) : ∃ A c b o, s.vW = .slice A (waivL es).length c ∧ A = some ⟨b, o, none⟩ ∧ Rd w b (o + k * 9) (waivL es)[k].cells := by
  obtain ⟨A, c, hv, hr, _⟩ := reads_of_owns h.waivs
  obtain ⟨b, o, hA, hrd⟩ := Reads.elem Waiv.len (by omega) hr hk
  exact ⟨A, c, b, o, hv, hA, hrd⟩
set_option maxRecDepth 100000 in
theorem offered_spec {w : World} {s : SV} {es : List Entry} (h : StateIs w s es) (hA : Acc es) {x : Gift} (hx : x.Nums) (hn : 1 ≤ x.n ∧ x.n ≤ 1000000) (hret : 0 ≤ x.returns) :
    CallsV C.P 96 #[.pointer (some ⟨s.gs, 0, none⟩), x.val] w fun v w' => v = .int .i64 (offeredE es x) ∧ Ext w w' := by
  obtain ⟨Ag, cg, hvg, _, _⟩ := reads_of_owns h.gifts
  have hgl := (acc_ok hA).gifts.len
  have hrate := (acc_ok hA).rate x.cur
  have hceil := (acc_ok hA).ceil x.to
  have hcur := hx.cur
  refine callsV_of C_ok (args := [_, _]) (plans := plans96) Tryz.func96 rfl Tryz.ntmps96 (by kernel_rfl) (Nat.le_of_ble_eq_true rfl) ?_
  intro g1 w1 h1
  have M1 : Mem w w1 [(g1, .cells x.cells.toArray 25 (0, 0))] := (Mem.start w).alloc h1
  have hs := h.ext M1.ext
  have hvc : w1.cell? ⟨s.gs, 4, none⟩ = some (.slice Ag (giftL es).length cg) := cell_of_block hs.block (by show some s.vG = _; rw [hvg])
  obtain ⟨fr, mr, hfr⟩ := hs.rates
  refine ⟨_, hvc, ?_⟩
  refine brE_dec (fun b1 => ?_) (fun b1 => ?_)
  · have b1 : (500 : Int) ≤ ((giftL es).length : Nat) := b1
    exact ⟨congrArg _ (by unfold offeredE; rw [if_pos (by omega)]), M1.ext⟩
  have b1 : ¬ (500 : Int) ≤ ((giftL es).length : Nat) := b1
  refine ⟨_, M1.cell 0 rfl rfl, ?_⟩
  refine ⟨_, hvc, ?_⟩
  refine ⟨(((giftL es).length + 1 : Nat) : Int), fit ⟨by omega, by omega⟩, ?_⟩
  refine brE_ndec (fun b2 => ?_) (fun b2 => ?_)
  · have b2 : ¬ x.id = (((giftL es).length + 1 : Nat) : Int) := b2
    exact ⟨congrArg _ (by unfold offeredE; rw [if_neg (by omega), if_pos (by omega)]), M1.ext⟩
  have b2 : x.id = (((giftL es).length + 1 : Nat) : Int) := b2
  refine ⟨_, cell_of_block (i := 0) hs.block rfl, ?_⟩
  refine ⟨_, M1.cell 0 rfl rfl, ?_⟩
  refine ⟨x.cur, fit ⟨by omega, by omega⟩, ?_⟩
  refine ⟨.int .i64 (rateL es x.cur), mapGet1 C_ok (te := ty3) (x := .int .i64 x.cur) (intKey ⟨by omega, by omega⟩) mr intK rfl rfl rfl rfl rfl rfl (by rw [hfr]; exact numV_getD _), ?_⟩
  refine brE_dec (fun b3 => ?_) (fun b3 => ?_)
  · have b3 : rateL es x.cur = 0 := b3
    exact ⟨congrArg _ (by unfold offeredE; rw [if_neg (by omega), if_neg (by omega), if_pos b3]), M1.ext⟩
  have b3 : ¬ rateL es x.cur = 0 := b3
  refine ⟨_, M1.cell 0 rfl rfl, ?_⟩
  refine ⟨_, hvc, ?_⟩
  refine brE_dec (fun b4 => ?_) (fun b4 => ?_)
  · have b4 : x.returns > ((giftL es).length : Nat) := b4
    exact ⟨congrArg _ (by unfold offeredE; rw [if_neg (by omega), if_neg (by omega), if_neg b3, if_pos (by omega)]), M1.ext⟩
  have b4 : ¬ x.returns > ((giftL es).length : Nat) := b4
  have hof : offeredE es x = if x.returns > 0 ∧ (let r := atN (giftL es) x.returns; ¬ (r.frm = x.to ∧ r.to = x.frm ∧ r.returns = 0 ∧ r.state = 2)) then 8 else if ceilL es x.to > 0 ∧ x.n * rateL es x.cur > ceilL es x.to then 2 else 0 := by
    unfold offeredE
    rw [if_neg (by omega), if_neg (by omega), if_neg b3, if_neg b4]
  refine ⟨_, M1.cell 0 rfl rfl, ?_⟩
  refine brE_dec (fun b5 => ?yes) (fun b5 => ?no)
  case' yes =>
    have b5 : x.returns > 0 := b5
    obtain ⟨j, hj, hje⟩ := num_of (n := (giftL es).length) (i := x.returns) (by omega) (by omega)
    obtain ⟨A, c, b, o, hv, hA', hrd⟩ := hs.gift hj
    have hat : atN (giftL es) x.returns = (giftL es)[j] := by rw [hje]; exact atN_get hj
    rw [hat] at hof
    refine ⟨.slice A (giftL es).length c, cell_of_block (i := 4) hs.block (by show some s.vG = _; rw [hv]), ?_⟩
    refine ⟨_, M1.cell 0 rfl rfl, ?_⟩
    refine ⟨(j : Int), by show IntKind.i64.wrap (x.returns - 1) = _; rw [hje, fit ⟨by omega, by omega⟩]; omega, ?_⟩
    refine ⟨j, b, o, rfl, hj, hA', ?_⟩
    refine ⟨(giftL es)[j].cells, rfl, hrd, ?_⟩
    intro g5 w2 h2
    refine ⟨h2.ext, ?_⟩
    have M2 := M1.alloc h2
    refine ⟨rfl, _, _, M2.get 0 rfl, Nat.le_of_ble_eq_true rfl, rfl, ?_⟩
    intro w3 h3
    have M3 : Mem w w3 [(g5, .cells (giftL es)[j].cells.toArray 25 (0, 0)), (g1, .cells x.cells.toArray 25 (0, 0))] := M2.put 0 rfl h3
    refine ⟨_, M3.cell 0 rfl rfl, ?_⟩
    refine ⟨_, M3.cell 1 rfl rfl, ?_⟩
    refine brE_ndec (fun c1 => ?_) (fun c1 => ?_)
    · have c1 : ¬ (giftL es)[j].frm = x.to := c1
      exact ⟨congrArg _ (by rw [hof, if_pos ⟨b5, fun e => c1 e.1⟩]), M3.ext⟩
    have c1 : (giftL es)[j].frm = x.to := c1
    refine ⟨_, M3.cell 0 rfl rfl, ?_⟩
    refine ⟨_, M3.cell 1 rfl rfl, ?_⟩
    refine brE_ndec (fun c2 => ?_) (fun c2 => ?_)
    · have c2 : ¬ (giftL es)[j].to = x.frm := c2
      exact ⟨congrArg _ (by rw [hof, if_pos ⟨b5, fun e => c2 e.2.1⟩]), M3.ext⟩
    have c2 : (giftL es)[j].to = x.frm := c2
    refine ⟨_, M3.cell 0 rfl rfl, ?_⟩
    refine brE_ndec (fun c3 => ?_) (fun c3 => ?_)
    · have c3 : ¬ (giftL es)[j].returns = 0 := c3
      exact ⟨congrArg _ (by rw [hof, if_pos ⟨b5, fun e => c3 e.2.2.1⟩]), M3.ext⟩
    have c3 : (giftL es)[j].returns = 0 := c3
    refine ⟨_, M3.cell 0 rfl rfl, ?_⟩
    refine brE_ndec (fun c4 => ?_) (fun c4 => ?_)
    · have c4 : ¬ (giftL es)[j].state = 2 := c4
      exact ⟨congrArg _ (by rw [hof, if_pos ⟨b5, fun e => c4 e.2.2.2⟩]), M3.ext⟩
    have c4 : (giftL es)[j].state = 2 := c4
    rw [if_neg (fun e => e.2 ⟨c1, c2, c3, c4⟩)] at hof
    have ez := M3.ext
    have gz := M3.get 1 rfl
  case' no =>
    have b5 : ¬ x.returns > 0 := b5
    rw [if_neg (fun e => b5 e.1)] at hof
    have ez := M1.ext
    have gz := M1.get 0 rfl
  all_goals
    have hz := h.ext ez
    obtain ⟨fc, mc, hfc⟩ := hz.ceils
    refine ⟨_, cell_of_block (i := 1) hz.block rfl, ?_⟩
    refine ⟨_, cell_of_block gz rfl, ?_⟩
    refine ⟨.tuple #[.int .i64 (ceilL es x.to), .bool (!decide (ceilL es x.to = 0))], mapGet2 C_ok (te := ty3) (x := .int .i64 x.to) (intKey hx.to) mc intK rfl rfl rfl rfl rfl rfl (by rw [hfc]; exact numV_getD _) (by rw [hfc]; exact numV_some _), ?_⟩
    refine brE_ndec (fun d1 => ?_) (fun d1 => ?_)
    · have d1 : ¬ ceilL es x.to = 0 := d1
      refine ⟨x.cells, rfl, Rd.of_block gz, ?_⟩
      refine (worth_spec hz hrate hn hcur).mono ?_
      rintro v w4 ⟨rfl, e4⟩
      refine brE_dec (fun d2 => ?_) (fun d2 => ?_)
      · have d2 : x.n * rateL es x.cur > ceilL es x.to := d2
        exact ⟨congrArg _ (by rw [hof, if_pos ⟨by omega, d2⟩]), ez.trans e4⟩
      · have d2 : ¬ x.n * rateL es x.cur > ceilL es x.to := d2
        exact ⟨congrArg _ (by rw [hof, if_neg (fun e => d2 e.2)]), ez.trans e4⟩
    · have d1 : ceilL es x.to = 0 := d1
      exact ⟨congrArg _ (by rw [hof, if_neg (fun e => by omega)]), ez⟩
theorem end_id {x : Entry} (hf : formX x = true) (hk : x.kind = 4) : 1 ≤ x.w.id ∧ x.w.id ≤ 500 := by
  obtain ⟨hok, _, _⟩ := form_okE hf
  unfold okE at hok
  rw [if_neg (by omega), if_neg (by omega), if_neg (by omega), if_pos hk, decide_eq_true_eq] at hok
  exact hok
theorem ans_id {x : Entry} (hf : formX x = true) (hk : x.kind = 6 ∨ x.kind = 7) : 1 ≤ x.g.id ∧ x.g.id ≤ 500 := by
  obtain ⟨hok, _, _⟩ := form_okE hf
  unfold okE at hok
  rw [if_neg (by omega), if_neg (by omega), if_neg (by omega), if_neg (by omega), if_neg (by omega), if_pos hk, decide_eq_true_eq] at hok
  exact hok
theorem offer_nums {x : Entry} (hf : formX x = true) (hk : x.kind = 5) : (1 ≤ x.g.n ∧ x.g.n ≤ 1000000) ∧ 0 ≤ x.g.returns := by
  obtain ⟨hok, _, _⟩ := form_okE hf
  rw [okE_5 hk] at hok
  unfold rightG at hok
  simp only [Bool.and_eq_true, decide_eq_true_eq] at hok
  exact ⟨hok.1.2, hok.1.1.1.1.2.1⟩
set_option maxRecDepth 100000 in
theorem refused_spec {w : World} {s : SV} {es : List Entry} (h : StateIs w s es) (hA : Acc es) {x : Entry} (hx : x.Nums) (hform : formX x = true) {A : Option Addr} {f : List Fact} {c : Nat} (hf : HF w A f c) (hl : f.length ≤ 2 ^ 20) :
    CallsV C.P 74 #[.pointer (some ⟨s.gs, 0, none⟩), .slice A f.length c, x.val] w fun v w' => v = .int .i64 (refusedE (sgF f x.w) es x) ∧ Ext w w' := by
  have hkind := ok_kind (form_okE hform).1
  have hwl := (acc_ok hA).wlen
  have hgl := (acc_ok hA).gifts.len
  refine callsV_of C_ok (args := [_, _, _]) (plans := plans74) Tryz.func74 rfl Tryz.ntmps74 (by kernel_rfl) (Nat.le_of_ble_eq_true rfl) ?_
  intro g1 w1 h1
  have M1 : Mem w w1 [(g1, .cells x.cells.toArray 27 (0, 0))] := (Mem.start w).alloc h1
  have hs := h.ext M1.ext
  refine ⟨_, M1.cell 0 rfl rfl, ?_⟩
  refine brE_dec (fun k3 => ?_) (fun k3 => ?_)
  · have k3 : x.kind = 3 := k3
    refine ⟨x.w.cells, rfl, (M1.rd 0 rfl).part x.w_part, ?_⟩
    refine (granted_spec hs hA hx.w (hf.ext M1.ext) hl).mono ?_
    rintro v w2 ⟨rfl, e2⟩
    exact ⟨congrArg _ (by unfold refusedE; rw [if_pos k3]), M1.ext.trans e2⟩
  have k3 : ¬ x.kind = 3 := k3
  refine brE_dec (fun k4 => ?_) (fun k4 => ?_)
  · have k4 : x.kind = 4 := k4
    have hid := end_id hform k4
    have hr : refusedE (sgF f x.w) es x = if x.w.id > (waivL es).length then 5 else if (atN (waivL es) x.w.id).til ≤ x.day then 8 else 0 := by
      unfold refusedE; rw [if_neg k3, if_pos k4]
    obtain ⟨Aw, cw, hvw, _, _⟩ := reads_of_owns h.waivs
    refine ⟨_, M1.cell 0 rfl rfl, ?_⟩
    refine ⟨.slice Aw (waivL es).length cw, cell_of_block (i := 2) hs.block (by show some s.vW = _; rw [hvw]), ?_⟩
    refine brE_dec (fun b1 => ?_) (fun b1 => ?_)
    · have b1 : x.w.id > ((waivL es).length : Nat) := b1
      exact ⟨congrArg _ (by rw [hr, if_pos b1]), M1.ext⟩
    have b1 : ¬ x.w.id > ((waivL es).length : Nat) := b1
    obtain ⟨j, hj, hje⟩ := num_of (n := (waivL es).length) (i := x.w.id) (by omega) (by omega)
    obtain ⟨A', c', b, o, hv, hA', hrd⟩ := hs.waiv hj
    have hat : atN (waivL es) x.w.id = (waivL es)[j] := by rw [hje]; exact atN_get hj
    rw [hat, if_neg b1] at hr
    refine ⟨.slice A' (waivL es).length c', cell_of_block (i := 2) hs.block (by show some s.vW = _; rw [hv]), ?_⟩
    refine ⟨_, M1.cell 0 rfl rfl, ?_⟩
    refine ⟨(j : Int), by show IntKind.i64.wrap (x.w.id - 1) = _; rw [hje, fit ⟨by omega, by omega⟩]; omega, ?_⟩
    refine ⟨j, b, o, rfl, hj, hA', ?_⟩
    refine ⟨_, hrd 8 _ rfl, ?_⟩
    refine ⟨_, M1.cell 0 rfl rfl, ?_⟩
    refine brE_dec (fun b2 => ?_) (fun b2 => ?_)
    · have b2 : (waivL es)[j].til ≤ x.day := b2
      exact ⟨congrArg _ (by rw [hr, if_pos b2]), M1.ext⟩
    · have b2 : ¬ (waivL es)[j].til ≤ x.day := b2
      exact ⟨congrArg _ (by rw [hr, if_neg b2]), M1.ext⟩
  have k4 : ¬ x.kind = 4 := k4
  refine brE_dec (fun k5 => ?_) (fun k5 => ?_)
  · have k5 : x.kind = 5 := k5
    obtain ⟨hn, hret⟩ := offer_nums hform k5
    refine ⟨x.g.cells, rfl, (M1.rd 0 rfl).part x.g_part, ?_⟩
    refine (offered_spec hs hA hx.g hn hret).mono ?_
    rintro v w2 ⟨rfl, e2⟩
    exact ⟨congrArg _ (by unfold refusedE; rw [if_neg k3, if_neg k4, if_pos k5]), M1.ext.trans e2⟩
  have k5 : ¬ x.kind = 5 := k5
  have ans : x.kind = 6 ∨ x.kind = 7 → refusedE (sgF f x.w) es x = if x.g.id > (giftL es).length then 5 else if ¬ (atN (giftL es) x.g.id).state = 1 then 8 else 0 := fun k => by
    unfold refusedE; rw [if_neg k3, if_neg k4, if_neg k5, if_pos k]
  obtain ⟨Ag, cg, hvg, _, _⟩ := reads_of_owns h.gifts
  refine brE_dec (fun k6 => ?k6) (fun k6 => ?no)
  case' no =>
    have k6 : ¬ x.kind = 6 := k6
    refine brE_dec (fun k7 => ?k7) (fun k7 => ?k8)
  case k8 =>
    have k7 : ¬ x.kind = 7 := k7
    exact ⟨congrArg _ (by unfold refusedE; rw [if_neg k3, if_neg k4, if_neg k5, if_neg (by omega)]), M1.ext⟩
  case' k6 =>
    have kk : x.kind = 6 ∨ x.kind = 7 := .inl k6
    refine brE_true (decide_eq_true k6) ?_
  case' k7 => have kk : x.kind = 6 ∨ x.kind = 7 := .inr k7
  all_goals
    have hid := ans_id hform kk
    have hr := ans kk
    refine ⟨_, M1.cell 0 rfl rfl, ?_⟩
    refine ⟨.slice Ag (giftL es).length cg, cell_of_block (i := 4) hs.block (by show some s.vG = _; rw [hvg]), ?_⟩
    refine brE_dec (fun b1 => ?_) (fun b1 => ?_)
    · have b1 : x.g.id > ((giftL es).length : Nat) := b1
      exact ⟨congrArg _ (by rw [hr, if_pos b1]), M1.ext⟩
    have b1 : ¬ x.g.id > ((giftL es).length : Nat) := b1
    obtain ⟨j, hj, hje⟩ := num_of (n := (giftL es).length) (i := x.g.id) (by omega) (by omega)
    obtain ⟨A', c', b, o, hv, hA', hrd⟩ := hs.gift hj
    have hat : atN (giftL es) x.g.id = (giftL es)[j] := by rw [hje]; exact atN_get hj
    rw [hat, if_neg b1] at hr
    refine ⟨.slice A' (giftL es).length c', cell_of_block (i := 4) hs.block (by show some s.vG = _; rw [hv]), ?_⟩
    refine ⟨_, M1.cell 0 rfl rfl, ?_⟩
    refine ⟨(j : Int), by show IntKind.i64.wrap (x.g.id - 1) = _; rw [hje, fit ⟨by omega, by omega⟩]; omega, ?_⟩
    refine ⟨j, b, o, rfl, hj, hA', ?_⟩
    refine ⟨_, hrd 7 _ rfl, ?_⟩
    refine brE_ndec (fun b2 => ?_) (fun b2 => ?_)
    · have b2 : ¬ (giftL es)[j].state = 1 := b2
      exact ⟨congrArg _ (by rw [hr, if_pos b2]), M1.ext⟩
    · have b2 : (giftL es)[j].state = 1 := b2
      exact ⟨congrArg _ (by rw [hr, if_neg (fun e => e b2)]), M1.ext⟩
end Go.Proofs.YtahgjidcaeieaaaGreatDoor
namespace Go.Proofs.YtahgjidcaeieaaaGreatDoor
open Go.Eng Go.RowKit
open Go.Maps (Keyed)
theorem underL : Tryz.prog.underlying 35 = some (.pointer (Tryz.prog.pointee 35)) := by kernel_rfl
theorem eqNilP (x y : Operand) (p : Option Addr) : EqIs C.P .eql 35 x y (.pointer p) (.pointer none) p.isNone := by
  intro w
  have hu : C.P.underlying 35 = some (.pointer (C.P.pointee 35)) := underL
  have h1 : (eqGuard .eql 35 x y (.pointer p) (.pointer none)).run C.P w = .ok () w := by simp [eqGuard]
  rw [Sem.run_bind, h1]
  simp only [Result.andThen_ok]
  exact run_eql_pointer_nil _ _ _ hu
theorem New_spec (w : World) : CallsV C.P 9 #[] w fun v w' => ∃ l : LV, v = l.ptr ∧ LdNew w w' l [] := by
  refine callsV_of C_ok (args := []) (plans := []) Tryz.func9 rfl Tryz.ntmps9 (by kernel_rfl) (Nat.le_of_ble_eq_true rfl) ?_
  refine (newState_spec w).mono ?_
  rintro v w1 ⟨⟨s, rfl, hs, hn⟩, e1⟩
  intro g w2 h2
  refine ⟨⟨g, .slice none 0 0, s⟩, rfl, ⟨h2.here, World.ownsRow_nil _ _ _ _, hs.ext h2.ext, .nil, fun x hx => by cases hx⟩, ?_, e1.trans h2.ext⟩
  rintro k (hk | hk | hk)
  · rw [hk]; show w.heap.size ≤ g; rw [h2.new]; exact e1.size
  · cases hk
  · exact hn k hk
theorem lastDay_get {es : List Entry} (h : 0 < es.length) : lastDay es = (es[es.length - 1]'(by omega)).day := by
  unfold lastDay
  rw [List.getLast?_eq_getElem?, List.getElem?_eq_getElem (by omega)]; rfl
theorem Day_spec {w : World} {l : LV} {es : List Entry} (h : LedgerIs w l es) (hl : es.length ≤ 2 ^ 20) : CallsV C.P 63 #[l.ptr] w fun v w' => v = .int .i64 (lastDay es) ∧ w' = w := by
  obtain ⟨A, c, hv, hr, _⟩ := reads_of_owns h.row
  refine callsV_of C_ok (args := [_]) (plans := plans63) Tryz.func63 rfl Tryz.ntmps63 (by kernel_rfl) (Nat.le_of_ble_eq_true rfl) ?_
  have hvc : w.cell? ⟨l.gl, 0, none⟩ = some (.slice A es.length c) := cell_of_block h.block (by show some l.vE = _; rw [hv])
  refine ⟨_, eqNilP _ _ _, ?_⟩
  refine ⟨_, hvc, ?_⟩
  refine brE_dec (fun b1 => ?_) (fun b1 => ?_)
  · have b1 : ((es.length : Nat) : Int) = 0 := b1
    have : es = [] := List.length_eq_zero_iff.1 (by omega)
    subst this
    exact ⟨rfl, rfl⟩
  have b1 : ¬ ((es.length : Nat) : Int) = 0 := b1
  refine ⟨_, hvc, ?_⟩
  refine ⟨_, hvc, ?_⟩
  refine ⟨((es.length - 1 : Nat) : Int), by show IntKind.i64.wrap (((es.length : Nat) : Int) - 1) = _; rw [fit ⟨by omega, by omega⟩]; omega, ?_⟩
  obtain ⟨b, o, hA, hrd⟩ := Reads.elem Entry.len (by omega) hr (i := es.length - 1) (by omega)
  refine ⟨es.length - 1, b, o, rfl, (by omega : es.length - 1 < es.length), hA, ?_⟩
  refine ⟨_, hrd 1 _ rfl, ?_⟩
  exact ⟨congrArg _ (lastDay_get (by omega)).symm, rfl⟩
theorem Entries_spec {w : World} {l : LV} {es : List Entry} (h : LedgerIs w l es) (hl : es.length ≤ 2 ^ 20) : CallsV C.P 17 #[l.ptr] w fun v w' => NewL Entry.cells 27 24 w.heap.size w' v es ∧ Ext w w' := by
  obtain ⟨A, c, hv, hr, _⟩ := reads_of_owns h.row
  refine callsV_of C_ok (args := [_]) (plans := []) Tryz.func17 rfl Tryz.ntmps17 (by kernel_rfl) (Nat.le_of_ble_eq_true rfl) ?_
  have hvc : w.cell? ⟨l.gl, 0, none⟩ = some (.slice A es.length c) := cell_of_block h.block (by show some l.vE = _; rw [hv])
  refine ⟨_, eqNilP _ _ _, ?_⟩
  refine ⟨_, hvc, ?_⟩
  refine (CloneE_spec hr hl).mono ?_
  rintro v w1 ⟨h1, e1⟩
  exact ⟨h1, e1⟩
def beginE (es : List Entry) (x : Entry) : Int := if formX x = false then 1 else if x.day < lastDay es then 7 else 0
theorem begin_spec {w : World} {l : LV} {es : List Entry} (h : LedgerIs w l es) (hl : es.length ≤ 2 ^ 20) {x : Entry} (hx : x.Nums) : CallsV C.P 73 #[l.ptr, x.val] w fun v w' => v = .int .i64 (beginE es x) ∧ Ext w w' := by
  refine callsV_of C_ok (args := [_, _]) (plans := plans73) Tryz.func73 rfl Tryz.ntmps73 (by kernel_rfl) (Nat.le_of_ble_eq_true rfl) ?_
  intro g1 w1 h1
  have M1 : Mem w w1 [(g1, .cells x.cells.toArray 27 (0, 0))] := (Mem.start w).alloc h1
  refine ⟨_, eqNilP _ _ _, ?_⟩
  refine ⟨x.cells, rfl, M1.rd 0 rfl, ?_⟩
  refine (formed_spec x hx w1).mono ?_
  rintro v w2 ⟨rfl, e2⟩
  have M2 := M1.grow e2
  refine brE_mk (fun b1 => ?_) (fun b1 => ?_)
  · have b1 : formX x = false := by simpa using b1
    exact ⟨congrArg _ (by unfold beginE; rw [if_pos b1]), M2.ext⟩
  have b1 : formX x = true := by simpa using b1
  refine ⟨_, M2.cell 0 rfl rfl, ?_⟩
  refine (Day_spec (h.ext M2.ext) hl).mono ?_
  rintro v w3 ⟨rfl, rfl⟩
  refine ⟨Ext.refl _, ?_⟩
  refine brE_dec (fun b2 => ?_) (fun b2 => ?_)
  · have b2 : x.day < lastDay es := b2
    exact ⟨congrArg _ (by unfold beginE; rw [if_neg (by rw [b1]; decide), if_pos b2]), M2.ext⟩
  · have b2 : ¬ x.day < lastDay es := b2
    exact ⟨congrArg _ (by unfold beginE; rw [if_neg (by rw [b1]; decide), if_neg b2]), M2.ext⟩
set_option maxRecDepth 100000 in
theorem Do_spec {w : World} {l : LV} {es : List Entry} (h : LedgerIs w l es) (hl : es.length ≤ 2 ^ 16) {x : Entry} (hx : x.Nums) {A : Option Addr} {f : List Fact} {c : Nat} (hf : HF w A f c) (hfl : f.length ≤ 2 ^ 20) :
    CallsV C.P 44 #[l.ptr, .slice A f.length c, x.val] w fun v w' => v = .int .i64 (doF f es x) ∧ LdGo w l (addL (doF f es x) es x) w' := by
  refine callsV_of C_ok (args := [_, _, _]) (plans := plans44) Tryz.func44 rfl Tryz.ntmps44 (by kernel_rfl) (Nat.le_of_ble_eq_true rfl) ?_
  intro g1 w1 h1
  have M1 : Mem w w1 [(g1, .cells x.cells.toArray 27 (0, 0))] := (Mem.start w).alloc h1
  refine ⟨x.cells, rfl, M1.rd 0 rfl, ?_⟩
  refine (begin_spec (h.ext M1.ext) (by omega) hx).mono ?_
  rintro v w2 ⟨rfl, e2⟩
  have M2 := M1.grow e2
  refine brE_ndec (fun b1 => ?_) (fun b1 => ?_)
  · have b1 : ¬ beginE es x = 0 := b1
    have hd : doF f es x = beginE es x := by
      unfold doF doE beginE at *
      split
      · rfl
      · rename_i h1
        rw [if_neg h1] at b1
        split
        · rfl
        · rename_i h2; rw [if_neg h2] at b1; exact absurd rfl b1
    refine ⟨congrArg _ hd.symm, ?_⟩
    have : addL (doF f es x) es x = es := by unfold addL; rw [if_neg (by rw [hd]; exact b1)]
    rw [this]
    exact LdGo.ext h M2.ext
  have b1 : beginE es x = 0 := b1
  have hform : formX x = true := by
    unfold beginE at b1
    split at b1
    · cases b1
    · rename_i h1; simpa using h1
  have hday : ¬ x.day < lastDay es := by
    unfold beginE at b1
    rw [if_neg (by rw [hform]; decide)] at b1
    split at b1
    · cases b1
    · assumption
  have hd : doF f es x = refusedE (sgF f x.w) es x := by
    unfold doF doE
    rw [if_neg (by rw [hform]; decide), if_neg hday]
  have h2' := h.ext M2.ext
  refine ⟨_, cell_of_block (i := 1) h2'.block rfl, ?_⟩
  refine ⟨x.cells, rfl, M2.rd 0 rfl, ?_⟩
  refine (refused_spec h2'.st h.acc hx hform (hf.ext M2.ext) hfl).mono ?_
  rintro v w3 ⟨rfl, e3⟩
  have M3 := M2.grow e3
  rw [hd]
  refine brE_ndec (fun b2 => ?_) (fun b2 => ?_)
  · have b2 : ¬ refusedE (sgF f x.w) es x = 0 := b2
    refine ⟨rfl, ?_⟩
    have : addL (refusedE (sgF f x.w) es x) es x = es := by unfold addL; rw [if_neg b2]
    rw [this]
    exact LdGo.ext h M3.ext
  have b2 : refusedE (sgF f x.w) es x = 0 := b2
  have hdo : doE (sgF f x.w) es x = 0 := by rw [← b2, ← hd]; rfl
  have hadd : addL (refusedE (sgF f x.w) es x) es x = es ++ [x] := by unfold addL; rw [if_pos b2]
  have h3 := h.ext M3.ext
  refine ⟨_, cell_of_block (i := 1) h3.block rfl, ?_⟩
  refine ⟨x.cells, rfl, M3.rd 0 rfl, ?_⟩
  refine (do_spec h3.st h.acc hx hdo).mono ?_
  rintro v w4 ⟨s4, hgs4, hst4, hk4, hn4⟩
  -- the ledger's own blocks are as they were
  have keep4 : Keep (fun k => ¬ l.s.has k) w w4 := keep_trans (keep_ext M3.ext) hk4 fun _ hq _ => hq
  have hb4 : w4.heap[l.gl]? = some (.cells l.cells.toArray 88 (0, 0)) := hk4.heap h3.offS h3.block
  have hrow4 : w4.ownsRow 0 27 24 l.vE es.length (es.flatMap Entry.cells) := owns_same h3.row fun k hk => hk4.block k (h3.offE hk).1 (h3.lt (.inr (.inl hk)))
  have hg4 : w4.heap[g1]? = some (.cells x.cells.toArray 27 (0, 0)) := hk4.heap (fun hq => by have := h.st.lt hq; have := M3.new 0 rfl; omega) (M3.get 0 rfl)
  obtain ⟨A4, c4, hv4, _, _⟩ := reads_of_owns hrow4
  refine ⟨.slice A4 es.length c4, cell_of_block (i := 0) hb4 (by show some l.vE = _; rw [hv4]), ?_⟩
  refine ⟨x.cells, rfl, Rd.of_block hg4, ?_⟩
  intro g5 w5 h5
  refine ⟨h5.ext, ?_⟩
  have hrow5 := ownsRow_ext hrow4 h5.ext
  rw [hv4] at hrow5
  refine ⟨rfl, rfl, rfl, 0, _, _, x.cells, hrow5, Nat.zero_le _, Nat.le_of_ble_eq_true rfl, rfl, rfl, .inr ⟨g5, 0, rfl, Rd.of_block h5.here⟩, rfl, rfl, by omega, by simp only [maxLen]; omega, ?_⟩
  intro v6 w6 ho6 hg6 hpl
  have hb5 := h5.ext.heap hb4
  have offg : ∀ k, (Value.slice A4 es.length c4).ownBlock = some k → k ≠ l.gl := fun k hk => (h3.offE (by rw [hv4]; exact hk)).2
  have hb6 : w6.heap[l.gl]? = some (.cells l.cells.toArray 88 (0, 0)) := by
    rw [hg6.block _ (lt_of_heap hb5) (fun e => offg _ e.symm rfl)]; exact hb5
  obtain ⟨A6, c6, rfl, _, _⟩ := reads_of_owns ho6
  refine ⟨rfl, _, _, hb6, Nat.le_of_ble_eq_true rfl, rfl, ?_⟩
  intro w7 h7
  rw [hadd]
  refine ⟨congrArg _ b2.symm, ?_⟩
  -- the new state's blocks stay
  have st5 : StateIs w5 s4 (es ++ [x]) := hst4.ext h5.ext
  have offR : ∀ k, (Value.slice A4 es.length c4).ownBlock = some k → ¬ s4.has k := fun k hk hq => by
    obtain ⟨_, cur, e⟩ := owns_at hrow5 hk
    exact st5.off e (by decide) (by decide) (by decide) hq
  have offL : ¬ s4.has l.gl := st5.off hb5 (by decide) (by decide) (by decide)
  have st7 : StateIs w7 s4 (es ++ [x]) := st5.keep fun k hk => by
    rw [h7.there k (fun e => offL (e ▸ hk)), hg6.block k (st5.lt hk) (fun e => offR k e.symm hk)]
  generalize hl' : (LV.mk l.gl (.slice A6 (es.length + 1) c6) s4) = l'
  have hrow7 : w7.ownsRow 0 27 24 (.slice A6 (es.length + 1) c6) (es.length + 1) (es.flatMap Entry.cells ++ x.cells) := ownsRow_put ho6 h7 (fun e => by
    obtain ⟨_, cur, hc⟩ := owns_at ho6 e
    rw [hb6] at hc; simp at hc)
  refine ⟨l', by rw [← hl'], ⟨?_, ?_, ?_, .snoc _ h.acc hdo, ?_⟩, ?_, ?_⟩
  · have h7' : Put w6 l.gl (.cells #[.slice A6 (es.length + 1) c6, .pointer (some ⟨l.s.gs, 0, none⟩)] 88 (0, 0)) w7 := h7
    rw [← hl']
    show w7.heap[l.gl]? = some (.cells #[.slice A6 (es.length + 1) c6, .pointer (some ⟨s4.gs, 0, none⟩)] 88 (0, 0))
    rw [hgs4]
    exact h7'.here
  · rw [← hl', List.length_append, List.flatMap_append]
    have := hrow7
    simpa using this
  · rw [← hl']; exact st7
  · intro y hy
    rcases List.mem_append.1 hy with hy | hy
    · exact h.nums y hy
    · rw [List.mem_singleton.1 hy]; exact hx
  · have k4 : Keep (fun k => ¬ l.has k) w w4 := keep_trans (keep_ext M3.ext) hk4 fun q hq _ hs => hq (.inr (.inr hs))
    exact ((k4.ext h5.ext).grown hg6 (fun k hk hn => hn (.inr (.inl (by rw [hv4]; exact hk))))).put h7 (fun hn => hn (.inl rfl))
  · intro k hk
    rw [← hl'] at hk
    rcases hk with hk | hk | hk
    · exact .inl (.inl hk)
    · rcases hpl.2 k hk with h6 | h6
      · exact .inl (.inr (.inl (by rw [hv4]; exact h6)))
      · exact .inr (Nat.le_trans (Nat.le_trans keep4.size h5.ext.size) h6)
    · rcases hn4 k hk with h6 | h6
      · exact .inl (.inr (.inr h6))
      · exact .inr (Nat.le_trans M3.ext.size h6)
end Go.Proofs.YtahgjidcaeieaaaGreatDoor
namespace Go.Proofs.YtahgjidcaeieaaaGreatDoor
open Go.Eng Go.RowKit
set_option maxHeartbeats 8000000 in
set_option maxRecDepth 100000 in
theorem gifts_with {w : World} {b1 b2 b3 b4 b5 b6 t1 t4 : Nat} {day frm to cur n ret : Int} (h1 : w.heap[b1]? = some (.cells #[.int .i64 day] t1 (0, 0))) (h2 : w.heap[b2]? = some (.cells #[.int .i64 frm] t1 (0, 0))) (h3 : w.heap[b3]? = some (.cells #[.int .i64 to] t1 (0, 0)))
    (h4 : w.heap[b4]? = some (.cells #[.int .u8 cur] t4 (0, 0))) (h5 : w.heap[b5]? = some (.cells #[.int .i64 n] t1 (0, 0))) (h6 : w.heap[b6]? = some (.cells #[.int .i64 ret] t1 (0, 0))) (i : Int) :
    CallsV C.P 46 (#[] ++ [.int .i64 i].toArray ++ #[.pointer (some ⟨b1, 0, none⟩), .pointer (some ⟨b2, 0, none⟩), .pointer (some ⟨b3, 0, none⟩), .pointer (some ⟨b4, 0, none⟩), .pointer (some ⟨b5, 0, none⟩), .pointer (some ⟨b6, 0, none⟩)]) w
      fun v w' => v = (Entry.mk 5 day waivZ ⟨i, day, frm, to, cur, n, 0, 0, 0, ret⟩ 0 0 0).val ∧ Ext w w' := by
  refine callsV_of C_ok (args := [_, _, _, _, _, _, _]) (plans := []) Tryz.func46 rfl Tryz.ntmps46 (by kernel_rfl) (Nat.le_of_ble_eq_true rfl) ?_
  intro g3 w1 a1
  have M1 := (Mem.start w).alloc a1
  refine ⟨_, cell_of_block (M1.ext.heap h1) rfl, ?_⟩
  refine ⟨_, cell_of_block (M1.ext.heap h1) rfl, ?_⟩
  refine ⟨_, cell_of_block (M1.ext.heap h2) rfl, ?_⟩
  refine ⟨_, cell_of_block (M1.ext.heap h3) rfl, ?_⟩
  refine ⟨_, cell_of_block (M1.ext.heap h4) rfl, ?_⟩
  refine ⟨_, cell_of_block (M1.ext.heap h5) rfl, ?_⟩
  refine ⟨_, cell_of_block (M1.ext.heap h6) rfl, ?_⟩
  refine ⟨by kernel_rfl, _, _, M1.get 0 rfl, Nat.le_of_ble_eq_true (by kernel_rfl), by kernel_rfl, ?_⟩
  intro w2 a2
  have a2 := put_eq a2 (o' := .cells (Entry.mk 5 day waivZ ⟨i, day, frm, to, cur, n, 0, 0, 0, ret⟩ 0 0 0).cells.toArray 27 (0, 0)) (by kernel_rfl)
  have M2 : Mem w w2 [(g3, .cells (Entry.mk 5 day waivZ ⟨i, day, frm, to, cur, n, 0, 0, 0, ret⟩ 0 0 0).cells.toArray 27 (0, 0))] := M1.put 0 rfl a2
  refine ⟨(Entry.mk 5 day waivZ ⟨i, day, frm, to, cur, n, 0, 0, 0, ret⟩ 0 0 0).cells, rfl, M2.rd 0 rfl, ?_⟩
  exact ⟨rfl, M2.ext⟩
end Go.Proofs.YtahgjidcaeieaaaGreatDoor
namespace Go.Proofs.YtahgjidcaeieaaaGreatDoor
open Go.Eng Go.RowKit
theorem hf_nil (w : World) : HF w none [] 0 := ⟨(fun x hx => by cases hx), .inl rfl, Nat.le_refl _, Nat.zero_le _⟩
theorem doF_any {x : Entry} (hk : x.kind ≠ 3) (f g : List Fact) (es : List Entry) : doF f es x = doF g es x := by
  unfold doF doE refusedE
  rw [if_neg hk, if_neg hk]
theorem in64_0 : In64 0 := ⟨by decide, by decide⟩
theorem waivZ_nums : waivZ.Nums := ⟨in64_0, in64_0, in64_0, in64_0, in64_0, in64_0, in64_0, in64_0, in64_0⟩
theorem giftZ_nums : giftZ.Nums := ⟨in64_0, in64_0, in64_0, in64_0, ⟨by decide, by decide⟩, in64_0, in64_0, ⟨by decide, by decide⟩, in64_0, in64_0⟩
theorem rateE_nums {day c n : Int} (h1 : In64 day) (h2 : 0 ≤ c ∧ c ≤ 255) (h3 : In64 n) : (rateE day c n).Nums := ⟨(by show (0 : Int) ≤ 1 ∧ (1 : Int) ≤ 255; decide), h1, waivZ_nums, giftZ_nums, ⟨by show -9223372036854775808 ≤ c; omega, by show c ≤ 9223372036854775807; omega⟩, in64_0, h3⟩
theorem takeE_nums {day i : Int} (h1 : In64 day) (h2 : In64 i) : (takeE day i).Nums := ⟨(by show (0 : Int) ≤ 6 ∧ (6 : Int) ≤ 255; decide), h1, waivZ_nums, { giftZ_nums with id := h2 }, in64_0, in64_0, in64_0⟩
theorem SetRate_spec {w : World} {l : LV} {es : List Entry} (h : LedgerIs w l es) (hl : es.length ≤ 2 ^ 16) {day c n : Int} (h1 : In64 day) (h2 : 0 ≤ c ∧ c ≤ 255) (h3 : In64 n) (f : List Fact) :
    CallsV C.P 14 #[l.ptr, .int .i64 day, .int .u8 c, .int .i64 n] w fun v w' => v = .int .i64 (doF f es (rateE day c n)) ∧ LdGo w l (addL (doF f es (rateE day c n)) es (rateE day c n)) w' := by
  rw [doF_any (x := rateE day c n) (show (1 : Int) ≠ 3 by decide) f []]
  refine callsV_of C_ok (args := [_, _, _, _]) (plans := []) Tryz.func14 rfl Tryz.ntmps14 (by kernel_rfl) (Nat.le_of_ble_eq_true rfl) ?_
  refine ⟨c, fit ⟨by omega, by omega⟩, ?_⟩
  exact (Do_spec h hl (rateE_nums h1 h2 h3) (hf_nil w) (Nat.zero_le _)).mono fun v w' hv => hv
theorem Take_spec {w : World} {l : LV} {es : List Entry} (h : LedgerIs w l es) (hl : es.length ≤ 2 ^ 16) {day i : Int} (h1 : In64 day) (h2 : In64 i) (f : List Fact) :
    CallsV C.P 16 #[l.ptr, .int .i64 day, .int .i64 i] w fun v w' => v = .int .i64 (doF f es (takeE day i)) ∧ LdGo w l (addL (doF f es (takeE day i)) es (takeE day i)) w' := by
  rw [doF_any (x := takeE day i) (show (6 : Int) ≠ 3 by decide) f []]
  refine callsV_of C_ok (args := [_, _, _]) (plans := []) Tryz.func16 rfl Tryz.ntmps16 (by kernel_rfl) (Nat.le_of_ble_eq_true rfl) ?_
  exact (Do_spec h hl (takeE_nums h1 h2) (hf_nil w) (Nat.zero_le _)).mono fun v w' hv => hv
theorem reads_but {w w1 : World} {A : Option Addr} {cs : List Value} (h : Reads w A cs) {gx : Nat} (hg : w.heap.size ≤ gx) (e : Ext w w1) : cs = [] ∨ ∃ b o, A = some ⟨b, o, none⟩ ∧ b ≠ gx ∧ Rd w1 b o cs := by
  rcases h with h | ⟨b, o, hA, hr⟩
  · exact .inl h
  · cases cs with
    | nil => exact .inl rfl
    | cons v r =>
      have hlt : b < w.heap.size := block_lt_of_cell (hr 0 v rfl)
      exact .inr ⟨b, o, hA, by omega, hr.ext e⟩
def LdBut (gx : Nat) (w : World) (l : LV) (es : List Entry) (w' : World) : Prop := ∃ l', l'.gl = l.gl ∧ LedgerIs w' l' es ∧ Keep (fun k => ¬ l.has k ∧ k ≠ gx) w w' ∧ ∀ k, l'.has k → l.has k ∨ w.heap.size ≤ k
set_option maxRecDepth 100000 in
theorem next_spec {w : World} {l : LV} {es : List Entry} (h : LedgerIs w l es) (hl : es.length ≤ 2 ^ 16) {A : Option Addr} {f : List Fact} {c : Nat} (hf : HF w A f c) (hfl : f.length ≤ 2 ^ 20) {x : Entry} (hx : x.Nums)
    {g1 g2 gx n : Nat} {c1 c2 : Array Value} (hn : n < 500) (hg1 : C.can g1 = true) (hg2 : C.can g2 = true) (hgx : ¬ l.has gx) (hfx : fcells f = [] ∨ ∃ b o, A = some ⟨b, o, none⟩ ∧ b ≠ gx ∧ Rd w b o (fcells f))
    (have_ : ∀ w', Ext w w' → CallsV C.P g1 (#[] ++ ([] : List Value).toArray ++ c1) w' fun v w'' => v = .int .i64 (n : Nat) ∧ Ext w' w'')
    (with_ : ∀ w', Ext w w' → CallsV C.P g2 (#[] ++ [.int .i64 ((n + 1 : Nat) : Int)].toArray ++ c2) w' fun v w'' => v = x.val ∧ Keep (fun k => k ≠ gx) w' w'') :
    CallsV C.P 35 #[l.ptr, .slice A f.length c, .func (.func g1) #[] c1, .int .i64 500, .func (.func g2) #[] c2] w fun v w' => v = .tuple #[.int .i64 (if doF f es x = 0 then ((n + 1 : Nat) : Int) else 0), .int .i64 (doF f es x)] ∧ LdBut gx w l (addL (doF f es x) es x) w' := by
  refine callsV_of C_ok (args := [_, _, _, _, _]) (plans := []) Tryz.func35 rfl Tryz.ntmps35 (by kernel_rfl) (Nat.le_of_ble_eq_true rfl) ?_
  intro g9 w1 h1
  have M1 : Mem w w1 [(g9, .cells #[.func (.func g2) #[] c2] 97 (0, 0))] := (Mem.start w).alloc h1
  refine ⟨_, eqNilP _ _ _, ?_⟩
  refine brE_true hg1 ?_
  refine (have_ w1 M1.ext).mono ?_
  rintro v w2 ⟨rfl, e2⟩
  have M2 := M1.grow e2
  refine ⟨((n + 1 : Nat) : Int), fit ⟨by omega, by omega⟩, ?_⟩
  refine brE_true (decide_eq_true (by show ((n + 1 : Nat) : Int) ≤ 500; omega)) ?_
  refine ⟨_, M2.cell 0 rfl rfl, ?_⟩
  refine brE_true hg2 ?_
  refine (with_ w2 M2.ext).mono ?_
  rintro v w3 ⟨rfl, k3⟩
  have h3 : LedgerIs w3 l es := (h.ext M2.ext).keep fun k hk => k3.block k (fun e => hgx (e ▸ hk)) (Nat.lt_of_lt_of_le (h.lt hk) M2.ext.size)
  have hf3 : HF w3 A f c := ⟨hf.nums, by
    rcases hfx with hr | ⟨b, o, hA, hb, hr⟩
    · exact .inl hr
    · exact .inr ⟨b, o, hA, k3.rd (D := fun k => k ≠ gx) hb (hr.ext M2.ext)⟩, hf.len, hf.cap⟩
  have k13 : Keep (fun k => ¬ l.has k ∧ k ≠ gx) w w3 := keep_trans (keep_ext M2.ext) k3 fun q hq _ => hq.2
  refine (Do_spec h3 hl hx hf3 hfl).mono ?_
  rintro v w4 ⟨rfl, l4, hg4, hi4, hk4, hn4⟩
  have goal : LdBut gx w l (addL (doF f es x) es x) w4 := ⟨l4, hg4, hi4, keep_trans k13 hk4 fun q hq _ => hq.1, fun k hk => (hn4 k hk).imp id fun h => Nat.le_trans k13.size h⟩
  refine brE_ndec (fun b => ?_) (fun b => ?_)
  · have b : ¬ doF f es x = 0 := b
    exact ⟨by rw [if_neg b], goal⟩
  · have b : doF f es x = 0 := b
    exact ⟨by rw [if_pos b, b], goal⟩
theorem grantE_nums {es : List Entry} {x : Waiv} (hx : x.Nums) (hl : (waivL es).length ≤ 2 ^ 16) : (grantE es x).Nums := ⟨(by show (0 : Int) ≤ 3 ∧ (3 : Int) ≤ 255; decide), hx.day, { hx with id := ⟨by show -9223372036854775808 ≤ (((waivL es).length + 1 : Nat) : Int); omega, by show (((waivL es).length + 1 : Nat) : Int) ≤ 9223372036854775807; omega⟩ }, giftZ_nums, in64_0, in64_0, in64_0⟩
theorem grants_len {w : World} {l : LV} {es : List Entry} (h : LedgerIs w l es) {g : Nat} (hg : w.heap[g]? = some (.cells #[l.ptr] 35 (0, 0))) :
    CallsV C.P 36 (#[] ++ ([] : List Value).toArray ++ #[.pointer (some ⟨g, 0, none⟩)]) w fun v w' => v = .int .i64 ((waivL es).length : Nat) ∧ Ext w w' := by
  obtain ⟨A, c, hv, _, _⟩ := reads_of_owns h.st.waivs
  refine callsV_of C_ok (args := [_]) (plans := []) Tryz.func36 rfl Tryz.ntmps36 (by kernel_rfl) (Nat.le_of_ble_eq_true rfl) ?_
  refine ⟨l.ptr, cell_of_block hg rfl, ?_⟩
  refine ⟨_, cell_of_block (i := 1) h.block rfl, ?_⟩
  refine ⟨.slice A (waivL es).length c, cell_of_block (i := 2) h.st.block (by show some l.s.vW = _; rw [hv]), ?_⟩
  exact ⟨rfl, Ext.refl _⟩
theorem gifts_len {w : World} {l : LV} {es : List Entry} (h : LedgerIs w l es) {g : Nat} (hg : w.heap[g]? = some (.cells #[l.ptr] 35 (0, 0))) :
    CallsV C.P 45 (#[] ++ ([] : List Value).toArray ++ #[.pointer (some ⟨g, 0, none⟩)]) w fun v w' => v = .int .i64 ((giftL es).length : Nat) ∧ Ext w w' := by
  obtain ⟨A, c, hv, _, _⟩ := reads_of_owns h.st.gifts
  refine callsV_of C_ok (args := [_]) (plans := []) Tryz.func45 rfl Tryz.ntmps45 (by kernel_rfl) (Nat.le_of_ble_eq_true rfl) ?_
  refine ⟨l.ptr, cell_of_block hg rfl, ?_⟩
  refine ⟨_, cell_of_block (i := 1) h.block rfl, ?_⟩
  refine ⟨.slice A (giftL es).length c, cell_of_block (i := 4) h.st.block (by show some l.s.vG = _; rw [hv]), ?_⟩
  exact ⟨rfl, Ext.refl _⟩
theorem grants_with {w : World} {x : Waiv} {g : Nat} (hg : w.heap[g]? = some (.cells x.cells.toArray 23 (0, 0))) (i : Int) :
    CallsV C.P 37 (#[] ++ [.int .i64 i].toArray ++ #[.pointer (some ⟨g, 0, none⟩)]) w fun v w' => v = (Entry.mk 3 x.day { x with id := i } giftZ 0 0 0).val ∧ Keep (fun k => k ≠ g) w w' := by
  suffices hQ : ∀ Q : Value → World → Prop, (∀ v w', v = (Entry.mk 3 x.day { x with id := i } giftZ 0 0 0).val ∧ Keep (fun k => k ≠ g) w w' → Q v w') → CallsV C.P 37 (#[] ++ [.int .i64 i].toArray ++ #[.pointer (some ⟨g, 0, none⟩)]) w Q from hQ _ fun _ _ h => h
  intro Q hQ
  refine callsV_of C_ok (args := [_, _]) (plans := []) Tryz.func37 rfl Tryz.ntmps37 (by kernel_rfl) (Nat.le_of_ble_eq_true rfl) ?_
  intro g3 w1 h1
  have hg1 := h1.ext.heap hg
  have hne : g3 ≠ g := fun e => by have := lt_of_heap hg; rw [h1.new] at e; omega
  refine ⟨rfl, _, _, hg1, Nat.le_of_ble_eq_true rfl, rfl, ?_⟩
  intro w2 h2
  have h2 : Put w1 g (.cells ({ x with id := i } : Waiv).cells.toArray 23 (0, 0)) w2 := h2
  have hg3 : w2.heap[g3]? = _ := (h2.there g3 hne).trans h1.here
  refine ⟨_, cell_of_block (i := 1) h2.here rfl, ?_⟩
  refine ⟨({ x with id := i } : Waiv).cells, rfl, Rd.of_block h2.here, ?_⟩
  refine ⟨rfl, _, _, hg3, Nat.le_of_ble_eq_true rfl, rfl, ?_⟩
  intro w3 h3
  have h3 : Put w2 g3 (.cells (Entry.mk 3 x.day { x with id := i } giftZ 0 0 0).cells.toArray 27 (0, 0)) w3 := h3
  refine ⟨(Entry.mk 3 x.day { x with id := i } giftZ 0 0 0).cells, rfl, Rd.of_block h3.here, ?_⟩
  refine hQ _ _ ⟨rfl, ?_⟩
  have k2 : Keep (fun k => k ≠ g) w w2 := (keep_ext h1.ext).put h2 (fun e => e rfl)
  exact ⟨h3.os.trans k2.os, h3.tape.trans k2.tape, h3.output.trans k2.output, by rw [h3.size]; exact k2.size, fun k hk hlt => by rw [h3.there k (fun e => by rw [e, h1.new] at hlt; omega)]; exact k2.block k hk hlt⟩
set_option maxRecDepth 100000 in
theorem Grant_spec {w : World} {l : LV} {es : List Entry} (h : LedgerIs w l es) (hl : es.length ≤ 400) {A : Option Addr} {f : List Fact} {c : Nat} (hf : HF w A f c) (hfl : f.length ≤ 2 ^ 20) {x : Waiv} (hx : x.Nums) :
    CallsV C.P 11 #[l.ptr, .slice A f.length c, x.val] w fun v w' => v = .tuple #[.int .i64 (if doF f es (grantE es x) = 0 then (((waivL es).length + 1 : Nat) : Int) else 0), .int .i64 (doF f es (grantE es x))] ∧ LdGo w l (addL (doF f es (grantE es x)) es (grantE es x)) w' := by
  have hwl := waivL_length es
  refine callsV_of C_ok (args := [_, _, _]) (plans := []) Tryz.func11 rfl Tryz.ntmps11 (by kernel_rfl) (Nat.le_of_ble_eq_true rfl) ?_
  intro g3 w1 h1
  have M1 := (Mem.start w).alloc h1
  intro g5 w2 h2
  have M2 : Mem w w2 [(g5, .cells x.cells.toArray 23 (0, 0)), (g3, .cells #[l.ptr] 35 (0, 0))] := M1.alloc h2
  refine ⟨l.ptr, M2.cell 1 rfl rfl, ?_⟩
  refine ⟨[], [.pointer (some ⟨g3, 0, none⟩)], rfl, rfl, ?_⟩
  refine ⟨[], [.pointer (some ⟨g5, 0, none⟩)], rfl, rfl, ?_⟩
  have h5 : ¬ l.has g5 := fun hq => by have := h.lt hq; have := M2.new 0 rfl; omega
  refine (next_spec (h.ext M2.ext) (by omega) (hf.ext M2.ext) hfl (x := grantE es x) (grantE_nums hx (by omega)) (n := (waivL es).length) (gx := g5) (by omega) rfl rfl h5 (reads_but hf.reads (M2.new 0 rfl) M2.ext)
    (fun w' e => grants_len ((h.ext M2.ext).ext e) (e.heap (M2.get 1 rfl))) (fun w' e => grants_with (e.heap (M2.get 0 rfl)) _)).mono ?_
  rintro v w3 ⟨rfl, l3, hg3, hi3, hk3, hn3⟩
  refine ⟨rfl, l3, hg3, hi3, keep_trans (keep_ext M2.ext) hk3 fun q hq hlt => ⟨hq, fun e => by have := M2.new 0 rfl; omega⟩, fun k hk => (hn3 k hk).imp id fun h => Nat.le_trans M2.ext.size h⟩
theorem offerE_nums {es : List Entry} {day frm to cur n ret : Int} (h1 : In64 day) (h2 : In64 frm) (h3 : In64 to) (h4 : 0 ≤ cur ∧ cur ≤ 255) (h5 : In64 n) (h6 : In64 ret) (hl : (giftL es).length ≤ 2 ^ 16) : (offerE es day frm to cur n ret).Nums :=
  ⟨(by show (0 : Int) ≤ 5 ∧ (5 : Int) ≤ 255; decide), h1, waivZ_nums, ⟨⟨by show -9223372036854775808 ≤ (((giftL es).length + 1 : Nat) : Int); omega, by show (((giftL es).length + 1 : Nat) : Int) ≤ 9223372036854775807; omega⟩, h1, h2, h3, h4, h5, in64_0, (by show (0 : Int) ≤ 0 ∧ (0 : Int) ≤ 255; decide), in64_0, h6⟩, in64_0, in64_0, in64_0⟩
set_option maxRecDepth 100000 in
theorem Offer_spec {w : World} {l : LV} {es : List Entry} (h : LedgerIs w l es) (hl : es.length ≤ 400) {day frm to cur n ret : Int} (h1 : In64 day) (h2 : In64 frm) (h3 : In64 to) (h4 : 0 ≤ cur ∧ cur ≤ 255) (h5 : In64 n) (h6 : In64 ret) (f : List Fact) :
    CallsV C.P 15 #[l.ptr, .int .i64 day, .int .i64 frm, .int .i64 to, .int .u8 cur, .int .i64 n, .int .i64 ret] w fun v w' =>
      v = .tuple #[.int .i64 (if doF f es (offerE es day frm to cur n ret) = 0 then (((giftL es).length + 1 : Nat) : Int) else 0), .int .i64 (doF f es (offerE es day frm to cur n ret))] ∧ LdGo w l (addL (doF f es (offerE es day frm to cur n ret)) es (offerE es day frm to cur n ret)) w' := by
  rw [doF_any (x := offerE es day frm to cur n ret) (show (5 : Int) ≠ 3 by decide) f []]
  have hgl := giftL_length es
  refine callsV_of C_ok (args := [_, _, _, _, _, _, _]) (plans := []) Tryz.func15 rfl Tryz.ntmps15 (by kernel_rfl) (Nat.le_of_ble_eq_true rfl) ?_
  intro g7 w1 a1
  have M1 := (Mem.start w).alloc a1
  intro g8 w2 a2
  have M2 := M1.alloc a2
  intro g9 w3 a3
  have M3 := M2.alloc a3
  intro g10 w4 a4
  have M4 := M3.alloc a4
  intro g11 w5 a5
  have M5 := M4.alloc a5
  intro g12 w6 a6
  have M6 := M5.alloc a6
  intro g13 w7 a7
  have M7 := M6.alloc a7
  have M : Mem w w7 [(g13, .cells #[.int .i64 ret] 3 (0, 0)), (g12, .cells #[.int .i64 n] 3 (0, 0)), (g11, .cells #[.int .u8 cur] 5 (0, 0)), (g10, .cells #[.int .i64 to] 3 (0, 0)), (g9, .cells #[.int .i64 frm] 3 (0, 0)), (g8, .cells #[.int .i64 day] 3 (0, 0)), (g7, .cells #[l.ptr] 35 (0, 0))] := M7
  clear M1 M2 M3 M4 M5 M6 M7
  refine ⟨l.ptr, M.cell 6 rfl rfl, ?_⟩
  refine ⟨[], [.pointer (some ⟨g7, 0, none⟩)], rfl, rfl, ?_⟩
  refine ⟨[], [.pointer (some ⟨g8, 0, none⟩), .pointer (some ⟨g9, 0, none⟩), .pointer (some ⟨g10, 0, none⟩), .pointer (some ⟨g11, 0, none⟩), .pointer (some ⟨g12, 0, none⟩), .pointer (some ⟨g13, 0, none⟩)], rfl, rfl, ?_⟩
  have h13 : ¬ l.has g13 := fun hq => by have := h.lt hq; have := M.new 0 rfl; omega
  refine (next_spec (h.ext M.ext) (by omega) (hf_nil w7) (Nat.zero_le _) (x := offerE es day frm to cur n ret) (offerE_nums h1 h2 h3 h4 h5 h6 (by omega)) (n := (giftL es).length) (gx := g13) (by omega) rfl rfl h13 (.inl rfl)
    (fun w' e => gifts_len ((h.ext M.ext).ext e) (e.heap (M.get 6 rfl))) (fun w' e => (gifts_with (e.heap (M.get 5 rfl)) (e.heap (M.get 4 rfl)) (e.heap (M.get 3 rfl)) (e.heap (M.get 2 rfl)) (e.heap (M.get 1 rfl)) (e.heap (M.get 0 rfl)) _).mono fun v w'' hv => ⟨hv.1, keep_ext hv.2⟩)).mono ?_
  rintro v w8 ⟨rfl, l3, hg3, hi3, hk3, hn3⟩
  refine ⟨rfl, l3, hg3, hi3, keep_trans (keep_ext M.ext) hk3 fun q hq hlt => ⟨hq, fun e => by have := M.new 0 rfl; omega⟩, fun k hk => (hn3 k hk).imp id fun h => Nat.le_trans M.ext.size h⟩
end Go.Proofs.YtahgjidcaeieaaaGreatDoor
namespace Go.Proofs.YtahgjidcaeieaaaGreatDoor
open Go.Eng Go.RowKit
structure StNew (w0 w : World) (s : SV) (es : List Entry) : Prop where
  is : StateIs w s es
  new : ∀ k, s.has k → w0.heap.size ≤ k
  ext : Ext w0 w
theorem StNew.go {w0 w w' : World} {s : SV} {es es' : List Entry} (h : StNew w0 w s es) (k : StGo w s es' w') : ∃ s', s'.gs = s.gs ∧ StNew w0 w' s' es' := by
  obtain ⟨s', hg, hi, hk, hn⟩ := k
  refine ⟨s', hg, hi, fun q hq => ?_, ⟨hk.os.trans h.ext.os, hk.tape.trans h.ext.tape, hk.output.trans h.ext.output, Nat.le_trans h.ext.size hk.size, fun q hq => ?_⟩⟩
  · rcases hn q hq with h1 | h1
    · exact h.new q h1
    · exact Nat.le_trans h.ext.size h1
  · rw [hk.block q (fun h1 => by have := h.new q h1; omega) (Nat.lt_of_lt_of_le hq h.ext.size)]
    exact h.ext.block q hq
theorem StNew.then {w0 w w' : World} {s : SV} {es : List Entry} (h : StNew w0 w s es) (e : Ext w w') : StNew w0 w' s es := ⟨h.is.ext e, h.new, h.ext.trans e⟩
theorem asOf_step {es : List Entry} (hA : Acc es) {i : Nat} (hi : i < es.length) {day : Int} (hd : es[i].day ≤ day) : ∃ sg, doE sg (asOfL (es.take i) day) es[i] = 0 := by
  have h1 : asOfL (es.take i) day = es.take i := asOf_all fun x hx => by
    obtain ⟨j, hj, rfl⟩ := List.getElem_of_mem hx
    rw [List.length_take] at hj
    rw [List.getElem_take]
    have := List.pairwise_iff_getElem.1 (acc_ok hA).days j i (by omega) hi (by omega)
    omega
  rw [h1]
  have h2 := acc_front hA (i + 1)
  rw [List.take_succ_eq_append_getElem hi] at h2
  exact (acc_inv h2).2
theorem asOf_take_succ {es : List Entry} {i : Nat} (hi : i < es.length) (day : Int) : asOfL (es.take (i + 1)) day = asOfL (es.take i) day ++ if es[i].day ≤ day then [es[i]] else [] := by
  rw [List.take_succ_eq_append_getElem hi, asOf_snoc]
theorem asOfL_length (es : List Entry) (day : Int) : (asOfL es day).length ≤ es.length := List.length_filter_le _ _
set_option maxRecDepth 100000 in
theorem asOf_spec {w : World} {l : LV} {es : List Entry} (h : LedgerIs w l es) (hl : es.length ≤ 2 ^ 16) (day : Int) :
    CallsV C.P 38 #[l.ptr, .int .i64 day] w fun v w' => ∃ s : SV, v = .pointer (some ⟨s.gs, 0, none⟩) ∧ StNew w w' s (asOfL es day) := by
  obtain ⟨A, c, hv, hr, _⟩ := reads_of_owns h.row
  refine callsV_of C_ok (args := [_, _]) (plans := []) Tryz.func38 rfl Tryz.ntmps38 (by kernel_rfl) (Nat.le_of_ble_eq_true rfl) ?_
  refine (newState_spec w).mono ?_
  rintro v w1 ⟨⟨s0, rfl, hs0, hn0⟩, e1⟩
  have hvc : w1.cell? ⟨l.gl, 0, none⟩ = some (.slice A es.length c) := cell_of_block (e1.heap h.block) (by show some l.vE = _; rw [hv])
  refine ⟨_, eqNilP _ _ _, ?_⟩
  refine ⟨_, hvc, ?_⟩
  refine loopE C_ok (fun (i : Nat) => [(1, .int .i64 day), (5, .pointer (some ⟨s0.gs, 0, none⟩)), (15, .slice A es.length c), (16, .int .i64 es.length), (17, .int .i64 i)])
    (fun i w' => i ≤ es.length ∧ ∃ s : SV, s.gs = s0.gs ∧ StNew w w' s (asOfL (es.take i) day)) (fun i => es.length - i) 0 ⟨rfl, rfl, rfl, rfl, rfl, trivial⟩
    ⟨Nat.zero_le _, s0, rfl, by rw [List.take_zero]; exact hs0, hn0, e1⟩ ?_
  rintro i w2 ⟨hi, s, hgs, hst⟩
  refine brE_dec (fun hlt => ?_) (fun hge => ?_)
  · have hlt : i < es.length := by have : (i : Int) < (es.length : Nat) := hlt; omega
    obtain ⟨b, o, hA, hc⟩ := Reads.elem Entry.len (by omega) (hr.ext hst.ext) hlt
    refine ⟨i, b, o, rfl, hlt, hA, ?_⟩
    refine ⟨es[i].cells, rfl, hc, ?_⟩
    intro g3 w3 h3
    refine ⟨rfl, _, _, h3.here, Nat.le_of_ble_eq_true rfl, rfl, ?_⟩
    intro w4 h4
    have h4 : Put w3 g3 (.cells es[i].cells.toArray 27 (0, 0)) w4 := h4
    have e24 : Ext w2 w4 := h4.ext_of h3.ext (by rw [h3.new]; exact Nat.le_refl _)
    have hst4 := hst.then e24
    refine ⟨_, cell_of_block (i := 1) h4.here rfl, ?_⟩
    have hnext := asOf_take_succ hlt day
    refine brE_dec (fun hd => ?_) (fun hd => ?_)
    · have hd : es[i].day ≤ day := hd
      rw [if_pos hd] at hnext
      obtain ⟨sg, hsg⟩ := asOf_step h.acc hlt hd
      refine ⟨es[i].cells, rfl, Rd.of_block h4.here, ?_⟩
      have hdo := do_spec hst4.is (acc_asOf (acc_front h.acc i) day) (h.nums _ (List.getElem_mem hlt)) hsg
      rw [hgs] at hdo
      refine hdo.mono ?_
      intro v w5 hgo
      obtain ⟨s5, hg5, hs5⟩ := hst4.go hgo
      refine ⟨((i + 1 : Nat) : Int), fit ⟨by omega, by omega⟩, ?_⟩
      exact ⟨i + 1, ⟨rfl, rfl, rfl, rfl, rfl, trivial⟩, ⟨hlt, s5, hg5.trans hgs, by rw [hnext]; exact hs5⟩, by show es.length - (i + 1) < es.length - i; omega⟩
    · have hd : ¬ es[i].day ≤ day := hd
      rw [if_neg hd, List.append_nil] at hnext
      refine ⟨((i + 1 : Nat) : Int), fit ⟨by omega, by omega⟩, ?_⟩
      exact ⟨i + 1, ⟨rfl, rfl, rfl, rfl, rfl, trivial⟩, ⟨hlt, s, hgs, by rw [hnext]; exact hst4⟩, by show es.length - (i + 1) < es.length - i; omega⟩
  · have hge : i = es.length := by have : ¬ (i : Int) < (es.length : Nat) := hge; omega
    rw [hge, List.take_length] at hst
    exact ⟨s, by rw [hgs], hst⟩
theorem ext_below {w w1 w2 : World} {B : Nat} (e : Ext w w1) (h : Below B w1 w2) (hB : w.heap.size ≤ B) : Ext w w2 :=
  ⟨h.os.trans e.os, h.tape.trans e.tape, h.output.trans e.output, Nat.le_trans e.size h.size, fun k hk => (h.block k (by omega)).trans (e.block k hk)⟩
theorem below_heap {B : Nat} {w w' : World} (h : Below B w w') {k : Nat} (hk : k < B) {o : Obj} (hv : w.heap[k]? = some o) : w'.heap[k]? = some o := by rw [h.block k hk]; exact hv
theorem StNew.waivs {w0 w : World} {s : SV} {es : List Entry} (h : StNew w0 w s es) : NewL Waiv.cells 23 9 w0.heap.size w s.vW (waivL es) := owns_from h.is.waivs fun k hk => h.new k (.inr (.inr (.inr (.inr (.inr (.inl hk))))))
theorem StNew.gifts {w0 w : World} {s : SV} {es : List Entry} (h : StNew w0 w s es) : NewL Gift.cells 25 10 w0.heap.size w s.vG (giftL es) := owns_from h.is.gifts fun k hk => h.new k (.inr (.inr (.inr (.inr (.inr (.inr hk))))))
theorem off_spec {w : World} {g : Nat} {day : Int} (hg : w.heap[g]? = some (.cells #[.int .i64 day] 3 (0, 0))) (x : Waiv) :
    CallsV C.P 70 (#[] ++ [x.val].toArray ++ #[.pointer (some ⟨g, 0, none⟩)]) w fun v w' => v = .bool (!forceB day x) ∧ Ext w w' := by
  refine callsV_of C_ok (args := [_, _]) (plans := []) Tryz.func70 rfl Tryz.ntmps70 (by kernel_rfl) (Nat.le_of_ble_eq_true rfl) ?_
  intro g2 w1 h1
  have M1 : Mem w w1 [(g2, .cells x.cells.toArray 23 (0, 0))] := (Mem.start w).alloc h1
  refine ⟨.int .i64 day, cell_of_block (M1.ext.heap hg) rfl, ?_⟩
  refine ⟨_, M1.cell 0 rfl rfl, ?_⟩
  refine brE_dec (fun c1 => ?_) (fun c1 => ?_)
  · have c1 : day < x.since := c1
    exact ⟨congrArg _ (by unfold forceB; rw [decide_eq_false (by omega)]; rfl), M1.ext⟩
  have c1 : ¬ day < x.since := c1
  refine ⟨.int .i64 day, cell_of_block (M1.ext.heap hg) rfl, ?_⟩
  refine ⟨_, M1.cell 0 rfl rfl, ?_⟩
  refine ⟨congrArg _ ?_, M1.ext⟩
  show decide (x.til ≤ day) = _
  unfold forceB
  rw [decide_eq_true (by omega : x.since ≤ day), Bool.true_and]
  by_cases h : x.til ≤ day
  · rw [decide_eq_true h, decide_eq_false (by omega)]; rfl
  · rw [decide_eq_false h, decide_eq_true (by omega)]; rfl
theorem Waivers_spec {w : World} {l : LV} {es : List Entry} (h : LedgerIs w l es) (hl : es.length ≤ 2 ^ 16) (day : Int) :
    CallsV C.P 40 #[l.ptr, .int .i64 day] w fun v w' => NewL Waiv.cells 23 9 w.heap.size w' v (waiversAt es day) ∧ Ext w w' := by
  have hwl := waivL_length (asOfL es day)
  have hal := asOfL_length es day
  refine callsV_of C_ok (args := [_, _]) (plans := []) Tryz.func40 rfl Tryz.ntmps40 (by kernel_rfl) (Nat.le_of_ble_eq_true rfl) ?_
  intro g3 w1 h1
  have M1 : Mem w w1 [(g3, .cells #[.int .i64 day] 3 (0, 0))] := (Mem.start w).alloc h1
  refine ⟨_, M1.cell 0 rfl rfl, ?_⟩
  refine (asOf_spec (h.ext M1.ext) hl day).mono ?_
  rintro v w2 ⟨s, rfl, hs⟩
  refine ⟨s.vW, cell_of_block (i := 2) hs.is.block rfl, ?_⟩
  refine ⟨[], [.pointer (some ⟨g3, 0, none⟩)], rfl, rfl, ?_⟩
  have hg3 := lt_of_heap (M1.get 0 rfl)
  refine (DeleteFuncW_spec hs.waivs hs.ext.size (by omega) rfl (p := fun x => !forceB day x) fun x w' hb => off_spec (below_heap hb hg3 (hs.ext.heap (M1.get 0 rfl))) x).mono ?_
  rintro v w3 ⟨h3, b3⟩
  have e : ((waivL (asOfL es day)).filter fun x => !(!forceB day x)) = waiversAt es day := by
    unfold waiversAt
    refine List.filter_congr fun x _ => Bool.not_not _
  rw [e] at h3
  exact ⟨h3.base M1.ext.size, ext_below (M1.ext.trans hs.ext) b3 M1.ext.size⟩
theorem offer_plain {sg : Int} {es : List Entry} {x : Entry} (hk : x.kind = 5) (hx : doE sg es x = 0) : x.g.answered = 0 := by
  obtain ⟨_, hw, _⟩ := form_okE (do_zero hx).1
  have h5 : wantE x = ⟨x.kind, x.day, waivZ, plainG x.g, 0, 0, 0⟩ := by
    unfold wantE; rw [if_neg (by omega), if_neg (by omega), if_neg (by omega), if_pos hk]
  rw [h5] at hw
  have : x.g = plainG x.g := by rw [hw]; rfl
  rw [this]; rfl
theorem answered_ok {es : List Entry} (h : Acc es) : ∀ g ∈ giftL es, 0 ≤ g.answered ∧ g.answered ≤ 100000 := by
  induction h with
  | nil => intro g hg; cases hg
  | @snoc es x sg hA hx ih =>
    obtain ⟨hf, _, _⟩ := do_zero hx
    obtain ⟨hok, _, hd⟩ := form_okE hf
    have set_ok : ∀ {gs : List Gift} {k : Nat} (hk : k < gs.length) {y : Gift}, (∀ g ∈ gs, 0 ≤ g.answered ∧ g.answered ≤ 100000) → (0 ≤ y.answered ∧ y.answered ≤ 100000) → ∀ g ∈ gs.set k y, 0 ≤ g.answered ∧ g.answered ≤ 100000 := by
      intro gs k hk y hall hy g hg
      rcases List.mem_or_eq_of_mem_set hg with hg | rfl
      · exact hall g hg
      · exact hy
    by_cases h5 : x.kind = 5
    · intro g hg
      rw [(offer_gift h5 hx).1] at hg
      rcases List.mem_append.1 hg with hg | hg
      · exact ih g hg
      · rw [List.mem_singleton.1 hg]
        show 0 ≤ x.g.answered ∧ x.g.answered ≤ 100000
        rw [offer_plain h5 hx]; omega
    by_cases h6 : x.kind = 6
    · obtain ⟨k, hl, hid, hst⟩ := ans_parts (.inl h6) hx
      have hG := gift_take h6 hl hid
      have h1 := set_ok hl (y := takeG x.day (giftL es)[k]) ih hd
      rw [hG]
      dsimp only
      split
      · exact h1
      · split
        · intro g hg
          unfold updAt at hg
          rcases List.mem_or_eq_of_mem_set hg with hg | rfl
          · exact h1 g hg
          · show 0 ≤ (atN ((giftL es).set k (takeG x.day (giftL es)[k])) (giftL es)[k].returns).answered ∧ (atN ((giftL es).set k (takeG x.day (giftL es)[k])) (giftL es)[k].returns).answered ≤ 100000
            unfold atN
            by_cases hlt : ((giftL es)[k].returns - 1).toNat < ((giftL es).set k (takeG x.day (giftL es)[k])).length
            · rw [List.getD_eq_getElem?_getD, List.getElem?_eq_getElem hlt]
              exact h1 _ (List.getElem_mem hlt)
            · rw [List.getD_eq_getElem?_getD, List.getElem?_eq_none (by omega)]
              exact ⟨by decide, by decide⟩
        · exact h1
    by_cases h7 : x.kind = 7
    · obtain ⟨k, hl, hid, hst⟩ := ans_parts (.inr h7) hx
      rw [gift_refuse h7 hl hid]
      exact set_ok hl ih hd
    rw [gift_plain h5 h6 h7]; exact ih
def lateB (day : Int) (x : Gift) : Bool := !debtB x || decide (day ≤ IntKind.i64.wrap (x.answered + 365))
theorem notDue_spec {w : World} {g : Nat} {day : Int} (hg : w.heap[g]? = some (.cells #[.int .i64 day] 3 (0, 0))) (x : Gift) :
    CallsV C.P 50 (#[] ++ [x.val].toArray ++ #[.pointer (some ⟨g, 0, none⟩)]) w fun v w' => v = .bool (lateB day x) ∧ Ext w w' := by
  refine callsV_of C_ok (args := [_, _]) (plans := []) Tryz.func50 rfl Tryz.ntmps50 (by kernel_rfl) (Nat.le_of_ble_eq_true rfl) ?_
  intro g2 w1 h1
  have M1 : Mem w w1 [(g2, .cells x.cells.toArray 25 (0, 0))] := (Mem.start w).alloc h1
  refine ⟨x.cells, rfl, M1.rd 0 rfl, ?_⟩
  refine (debt_spec x w1).mono ?_
  rintro v w2 ⟨rfl, e2⟩
  have M2 := M1.grow e2
  refine brE_mk (fun c1 => ?_) (fun c1 => ?_)
  · exact ⟨congrArg _ (by unfold lateB; rw [c1]; rfl), M2.ext⟩
  refine ⟨.int .i64 day, cell_of_block (M2.ext.heap hg) rfl, ?_⟩
  refine ⟨_, M2.cell 0 rfl rfl, ?_⟩
  refine ⟨_, rfl, ?_⟩
  exact ⟨congrArg _ (by unfold lateB; rw [c1]; rfl), M2.ext⟩
theorem Overdue_spec {w : World} {l : LV} {es : List Entry} (h : LedgerIs w l es) (hl : es.length ≤ 2 ^ 16) (day : Int) :
    CallsV C.P 19 #[l.ptr, .int .i64 day] w fun v w' => NewL Gift.cells 25 10 w.heap.size w' v (overdueAt es day) ∧ Ext w w' := by
  have hwl := giftL_length (asOfL es day)
  have hal := asOfL_length es day
  refine callsV_of C_ok (args := [_, _]) (plans := []) Tryz.func19 rfl Tryz.ntmps19 (by kernel_rfl) (Nat.le_of_ble_eq_true rfl) ?_
  intro g3 w1 h1
  have M1 : Mem w w1 [(g3, .cells #[.int .i64 day] 3 (0, 0))] := (Mem.start w).alloc h1
  refine ⟨_, M1.cell 0 rfl rfl, ?_⟩
  refine (asOf_spec (h.ext M1.ext) hl day).mono ?_
  rintro v w2 ⟨s, rfl, hs⟩
  refine ⟨s.vG, cell_of_block (i := 4) hs.is.block rfl, ?_⟩
  refine ⟨[], [.pointer (some ⟨g3, 0, none⟩)], rfl, rfl, ?_⟩
  have hg3 := lt_of_heap (M1.get 0 rfl)
  refine (DeleteFuncG_spec hs.gifts hs.ext.size (by omega) rfl (p := lateB day) fun x w' hb => notDue_spec (below_heap hb hg3 (hs.ext.heap (M1.get 0 rfl))) x).mono ?_
  rintro v w3 ⟨h3, b3⟩
  have e : ((giftL (asOfL es day)).filter fun x => !lateB day x) = overdueAt es day := by
    unfold overdueAt
    refine List.filter_congr fun x hx => ?_
    have := answered_ok (acc_asOf h.acc day) x hx
    unfold lateB
    rw [fit (show In64 (x.answered + 365) from ⟨by omega, by omega⟩), Bool.not_or, Bool.not_not]
    congr 1
    by_cases h : day ≤ x.answered + 365
    · rw [decide_eq_true h, decide_eq_false (by omega)]; rfl
    · rw [decide_eq_false h, decide_eq_true (by omega)]; rfl
  rw [e] at h3
  exact ⟨h3.base M1.ext.size, ext_below (M1.ext.trans hs.ext) b3 M1.ext.size⟩
theorem waiversAt_length (es : List Entry) (day : Int) : (waiversAt es day).length ≤ es.length :=
  Nat.le_trans (List.length_filter_le _ _) (Nat.le_trans (waivL_length _) (asOfL_length es day))
end Go.Proofs.YtahgjidcaeieaaaGreatDoor
namespace Go.Proofs.YtahgjidcaeieaaaGreatDoor
structure OrdB {α : Type} (lt : α → α → Bool) : Prop where
  asym : ∀ x y, lt x y = true → lt y x = false
  ntr : ∀ x y z, lt y x = false → lt z y = false → lt z x = false
abbrev SortedB {α : Type} (lt : α → α → Bool) (l : List α) : Prop := l.Pairwise fun x y => lt y x = false
section
variable {α : Type} {lt : α → α → Bool}
theorem sorted_insert {M1 M2 : List α} {x : α} (h : SortedB lt (M1 ++ M2)) (h1 : ∀ z ∈ M1, lt x z = false) (h2 : ∀ z ∈ M2, lt z x = false) : SortedB lt (M1 ++ x :: M2) := by
  obtain ⟨a, b, c⟩ := List.pairwise_append.1 h
  refine List.pairwise_append.2 ⟨a, List.pairwise_cons.2 ⟨fun z hz => h2 z hz, b⟩, fun z hz y hy => ?_⟩
  rcases List.mem_cons.1 hy with rfl | hy
  · exact h1 z hz
  · exact c z hz y hy
theorem sorted_last (O : OrdB lt) {M : List α} {x y : α} (h : SortedB lt (M ++ [y])) (hx : lt x y = false) : ∀ z ∈ M ++ [y], lt x z = false := by
  intro z hz
  obtain ⟨_, _, c⟩ := List.pairwise_append.1 h
  rcases List.mem_append.1 hz with hz | hz
  · exact O.ntr z y x (c z hz y (by simp)) hx
  · rw [List.mem_singleton.1 hz]; exact hx
end
end Go.Proofs.YtahgjidcaeieaaaGreatDoor
namespace Go.Proofs.YtahgjidcaeieaaaGreatDoor
open Go.Eng Go.RowKit
theorem row_openB {α : Type} {enc : α → List Value} {k e : Nat} (hk : ∀ x, (enc x).length = k) (k0 : 0 < k) {B : Nat} {w : World} {v : Value} {l : List α} (h : w.ownsRow B e k v l.length (l.flatMap enc)) {i : Nat} (hi : i < l.length) :
    ∃ g cap, ∃ cur : List Value, v = .slice (some ⟨g, 0, none⟩) l.length cap ∧ w.heap[g]? = some (.cells cur.toArray e (0, 0)) ∧ 0 + i * k + k ≤ cur.length ∧ v.ownBlock = some g ∧ Rd w g (0 + i * k) (enc l[i]) ∧
      ∀ (c : Nat) (vs : List Value) (y : α) (w' : World), splice (enc l[i]) c vs = enc y → c + vs.length ≤ k → Put w g (.cells (splice cur (0 + i * k + c) vs).toArray e (0, 0)) w' → w'.ownsRow B e k v (l.set i y).length ((l.set i y).flatMap enc) := by
  have hv : ∃ g cap, v = .slice (some ⟨g, 0, none⟩) l.length cap := by
    obtain ⟨_, ⟨_, h0⟩ | ⟨g, cap, cur, hv, _⟩⟩ := h
    · omega
    · exact ⟨g, cap, hv⟩
  obtain ⟨g, cap, rfl⟩ := hv
  obtain ⟨cur, hg, _, hn, _, _, hxl, ht, hput⟩ := ownsRow_open h
  have hb : (i + 1) * k ≤ l.length * k := Nat.mul_le_mul_right k hi
  rw [Nat.add_mul, Nat.one_mul] at hb
  obtain ⟨A, c2, hA, hr, _⟩ := reads_of_owns h
  refine ⟨g, cap, cur, rfl, hg, by omega, rfl, ?_, fun c vs y w' h1 h2 h3 => ?_⟩
  · cases hA
    obtain ⟨b, o, hb2, hrd⟩ := Reads.elem hk k0 hr hi
    cases hb2
    exact hrd
  · have := hput (0 + i * k + c) vs w' (by omega) h3
    rw [Nat.zero_add, flat_field hk hi h1 h2] at this
    rw [List.length_set]
    exact this
end Go.Proofs.YtahgjidcaeieaaaGreatDoor
namespace Go.Proofs.YtahgjidcaeieaaaGreatDoor
open Go.Eng Go.RowKit
abbrev RowD (B : Nat) (w : World) (v : Value) (l : List Due) : Prop := NewL Due.cells 49 3 B w v l
def CmpD (gd : Nat) (cb : Array Value) (lt : Due → Due → Bool) : Prop := ∀ (x y : Due) (w : World), CallsV C.P gd (#[] ++ [x.val, y.val].toArray ++ cb) w fun v w' => (∃ k : Int, v = .int .i64 k ∧ (k < 0 ↔ lt x y = true)) ∧ Ext w w'
theorem rowD_at {B : Nat} {w : World} {A : Option Addr} {n c : Nat} {l : List Due} (h : RowD B w (.slice A n c) l) {i : Nat} (hi : i < l.length) : ∃ g, A = some ⟨g, 0, none⟩ ∧ B ≤ g ∧ Rd w g (0 + i * 3) l[i].cells ∧ n = l.length := by
  obtain ⟨g, cap, cur, hv, hg, hb, hown, hrd, hput⟩ := row_openB (enc := Due.cells) Due.len (by omega) h hi
  cases hv
  exact ⟨g, rfl, (h.lt g rfl).1, hrd, rfl⟩
theorem rowD_swap {B : Nat} {w : World} {A : Option Addr} {n c : Nat} {l : List Due} (h : RowD B w (.slice A n c) l) {i j : Nat} (hi : i < l.length) (hj : j < l.length) : ∃ g, ∃ cur : List Value, A = some ⟨g, 0, none⟩ ∧ w.heap[g]? = some (.cells cur.toArray 49 (0, 0)) ∧ 0 + i * 3 + 3 ≤ cur.length ∧
    ∀ w1, Put w g (.cells (splice cur (0 + i * 3) l[j].cells).toArray 49 (0, 0)) w1 → ∃ cur1 : List Value, w1.heap[g]? = some (.cells cur1.toArray 49 (0, 0)) ∧ 0 + j * 3 + 3 ≤ cur1.length ∧
      ∀ w2, Put w1 g (.cells (splice cur1 (0 + j * 3) l[i].cells).toArray 49 (0, 0)) w2 → RowD B w2 (.slice A n c) ((l.set i l[j]).set j l[i]) ∧ Below B w w2 := by
  obtain ⟨g, cap, cur, hv, hg, hb, hown, hrd, hput⟩ := row_openB (enc := Due.cells) Due.len (by omega) h hi
  cases hv
  have hB := (h.lt g rfl).1
  refine ⟨g, cur, rfl, hg, hb, fun w1 h1 => ?_⟩
  have r1 := hput 0 l[j].cells l[j] w1 rfl (Nat.le_of_ble_eq_true rfl) h1
  have hj1 : j < (l.set i l[j]).length := by rw [List.length_set]; exact hj
  obtain ⟨g', cap', cur', hv', hg', hb', hown', hrd', hput'⟩ := row_openB (enc := Due.cells) Due.len (by omega) r1 hj1
  have eg : g' = g := Option.some.inj (hown'.symm.trans hown)
  subst eg
  refine ⟨cur', hg', hb', fun w2 h2 => ⟨?_, below_put (put_below h1 hB) h2 hB⟩⟩
  exact hput' 0 l[i].cells l[i] w2 rfl (Nat.le_of_ble_eq_true rfl) h2
theorem swap_adj {α : Type} {P S : List α} {x y : α} : ((P ++ y :: x :: S).set (P.length + 1) y).set P.length x = P ++ x :: y :: S := by
  rw [List.set_append_right _ _ (by omega), show P.length + 1 - P.length = 1 by omega, List.set_append_right _ _ (Nat.le_refl _), Nat.sub_self]
  rfl
theorem get_adj0 {α : Type} {P S : List α} {x y : α} (h : P.length < (P ++ y :: x :: S).length) : (P ++ y :: x :: S)[P.length] = y := by simp
theorem get_adj1 {α : Type} {P S : List α} {x y : α} (h : P.length + 1 < (P ++ y :: x :: S).length) : (P ++ y :: x :: S)[P.length + 1] = x := by
  rw [List.getElem_append_right (by omega)]; simp
set_option maxRecDepth 100000 in
set_option maxHeartbeats 1000000 in
theorem insSort_spec {B : Nat} {w : World} {A : Option Addr} {n c gd a b : Nat} {cb : Array Value} {lt : Due → Due → Bool} {P M S : List Due} (ho : RowD B w (.slice A n c) (P ++ (M ++ S))) (hB : B ≤ w.heap.size) (hn : n ≤ 2 ^ 30) (ha : a = P.length) (hb : b = a + M.length) (hgd : C.can gd = true) (hcmp : CmpD gd cb lt) (O : OrdB lt) :
    CallsV C.P 121 #[.slice A n c, .int .i64 (a : Nat), .int .i64 (b : Nat), .func (.func gd) #[] cb] w fun _ w' => ∃ M', M'.Perm M ∧ SortedB lt M' ∧ RowD B w' (.slice A n c) (P ++ (M' ++ S)) ∧ Below B w w' := by
  have hlen : n = (P ++ (M ++ S)).length := by
    obtain ⟨A', c', e, _⟩ := NewL.hl ho
    cases e; rfl
  have hln : n = P.length + (M.length + S.length) := by rw [hlen, List.length_append, List.length_append]
  refine callsV_of C_ok (args := [_, _, _, _]) (plans := plans121) Tryz.func121 rfl Tryz.ntmps121 (by kernel_rfl) (Nat.le_of_ble_eq_true rfl) ?_
  refine ⟨((a + 1 : Nat) : Int), fit ⟨by omega, by omega⟩, ?_⟩
  refine loopE C_ok (fun (p : Nat × List Due) => [(0, .slice A n c), (1, .int .i64 (a : Nat)), (2, .int .i64 (b : Nat)), (3, .func (.func gd) #[] cb), (8, .int .i64 ((a + p.1 : Nat) : Int))])
    (fun p w' => 1 ≤ p.1 ∧ p.2.Perm (M.take p.1) ∧ SortedB lt p.2 ∧ RowD B w' (.slice A n c) (P ++ (p.2 ++ (M.drop p.1 ++ S))) ∧ Below B w w') (fun p => M.length - p.1) (1, M.take 1) ⟨rfl, rfl, rfl, rfl, rfl, trivial⟩
    ⟨Nat.le_refl _, List.Perm.refl _, ?_, ?_, Below.refl _ _⟩ ?_
  · show SortedB lt (M.take 1)
    cases M with
    | nil => exact List.Pairwise.nil
    | cons x r => simp [SortedB]
  · show RowD B w (.slice A n c) (P ++ (M.take 1 ++ (M.drop 1 ++ S)))
    rw [← List.append_assoc (M.take 1), List.take_append_drop]; exact ho
  rintro ⟨k, M1⟩ w1 ⟨hk', hp', hs', ho', b1⟩
  have hk : 1 ≤ k := hk'
  have hp : M1.Perm (M.take k) := hp'
  have hs : SortedB lt M1 := hs'
  have ho1 : RowD B w1 (.slice A n c) (P ++ (M1 ++ (M.drop k ++ S))) := ho'
  clear hk' hp' hs' ho'
  refine brE_dec (fun hlt => ?_) (fun hge => ?_)
  · have hlt : k < M.length := by have : ((a + k : Nat) : Int) < (b : Nat) := hlt; omega
    have hM1 : M1.length = k := by rw [hp.length_eq, List.length_take]; omega
    generalize hx : M[k] = x
    have hdrop : M.drop k = x :: M.drop (k + 1) := by rw [← hx]; exact List.drop_eq_getElem_cons hlt
    rw [hdrop] at ho1
    refine loopE C_ok (fun (p : List Due × List Due) => [(0, .slice A n c), (1, .int .i64 (a : Nat)), (2, .int .i64 (b : Nat)), (3, .func (.func gd) #[] cb), (8, .int .i64 ((a + k : Nat) : Int)), (9, .int .i64 ((a + p.1.length : Nat) : Int))])
      (fun p w' => M1 = p.1 ++ p.2 ∧ (∀ z ∈ p.2, lt x z = true) ∧ RowD B w' (.slice A n c) (P ++ (p.1 ++ x :: (p.2 ++ (M.drop (k + 1) ++ S)))) ∧ Below B w w') (fun p => p.1.length) (M1, []) ⟨rfl, rfl, rfl, rfl, rfl, congrArg (fun q : Nat => some (Value.int IntKind.i64 ((a + q : Nat) : Int))) hM1.symm, trivial⟩
      ⟨(List.append_nil _).symm, (fun z hz => by cases hz), ho1, b1⟩ ?_
    rintro ⟨Q, R⟩ w2 ⟨hQR', hR', ho', b2⟩
    have hQR : M1 = Q ++ R := hQR'
    have hR : ∀ z ∈ R, lt x z = true := hR'
    have ho2 : RowD B w2 (.slice A n c) (P ++ (Q ++ x :: (R ++ (M.drop (k + 1) ++ S)))) := ho'
    clear hQR' hR' ho'
    have hQl : Q.length ≤ k := by rw [← hM1, hQR, List.length_append]; omega
    -- when the place is found
    have done : ∀ w3, (∀ z ∈ Q, lt x z = false) → RowD B w3 (.slice A n c) (P ++ (Q ++ x :: (R ++ (M.drop (k + 1) ++ S)))) → (Q ++ x :: R).Perm (M.take (k + 1)) ∧ SortedB lt (Q ++ x :: R) ∧ RowD B w3 (.slice A n c) (P ++ ((Q ++ x :: R) ++ (M.drop (k + 1) ++ S))) := fun w3 hq h3 => by
      refine ⟨?_, sorted_insert (by rw [← hQR]; exact hs) hq fun z hz => O.asym _ _ (hR z hz), ?_⟩
      · rw [List.take_succ_eq_append_getElem hlt, hx]
        refine List.perm_middle.trans ?_
        rw [← hQR]
        exact (List.Perm.cons x hp).trans (List.perm_append_singleton x (M.take k)).symm
      · have : (Q ++ x :: R) ++ (M.drop (k + 1) ++ S) = Q ++ x :: (R ++ (M.drop (k + 1) ++ S)) := by simp
        rw [this]; exact h3
    have fin : ∀ w3, (∀ z ∈ Q, lt x z = false) → RowD B w3 (.slice A n c) (P ++ (Q ++ x :: (R ++ (M.drop (k + 1) ++ S)))) → Below B w w3 → IntKind.i64.wrap (((a + k : Nat) : Int) + 1) = ((a + (k + 1) : Nat) : Int) := fun _ _ _ _ => fit ⟨by omega, by omega⟩
    refine brE_dec (fun hj => ?_) (fun hj => ?_)
    · have hj : 0 < Q.length := by have : ((a + Q.length : Nat) : Int) > (a : Nat) := hj; omega
      obtain ⟨I, y, rfl⟩ : ∃ I y, Q = I ++ [y] := ⟨Q.dropLast, Q.getLast (by intro e; rw [e] at hj; exact Nat.lt_irrefl _ hj), (List.dropLast_concat_getLast _).symm⟩
      have hIl : (I ++ [y]).length = I.length + 1 := by simp
      have eL : P ++ ((I ++ [y]) ++ x :: (R ++ (M.drop (k + 1) ++ S))) = (P ++ I) ++ y :: x :: (R ++ (M.drop (k + 1) ++ S)) := by simp
      rw [eL] at ho2
      have hpl : (P ++ I).length = a + I.length := by rw [List.length_append, ha]
      have hLl : ((P ++ I) ++ y :: x :: (R ++ (M.drop (k + 1) ++ S))).length = n := by
        obtain ⟨A', c', e, _⟩ := NewL.hl ho2
        cases e; rfl
      have hi0 : (P ++ I).length < ((P ++ I) ++ y :: x :: (R ++ (M.drop (k + 1) ++ S))).length := by simp only [List.length_append, List.length_cons]; omega
      have hi1 : (P ++ I).length + 1 < ((P ++ I) ++ y :: x :: (R ++ (M.drop (k + 1) ++ S))).length := by simp only [List.length_append, List.length_cons]; omega
      have sub1 : IntKind.i64.wrap (((a + (I ++ [y]).length : Nat) : Int) - 1) = ((a + I.length : Nat) : Int) := by rw [hIl, fit ⟨by omega, by omega⟩]; omega
      have idx1 : a + (I ++ [y]).length = (P ++ I).length + 1 := by rw [hIl, hpl]; omega
      have idx0 : a + I.length = (P ++ I).length := hpl.symm
      obtain ⟨g1, hA1, _, hr1, _⟩ := rowD_at ho2 hi1
      obtain ⟨g0, hA0, _, hr0, _⟩ := rowD_at ho2 hi0
      rw [get_adj1 hi1] at hr1
      rw [get_adj0 hi0] at hr0
      refine ⟨a + (I ++ [y]).length, g1, 0, rfl, by rw [idx1, ← hLl]; exact hi1, hA1, ?_⟩
      refine ⟨x.cells, rfl, by rw [idx1]; exact hr1, ?_⟩
      refine ⟨((a + I.length : Nat) : Int), sub1, ?_⟩
      refine ⟨a + I.length, g0, 0, rfl, by rw [idx0, ← hLl]; exact hi0, hA0, ?_⟩
      refine ⟨y.cells, rfl, by rw [idx0]; exact hr0, ?_⟩
      refine brE_true hgd ?_
      refine (hcmp x y w2).mono ?_
      rintro v w3 ⟨⟨z, rfl, hz⟩, e3⟩
      have ho3 := ho2.ext e3
      have b3 : Below B w w3 := b2.trans (e3.mono (Nat.le_trans hB b2.size))
      refine brE_dec (fun hc => ?_) (fun hc => ?_)
      · have hc : z < 0 := hc
        have hlt2 := hz.1 hc
        obtain ⟨g, cur, hA, hg, hb1, hput⟩ := rowD_swap ho3 hi1 hi0
        have hrd := rowD_at ho3 hi1
        have hrd0 := rowD_at ho3 hi0
        rw [get_adj1 hi1] at hrd
        rw [get_adj0 hi0] at hrd0
        obtain ⟨g1', hA1', _, hr1', _⟩ := hrd
        obtain ⟨g0', hA0', _, hr0', _⟩ := hrd0
        rw [get_adj1 hi1, get_adj0 hi0, swap_adj] at hput
        refine ⟨((a + I.length : Nat) : Int), sub1, ?_⟩
        refine ⟨((a + I.length : Nat) : Int), sub1, ?_⟩
        refine ⟨a + I.length, g0', 0, rfl, by rw [idx0, ← hLl]; exact hi0, hA0', ?_⟩
        refine ⟨y.cells, rfl, by rw [idx0]; exact hr0', ?_⟩
        refine ⟨a + (I ++ [y]).length, g1', 0, rfl, by rw [idx1, ← hLl]; exact hi1, hA1', ?_⟩
        refine ⟨x.cells, rfl, by rw [idx1]; exact hr1', ?_⟩
        refine ⟨a + (I ++ [y]).length, g, 0, rfl, by rw [idx1, ← hLl]; exact hi1, hA, ?_⟩
        rw [idx1]
        refine ⟨rfl, _, _, hg, hb1, rfl, ?_⟩
        intro w4 h4
        obtain ⟨cur1, hg1, hb2, hput2⟩ := hput w4 h4
        refine ⟨a + I.length, g, 0, rfl, by rw [idx0, ← hLl]; exact hi0, hA, ?_⟩
        rw [idx0]
        refine ⟨rfl, _, _, hg1, hb2, rfl, ?_⟩
        intro w5 h5
        obtain ⟨ho5, b5⟩ := hput2 w5 h5
        rw [← idx1]
        refine ⟨((a + I.length : Nat) : Int), sub1, ?_⟩
        refine ⟨(I, y :: R), ⟨rfl, rfl, rfl, rfl, rfl, rfl, trivial⟩, ⟨?_, ?_, ?_, b3.trans b5⟩, by show I.length < (I ++ [y]).length; rw [hIl]; omega⟩
        · show M1 = I ++ y :: R
          rw [hQR]; simp
        · intro z hz
          rcases List.mem_cons.1 hz with rfl | hz
          · exact hlt2
          · exact hR z hz
        · show RowD B w5 (.slice A n c) (P ++ (I ++ x :: ((y :: R) ++ (M.drop (k + 1) ++ S))))
          have : P ++ (I ++ x :: ((y :: R) ++ (M.drop (k + 1) ++ S))) = (P ++ I) ++ x :: y :: (R ++ (M.drop (k + 1) ++ S)) := by simp
          rw [this]; exact ho5
      · have hc : ¬ z < 0 := hc
        have hnl : lt x y = false := by
          cases e : lt x y with
          | false => rfl
          | true => exact absurd (hz.2 e) hc
        have hall : ∀ z ∈ I ++ [y], lt x z = false := sorted_last O (by rw [hQR] at hs; exact (List.pairwise_append.1 hs).1) hnl
        rw [← eL] at ho3
        obtain ⟨d1, d2, d3⟩ := done w3 hall ho3
        refine ⟨((a + (k + 1) : Nat) : Int), fin w3 hall ho3 b3, ?_⟩
        exact ⟨(k + 1, (I ++ [y]) ++ x :: R), ⟨rfl, rfl, rfl, rfl, rfl, trivial⟩, ⟨by show 1 ≤ k + 1; omega, d1, d2, d3, b3⟩, by show M.length - (k + 1) < M.length - k; omega⟩
    · have hj : Q = [] := List.length_eq_zero_iff.1 (by have : ¬ ((a + Q.length : Nat) : Int) > (a : Nat) := hj; omega)
      have hall : ∀ z ∈ Q, lt x z = false := fun z hz => by rw [hj] at hz; cases hz
      obtain ⟨d1, d2, d3⟩ := done w2 hall ho2
      refine ⟨((a + (k + 1) : Nat) : Int), fin w2 hall ho2 b2, ?_⟩
      exact ⟨(k + 1, Q ++ x :: R), ⟨rfl, rfl, rfl, rfl, rfl, trivial⟩, ⟨by show 1 ≤ k + 1; omega, d1, d2, d3, b2⟩, by show M.length - (k + 1) < M.length - k; omega⟩
  · have hge : M.length ≤ k := by have : ¬ ((a + k : Nat) : Int) < (b : Nat) := hge; omega
    rw [List.take_of_length_le hge] at hp
    rw [List.drop_eq_nil_of_le hge] at ho1
    exact ⟨M1, hp, hs, ho1, b1⟩
end Go.Proofs.YtahgjidcaeieaaaGreatDoor
