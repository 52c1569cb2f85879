/- a part of the proof: steps, walks and plain laws that the law below stands on; no condition. -/
import Derived.Test.YtcnbpfecgokhiaaGreatDoorDCa
import Derived.Test.YtcnbpfecgokhiaaGreatDoorDEd
import Derived.Test.YtcnbpfecgokhiaaGreatDoorDBc
import Derived.Test.YtcnbpfecgokhiaaGreatDoorDBb
set_option linter.unusedVariables false
set_option linter.unusedSimpArgs false
set_option linter.unnecessarySimpa false
set_option linter.unusedSectionVars false
namespace Go.Eng
open Go.RowKit Go.Sort

abbrev enc1 (n : Int) : List Value := [.int .i64 n]
theorem ints_flat : ∀ (xs : List Int), xs.flatMap enc1 = ints xs
  | [] => rfl
  | x :: r => by rw [List.flatMap_cons, ints_flat r]; rfl

theorem getI_flat (d : Array Int) {j : Nat} (h : j < d.size) : (flatK enc1 1 d)[j]! = .int .i64 d[j]! := by
  rw [get_flatK enc1 1 d j (by omega), Nat.div_one, Nat.mod_one]
  rfl
theorem putRow_one (w : World) (blk off : Nat) (d : Array Int) : putRow (Value.int .i64) w blk off d = putRowK enc1 1 w blk off d := by
  unfold putRowK putRow
  congr 1
  funext c
  apply Array.ext_getElem?
  intro k
  simp only [putCells, Array.getElem?_mapIdx, size_flatK, Nat.mul_one]
  cases c[k]? with
  | none => rfl
  | some y =>
    simp only [Option.map_some]
    by_cases h : off ≤ k ∧ k < off + d.size
    · rw [if_pos h, if_pos h, getI_flat d (by omega)]; rfl
    · rw [if_neg h, if_neg h]
theorem holdsI_one {w : World} {blk off : Nat} {d : Array Int} (h : HoldsK enc1 1 w blk off d) : Holds (Value.int .i64) w blk off d := by
  intro j hj
  have := h j (by rw [size_flatK]; omega)
  rw [getI_flat d hj] at this
  exact this

end Go.Eng

namespace Go.Proofs.YtcnbpfecgokhiaaGreatDoor
open Go.Eng Go.RowKit Go.Sort

theorem SortI_spec {w : World} {B : Nat} {v : Value} {l : List Int} (h : NewInts B w v l) (hl : l.length ≤ 2 ^ 40) :
    CallsV C.P 234 #[v] w fun r w' => r = .tuple #[] ∧ (∃ l', NewInts B w' v l' ∧ l'.Perm l ∧ l'.Pairwise (· ≤ ·)) ∧ w.grownBy w' v.ownBlock := by
  refine callsV_of_calls fun w₁ hs => ?_
  have h1 : w₁.ownsRow B 3 1 v l.length (ints l) := ownsRow_same hs h
  have turn : ∀ {w' : World} {row : Option Nat}, w₁.grownBy w' row → w.grownBy w' row := fun hg => ⟨hg.os.trans hs.os, hg.tape.trans hs.tape, hg.output.trans hs.output, by rw [← hs.heap]; exact hg.size, fun q hq hne => by rw [← hs.heap] at hq ⊢; exact hg.block q hq hne⟩
  by_cases h0 : l = []
  · subst h0
    obtain ⟨A, c, rfl, _, _⟩ := reads_of_owns h1
    refine (AnyM.slices_Sort_int_none sortI A c w₁).mono ?_
    rintro r w' ⟨rfl, rfl⟩
    exact ⟨_, rfl, ⟨rfl, ⟨[], h1, List.Perm.refl _, List.Pairwise.nil⟩, turn (grownBy_refl _ _)⟩, Nat.le_refl _⟩
  · have hpos : 0 < l.length := List.length_pos_iff.2 h0
    have hv : ∃ q cap, v = .slice (some ⟨q, 0, none⟩) l.length cap := by
      obtain ⟨_, ⟨hv, hn⟩ | ⟨q, cap, cur, hv, _⟩⟩ := h1
      · omega
      · exact ⟨q, cap, hv⟩
    obtain ⟨q, cap, rfl⟩ := hv
    rw [← ints_flat] at h1
    obtain ⟨hH, hlt, hB, hrow⟩ := sort_row (enc := enc1) (k := 1) (fun _ => rfl) h1
    refine (AnyM.slices_Sort_int sortI q 0 cap l w₁ (holdsI_one hH) hlt (by omega)).mono ?_
    rintro r w' ⟨rfl, n, os, rfl⟩
    have hperm := List.mergeSort_perm l fun x y => decide (x ≤ y)
    have hlen : (l.mergeSort fun x y => decide (x ≤ y)).length = l.length := hperm.length_eq
    obtain ⟨ho, hg, _⟩ := hrow (l.mergeSort fun x y => decide (x ≤ y)).toArray n os (by simpa using hlen)
    unfold sortWorldK at ho hg
    rw [← putRow_one] at ho hg
    refine ⟨_, rfl, ⟨rfl, ⟨_, ?_, hperm, ?_⟩, turn hg⟩, ?_⟩
    · show World.ownsRow _ B 3 1 _ (l.mergeSort fun x y => decide (x ≤ y)).length _
      rw [hlen, ← ints_flat]
      exact ho
    · refine (List.pairwise_mergeSort (le := fun x y => decide (x ≤ y)) (fun a b c h1 h2 => ?_) (fun a b => ?_) l).imp fun h => of_decide_eq_true h
      · rw [decide_eq_true_eq] at *; omega
      · rw [Bool.or_eq_true, decide_eq_true_eq, decide_eq_true_eq]; omega
    · show w₁.drawn ≤ w₁.drawn + n
      omega

/-! ### numbers that stand behind their like are struck -/
def compF : Int → List Int → List Int
  | _, [] => []
  | p, x :: r => if x = p then compF p r else x :: compF x r
def compL : List Int → List Int
  | [] => []
  | x :: r => x :: compF x r
def lastOr : Int → List Int → Int
  | p, [] => p
  | _, x :: r => lastOr x r
theorem compF_snoc : ∀ (r : List Int) (p b : Int), compF p (r ++ [b]) = compF p r ++ if b = lastOr p r then [] else [b]
  | [], p, b => by
    show (if b = p then [] else [b]) = _
    rfl
  | x :: r, p, b => by
    rw [List.cons_append, compF, compF, lastOr]
    split
    · rename_i e; subst e; exact compF_snoc r x b
    · rw [compF_snoc r x b, List.cons_append]
theorem lastOr_get : ∀ (r : List Int) (p : Int), lastOr p r = (p :: r)[r.length]'(by simp)
  | [], p => rfl
  | x :: r, p => by
    rw [lastOr, lastOr_get r x]; rfl
theorem compL_take {l : List Int} {j : Nat} (h1 : 1 ≤ j) (hj : j < l.length) : compL (l.take (j + 1)) = compL (l.take j) ++ if l[j] = l[j - 1]'(by omega) then [] else [l[j]] := by
  rw [List.take_succ_eq_append_getElem hj]
  obtain ⟨m, rfl⟩ : ∃ m, j = m + 1 := ⟨j - 1, by omega⟩
  cases l with
  | nil => simp at hj
  | cons x r =>
    have hlen : (r.take m).length = m := by rw [List.length_take]; simp at hj; omega
    rw [List.take_succ_cons, List.cons_append, compL, compF_snoc, compL, List.cons_append]
    have : lastOr x (r.take m) = (x :: r)[m + 1 - 1] := by
      rw [lastOr_get]
      have : (x :: r.take m)[(r.take m).length]'(by simp) = (x :: r.take m)[m]'(by simp [hlen]) := by congr 1
      rw [this]
      have e : x :: r.take m = (x :: r).take (m + 1) := by rw [List.take_succ_cons]
      simp only [e, List.getElem_take, Nat.add_sub_cancel]
    rw [this]
theorem compL_short {l : List Int} (h : l.length < 2) : compL l = l := by
  match l, h with
  | [], _ => rfl
  | [x], _ => rfl
theorem compF_sorted : ∀ {r : List Int} {p : Int}, (p :: r).Pairwise (· ≤ ·) → (p :: compF p r).Pairwise (· < ·) ∧ ∀ x, x ∈ p :: compF p r ↔ x ∈ p :: r
  | [], p, _ => ⟨by simp [compF], fun x => by simp [compF]⟩
  | y :: r, p, h => by
    obtain ⟨h1, h2⟩ := List.pairwise_cons.1 h
    rw [compF]
    split
    · rename_i e
      subst e
      obtain ⟨a, b⟩ := compF_sorted h2
      refine ⟨a, fun x => (b x).trans ?_⟩
      simp
    · rename_i e
      obtain ⟨a, b⟩ := compF_sorted h2
      have hy := h1 y (by simp)
      refine ⟨List.pairwise_cons.2 ⟨fun x hx => ?_, a⟩, fun x => ?_⟩
      · have := (b x).1 hx
        have hyx : y ≤ x := by
          rcases List.mem_cons.1 this with rfl | h
          · exact Int.le_refl _
          · exact (List.pairwise_cons.1 h2).1 x h
        omega
      · rw [List.mem_cons, b x, List.mem_cons (a := x) (b := p)]
theorem comp_sorted {l l' : List Int} (hp : l'.Perm l) (hs : l'.Pairwise (· ≤ ·)) : compL l' = sortD l := by
  have key : (compL l').Pairwise (· < ·) ∧ ∀ x, x ∈ compL l' ↔ x ∈ l' := by
    cases l' with
    | nil => exact ⟨List.Pairwise.nil, fun x => Iff.rfl⟩
    | cons x r => exact compF_sorted hs
  exact sortD_eq key.1 fun x => (key.2 x).trans hp.mem_iff

set_option maxRecDepth 100000 in
theorem Compact_spec {B : Nat} {w : World} {v : Value} {l : List Int} (ho : NewInts B w v l) (hB : B ≤ w.heap.size) (hl : l.length ≤ 2 ^ 40) :
    CallsV C.P 235 #[v] w fun v' w' => NewInts B w' v' (compL l) ∧ Below B w w' := by
  obtain ⟨A, cap, rfl, hR, hlc⟩ := ho.slice
  refine callsV_of C_ok (args := [_]) (plans := plans235) Tryz.func235 rfl Tryz.ntmps235 (by kernel_rfl) (Nat.le_of_ble_eq_true rfl) ?_
  refine brE_dec (fun h2 => ?_) (fun h2 => ?_)
  · have h2 : (l.length : Int) < 2 := h2
    rw [compL_short (by omega)]
    exact ⟨ho, Below.refl _ _⟩
  have h2 : ¬ (l.length : Int) < 2 := h2
  have hA : ∃ g, A = some ⟨g, 0, none⟩ := by
    obtain ⟨_, ⟨hv, h0⟩ | ⟨g, cap', cur, hv, _⟩⟩ := ho
    · omega
    · simp at hv; exact ⟨g, hv.1⟩
  obtain ⟨g, rfl⟩ := hA
  have ho0 : w.ownsRow B 3 1 (.slice (some ⟨g, 0, none⟩) l.length cap) l.length (ints l) := ho
  refine loopE C_ok (fun (k : Nat) => [(0, .slice (some ⟨g, 0, none⟩) l.length cap), (3, .int .i64 k)])
    (fun k w' => w' = w ∧ 1 ≤ k ∧ k ≤ l.length ∧ compL (l.take k) = l.take k) (fun k => l.length - k) 1 ⟨rfl, rfl, trivial⟩ ⟨rfl, Nat.le_refl _, by omega, compL_short (by rw [List.length_take]; omega)⟩ ?_
  rintro k w1 ⟨rfl, hk1, hk, hck⟩
  refine brE_dec (fun hlt => ?_) (fun hge => ?_)
  case' refine_2 =>
    have : k = l.length := by have : ¬ (k : Int) < (l.length : Nat) := hge; omega
    subst this
    rw [List.take_length] at hck
    rw [hck]
    exact ⟨ho, Below.refl _ _⟩
  have hlt : k < l.length := by have : (k : Int) < (l.length : Nat) := hlt; omega
  have next : IntKind.i64.wrap ((k : Int) + 1) = ((k + 1 : Nat) : Int) := fit ⟨by omega, by omega⟩
  have hkp : k - 1 < l.length := by omega
  have hct := compL_take hk1 hlt
  obtain ⟨b1, o1, hA1, hc1⟩ := Reads.int hR hlt
  obtain ⟨b2, o2, hA2, hc2⟩ := Reads.int hR hkp
  refine ⟨k, b1, o1, rfl, hlt, hA1, ?_⟩
  refine ⟨_, by simpa using hc1, ?_⟩
  refine ⟨((k - 1 : Nat) : Int), by rw [fit ⟨by omega, by omega⟩]; omega, ?_⟩
  refine ⟨k - 1, b2, o2, rfl, hkp, hA2, ?_⟩
  refine ⟨_, by simpa using hc2, ?_⟩
  refine brE_dec (fun he => ?_) (fun hn => ?_)
  case' refine_2 =>
    have hn : ¬ l[k] = l[k - 1] := hn
    rw [if_neg hn, hck, ← List.take_succ_eq_append_getElem hlt] at hct
    refine ⟨_, next, ?_⟩
    exact ⟨k + 1, ⟨rfl, rfl, trivial⟩, ⟨rfl, by omega, hlt, hct⟩, by omega⟩
  have he : l[k] = l[k - 1] := he
  rw [if_pos he, hck, List.append_nil] at hct
  refine ⟨k, l.length, rfl, rfl, by omega, by omega, ?_⟩
  have hA2 : (if cap = k then (some (⟨g, 0, none⟩ : Addr)) else (some (⟨g, 0, none⟩ : Addr)).map (·.add (k * 1))) = some ⟨g, k, none⟩ := by
    rw [if_neg (by omega)]
    simp [add_spot]
  refine loopE C_ok (fun (s : Nat × Nat × List Int) => [(0, .slice (some ⟨g, 0, none⟩) l.length cap), (3, .int .i64 s.2.1), (4, .slice (if cap = k then (some (⟨g, 0, none⟩ : Addr)) else (some (⟨g, 0, none⟩ : Addr)).map (·.add (k * 1))) (l.length - k) (cap - k)), (5, .int .i64 s.1)])
    (fun s w' => 1 ≤ s.1 ∧ k + s.1 ≤ l.length ∧ s.2.1 = (compL (l.take (k + s.1))).length ∧ 1 ≤ s.2.1 ∧ s.2.1 < k + s.1 ∧ s.2.2.length = l.length ∧ w'.ownsRow B 3 1 (.slice (some ⟨g, 0, none⟩) l.length cap) l.length (ints s.2.2) ∧ s.2.2.take s.2.1 = compL (l.take (k + s.1)) ∧ (∀ j, k + s.1 ≤ j + 1 → s.2.2[j]? = l[j]?) ∧ Below B w1 w')
    (fun s => l.length - s.1) (1, k, l) ⟨rfl, rfl, rfl, rfl, trivial⟩
    ⟨Nat.le_refl _, hlt, by rw [hct, List.length_take]; show k = _; omega, hk1, Nat.lt_succ_self _, rfl, ho0, hct.symm, fun _ _ => rfl, Below.refl _ _⟩ ?_
  rintro ⟨j, i, R⟩ w2 ⟨hj1', hj', hi', hi1', hij', hRl', ho2', htake', hrest', b2⟩
  have hj1 : 1 ≤ j := hj1'
  have hj : k + j ≤ l.length := hj'
  have hi : i = (compL (l.take (k + j))).length := hi'
  have hi1 : 1 ≤ i := hi1'
  have hij : i < k + j := hij'
  have hRl : R.length = l.length := hRl'
  have ho2 : w2.ownsRow B 3 1 (.slice (some ⟨g, 0, none⟩) l.length cap) l.length (ints R) := ho2'
  have htake : R.take i = compL (l.take (k + j)) := htake'
  have hrest : ∀ q, k + j ≤ q + 1 → R[q]? = l[q]? := hrest'
  clear hj1' hj' hi' hi1' hij' hRl' ho2' htake' hrest'
  have at_ : ∀ {q : Nat} (hq : q < l.length), k + j ≤ q + 1 → ∀ o, o + 0 = q → w2.cell? ⟨g, o, none⟩ = some (.int .i64 l[q]) := fun {q} hq h o ho => by
    have hreads : Reads w2 (some ⟨g, 0, none⟩) (ints R) := by
      obtain ⟨A', c', e, h, _⟩ := reads_of_owns ho2
      cases e; exact h
    obtain ⟨b3, o3, hA3, hc3⟩ := Reads.int hreads (i := q) (by omega)
    cases hA3
    have e := hrest q h
    rw [List.getElem?_eq_getElem hq, List.getElem?_eq_getElem (by omega)] at e
    rw [Option.some.inj e] at hc3
    rw [show o = 0 + q by omega]; exact hc3
  refine brE_dec (fun hlt2 => ?_) (fun hge2 => ?_)
  · have hlt2 : k + j < l.length := by have : (j : Int) < ((l.length - k : Nat) : Int) := hlt2; omega
    have next2 : IntKind.i64.wrap ((j : Int) + 1) = ((j + 1 : Nat) : Int) := fit ⟨by omega, by omega⟩
    have hc := compL_take (l := l) (j := k + j) (by omega) hlt2
    have hp : k + j - 1 < l.length := by omega
    refine ⟨j, g, k, rfl, (by omega : j < l.length - k), hA2, ?_⟩
    refine ⟨_, at_ hlt2 (by omega) _ (by simp), ?_⟩
    refine ⟨((j - 1 : Nat) : Int), by rw [fit ⟨by omega, by omega⟩]; omega, ?_⟩
    refine ⟨j - 1, g, k, rfl, (by omega : j - 1 < l.length - k), hA2, ?_⟩
    refine ⟨_, at_ hp (by omega) _ (by simp; omega), ?_⟩
    refine brE_ndec (fun hn => ?_) (fun he2 => ?_)
    · have hn : ¬ l[k + j] = l[k + j - 1] := hn
      rw [if_neg hn] at hc
      refine ⟨j, g, k, rfl, (by omega : j < l.length - k), hA2, ?_⟩
      refine ⟨_, at_ hlt2 (by omega) _ (by simp), ?_⟩
      obtain ⟨cur, hg, hgB, hcl, hccap, hncap, hdl, hct2, hput⟩ := ownsRow_open ho2
      refine ⟨i, g, 0, rfl, (by omega : i < l.length), rfl, ?_⟩
      refine ⟨rfl, _, _, hg, by show 0 + i * 1 + 1 ≤ cur.length; omega, rfl, ?_⟩
      intro w6 h6
      have h6 : Put w2 g (.cells (splice cur (0 + i * 1) (enc1 l[k + j])).toArray 3 (0, 0)) w6 := h6
      have ho6 := hput (0 + i * 1) (enc1 l[k + j]) w6 (by show 0 + i * 1 + 1 ≤ _; omega) h6
      have hset : splice (ints R) (i * 1) (enc1 l[k + j]) = ints (R.set i l[k + j]) := by
        rw [← ints_flat, ← ints_flat]
        exact flat_set (enc := enc1) (k := 1) (fun _ => rfl) (by omega) _
      rw [show 0 + i * 1 = i * 1 by omega, hset] at ho6
      have nexti : IntKind.i64.wrap ((i : Int) + 1) = ((i + 1 : Nat) : Int) := fit ⟨by omega, by omega⟩
      refine ⟨_, nexti, ?_⟩
      refine ⟨_, next2, ?_⟩
      refine ⟨(j + 1, i + 1, R.set i l[k + j]), ⟨rfl, rfl, rfl, rfl, trivial⟩, ⟨by show 1 ≤ j + 1; omega, hlt2, ?_, by show 1 ≤ i + 1; omega, by show i + 1 < k + (j + 1); omega, by show (R.set i l[k + j]).length = _; rw [List.length_set, hRl], ho6, ?_, ?_, below_put b2 h6 hgB⟩, by show l.length - (j + 1) < l.length - j; omega⟩
      · show i + 1 = (compL (l.take (k + j + 1))).length
        rw [hc, List.length_append, ← hi]; rfl
      · show (R.set i l[k + j]).take (i + 1) = compL (l.take (k + j + 1))
        have hil : i < (R.set i l[k + j]).length := by rw [List.length_set]; omega
        rw [hc, List.take_succ_eq_append_getElem hil, List.take_set_of_le (Nat.le_refl _), htake]
        congr 1
        simp
      · intro q hq
        show (R.set i l[k + j])[q]? = l[q]?
        have hq : k + (j + 1) ≤ q + 1 := hq
        rw [List.getElem?_set_ne (by omega)]
        exact hrest q (by omega)
    · have he2 : l[k + j] = l[k + j - 1] := he2
      rw [if_pos he2, List.append_nil] at hc
      refine ⟨_, next2, ?_⟩
      exact ⟨(j + 1, i, R), ⟨rfl, rfl, rfl, rfl, trivial⟩, ⟨by show 1 ≤ j + 1; omega, hlt2, by show i = (compL (l.take (k + j + 1))).length; rw [hc]; exact hi, hi1, by show i < k + (j + 1); omega, hRl, ho2, by show R.take i = compL (l.take (k + j + 1)); rw [hc]; exact htake, fun q hq => hrest q (by have : k + (j + 1) ≤ q + 1 := hq; omega), b2⟩, by show l.length - (j + 1) < l.length - j; omega⟩
  · have hkj : k + j = l.length := by have : ¬ (j : Int) < ((l.length - k : Nat) : Int) := hge2; omega
    rw [hkj, List.take_length] at hi htake
    obtain ⟨cur, hg, hgB, hcl, hccap, hncap, hdl, hct2, hput⟩ := ownsRow_open ho2
    refine ⟨i, l.length, rfl, rfl, by omega, by omega, ?_⟩
    have hA3 : (if cap = i then (some (⟨g, 0, none⟩ : Addr)) else (some (⟨g, 0, none⟩ : Addr)).map (·.add (i * 1))) = some ⟨g, 0 + i * 1, none⟩ := by
      rw [if_neg (by omega)]
      simp [add_spot]
    refine clearRow (esz := 1) C_ok rfl rfl rfl rfl rfl rfl rfl (by decide) hA3 (by omega) hg (by omega) ?_
    intro zs w3 hzs h3
    have ho3 := hput (0 + i * 1) zs w3 (by rw [hzs]; omega) h3
    refine ⟨0, i, rfl, rfl, Nat.zero_le _, by omega, ?_⟩
    have e : (if cap = 0 then (some ⟨g, 0, none⟩ : Option Addr) else (some (⟨g, 0, none⟩ : Addr)).map (·.add (0 * 1))) = some ⟨g, 0, none⟩ := by
      split <;> rfl
    have hcut := ownsRow_cut ho3 (k := i) (by omega)
    have hft : (ints R).take (i * 1) = ints (R.take i) := by rw [Nat.mul_one, ints, ints, List.map_take]
    rw [show 0 + i * 1 = i * 1 by omega, splice_take_at (by rw [ints_length]; omega), hft, htake] at hcut
    refine ⟨?_, below_put b2 h3 hgB⟩
    show w3.ownsRow B 3 1 (.slice (if cap = 0 then (some ⟨g, 0, none⟩ : Option Addr) else (some (⟨g, 0, none⟩ : Addr)).map (·.add (0 * 1))) i cap) (compL l).length _
    rw [e, ← hi]
    exact hcut

theorem sorted_spec {B : Nat} {w : World} {v : Value} {l : List Int} (ho : NewInts B w v l) (hB : B ≤ w.heap.size) (hl : l.length ≤ 2 ^ 40) :
    CallsV C.P 190 #[v] w fun v' w' => NewInts B w' v' (sortD l) ∧ Below B w w' := by
  refine callsV_of C_ok (args := [_]) (plans := []) Tryz.func190 rfl Tryz.ntmps190 (by kernel_rfl) (Nat.le_of_ble_eq_true rfl) ?_
  refine (SortI_spec ho hl).mono ?_
  rintro r w1 ⟨rfl, ⟨l', ho1, hp, hs⟩, hg⟩
  have b1 : Below B w w1 := below_app (Below.refl _ _) ho hg hB
  refine (Compact_spec ho1 (Nat.le_trans hB b1.size) (by rw [hp.length_eq]; exact hl)).mono ?_
  rintro v' w2 ⟨ho2, b2⟩
  rw [comp_sorted hp hs] at ho2
  exact ⟨ho2, b1.trans b2⟩

end Go.Proofs.YtcnbpfecgokhiaaGreatDoor

namespace Go.Proofs.YtcnbpfecgokhiaaGreatDoor
open Go.Eng Go.RowKit

theorem fm_take {p : Fact → Bool} {f : Fact → Int} {l : List Fact} {i : Nat} (hi : i < l.length) : ((l.take (i + 1)).filter p).map f = ((l.take i).filter p).map f ++ if p l[i] = true then [f l[i]] else [] := by
  rw [List.take_succ_eq_append_getElem hi, List.filter_append, List.map_append, List.filter_cons, List.filter_nil]
  congr 1
  split <;> rfl
theorem fm_length (p : Fact → Bool) (f : Fact → Int) (l : List Fact) : ((l.filter p).map f).length ≤ l.length := by
  rw [List.length_map]; exact List.length_filter_le _ _
theorem fm_take_length (p : Fact → Bool) (f : Fact → Int) (l : List Fact) (i : Nat) : (((l.take i).filter p).map f).length ≤ l.length := Nat.le_trans (fm_length p f _) (by rw [List.length_take]; omega)

set_option maxRecDepth 100000 in
theorem living_spec {w : World} {A : Option Addr} {l : List Fact} {c : Nat} (hr : Reads w A (fcells l)) (hl : l.length ≤ 2 ^ 20) (k s cl : Int) :
    CallsV C.P 166 #[.slice A l.length c, .int .u8 k, .int .i64 s, .int .i64 cl] w fun v w' => NewInts w.heap.size w' v (livingL l k s cl) ∧ Ext w w' := by
  refine callsV_of C_ok (args := [_, _, _, _]) (plans := []) Tryz.func166 rfl Tryz.ntmps166 (by kernel_rfl) (Nat.le_of_ble_eq_true rfl) ?_
  refine loopE C_ok (fun (t : Nat × Value) => [(0, .slice A l.length c), (1, .int .u8 k), (2, .int .i64 s), (3, .int .i64 cl), (9, t.2), (12, .slice A l.length c), (13, .int .i64 l.length), (14, .int .i64 t.1)])
    (fun t w' => t.1 ≤ l.length ∧ Ext w w' ∧ NewInts w.heap.size w' t.2 (((l.take t.1).filter (livesB l k s cl)).map Fact.who)) (fun t => l.length - t.1) (0, .slice none 0 0)
    ⟨rfl, rfl, rfl, rfl, rfl, rfl, rfl, rfl, trivial⟩ ⟨Nat.zero_le _, Ext.refl _, newInts_nil _ _⟩ ?_
  rintro ⟨i, v⟩ w2 ⟨hi', e2, ho'⟩
  have hi : i ≤ l.length := hi'
  have ho : NewInts w.heap.size w2 v (((l.take i).filter (livesB l k s cl)).map Fact.who) := ho'
  clear hi' ho'
  refine brE_dec (fun hlt => ?_) (fun hge => ?_)
  · have hlt : i < l.length := by have : (i : Int) < (l.length : Nat) := hlt; omega
    have next : IntKind.i64.wrap ((i : Int) + 1) = ((i + 1 : Nat) : Int) := fit ⟨by omega, by omega⟩
    have hlen := fm_take_length (livesB l k s cl) Fact.who l i
    have step := fm_take (p := livesB l k s cl) (f := Fact.who) hlt
    obtain ⟨b, o, hA, hc⟩ := Reads.fact (hr.ext e2) hlt
    refine ⟨i, b, o, rfl, hlt, hA, ?_⟩
    refine ⟨l[i].cells, rfl, hc, ?_⟩
    intro g w3 h3
    refine ⟨rfl, _, _, h3.here, Nat.le_of_ble_eq_true rfl, rfl, ?_⟩
    intro w4 h4
    have h4 : Put w3 g (.cells l[i].cells.toArray 81 (0, 0)) w4 := h4
    have e24 : Ext w2 w4 := h4.ext_of h3.ext (by rw [h3.new]; exact Nat.le_refl _)
    have skip : ∀ {w' : World}, Ext w2 w' → livesB l k s cl l[i] = false → i + 1 ≤ l.length ∧ Ext w w' ∧ NewInts w.heap.size w' v (((l.take (i + 1)).filter (livesB l k s cl)).map Fact.who) := fun e h => by
      rw [step, h, if_neg (by decide), List.append_nil]
      exact ⟨hlt, e2.trans e, ho.ext e⟩
    refine ⟨_, cell_of_block h4.here rfl, ?_⟩
    refine brE_dec (fun a1 => ?_) (fun a1 => ?_)
    case' refine_2 =>
      have a1 : ¬ l[i].kind = k := a1
      refine ⟨_, next, ?_⟩
      exact ⟨(i + 1, v), ⟨rfl, rfl, rfl, rfl, rfl, rfl, rfl, rfl, trivial⟩, skip e24 (by unfold livesB; rw [decide_eq_false fun h => a1 h.1]; rfl), by show l.length - (i + 1) < l.length - i; omega⟩
    have a1 : l[i].kind = k := a1
    refine ⟨_, cell_of_block h4.here rfl, ?_⟩
    refine brE_dec (fun a2 => ?_) (fun a2 => ?_)
    case' refine_2 =>
      have a2 : ¬ l[i].what = s := a2
      refine ⟨_, next, ?_⟩
      exact ⟨(i + 1, v), ⟨rfl, rfl, rfl, rfl, rfl, rfl, rfl, rfl, trivial⟩, skip e24 (by unfold livesB; rw [decide_eq_false fun h => a2 h.2.1]; rfl), by show l.length - (i + 1) < l.length - i; omega⟩
    have a2 : l[i].what = s := a2
    refine ⟨_, cell_of_block h4.here rfl, ?_⟩
    refine brE_dec (fun a3 => ?_) (fun a3 => ?_)
    case' refine_2 =>
      have a3 : ¬ l[i].other = cl := a3
      refine ⟨_, next, ?_⟩
      exact ⟨(i + 1, v), ⟨rfl, rfl, rfl, rfl, rfl, rfl, rfl, rfl, trivial⟩, skip e24 (by unfold livesB; rw [decide_eq_false fun h => a3 h.2.2]; rfl), by show l.length - (i + 1) < l.length - i; omega⟩
    have a3 : l[i].other = cl := a3
    refine ⟨_, cell_of_block h4.here rfl, ?_⟩
    refine (vdead_spec (hr.ext (e2.trans e24)) hl l[i].who).mono ?_
    rintro v5 w5 ⟨rfl, e5⟩
    have e25 := e24.trans e5
    refine brE_mk (fun a4 => ?_) (fun a4 => ?_)
    · have hb : livesB l k s cl l[i] = true := by unfold livesB; rw [decide_eq_true ⟨a1, a2, a3⟩]; exact a4
      rw [hb, if_pos rfl] at step
      refine ⟨_, cell_of_block (e5.heap h4.here) rfl, ?_⟩
      intro g6 w6 h6
      have ho6 : w6.ownsRow w.heap.size 3 1 v _ _ := ownsRow_ext ho (e25.trans h6.ext)
      have e6 := (e2.trans e25).trans h6.ext
      refine ⟨rfl, rfl, rfl, w.heap.size, _, _, [.int .i64 l[i].who], ho6, e6.size, Nat.le_of_ble_eq_true rfl, rfl, rfl, .inr ⟨g6, 0, rfl, Rd.of_block h6.here⟩, rfl, rfl, by omega, by simp only [maxLen]; omega, ?_⟩
      intro v7 w7 ho7 hg7 _
      refine ⟨_, next, ?_⟩
      refine ⟨(i + 1, v7), ⟨rfl, rfl, rfl, rfl, rfl, rfl, rfl, rfl, trivial⟩, ⟨hlt, app_ext e6 ho6 hg7, ?_⟩, by show l.length - (i + 1) < l.length - i; omega⟩
      show NewInts w.heap.size w7 v7 (((l.take (i + 1)).filter (livesB l k s cl)).map Fact.who)
      rw [step]
      unfold NewInts
      rw [ints_append, List.length_append]
      exact ho7
    · refine ⟨_, next, ?_⟩
      exact ⟨(i + 1, v), ⟨rfl, rfl, rfl, rfl, rfl, rfl, rfl, rfl, trivial⟩, skip e25 (by unfold livesB; rw [a4, Bool.and_false]), by show l.length - (i + 1) < l.length - i; omega⟩
  · have : i = l.length := by have : ¬ (i : Int) < (l.length : Nat) := hge; omega
    subst this
    rw [List.take_length] at ho
    have hlen := fm_length (livesB l k s cl) Fact.who l
    refine (sorted_spec ho e2.size (by omega)).mono ?_
    rintro v3 w3 ⟨ho3, b3⟩
    exact ⟨ho3, Below.trans e2 b3⟩

end Go.Proofs.YtcnbpfecgokhiaaGreatDoor
