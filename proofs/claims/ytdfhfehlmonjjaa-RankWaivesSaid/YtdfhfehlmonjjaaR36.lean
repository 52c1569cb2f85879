/- The law's function: RankWaives. -/
import Derived.Test.YtdfhfehlmonjjaaR35
namespace Go.Proofs.Ytdfhfehlmonjjaa
open Go.Eng Go.RowKit

theorem valid_of {N : Int} {xs : List Arrow} (hlo : 0 ≤ N) (hhi : N ≤ 24) (hg : ∀ x ∈ xs, goodA N x = true) (hs : xs.Pairwise fun a b => ltA a b = true) : Valid N xs := by
  refine ⟨hlo, hhi, List.all_eq_true.2 fun i hi => ?_⟩
  have hi : i < xs.length := List.mem_range.1 hi
  have hp := List.pairwise_iff_getElem.1 hs
  unfold okAt
  rw [List.getElem?_eq_getElem hi]
  simp only [hg _ (List.getElem_mem hi), Bool.true_and]
  cases i with
  | zero => rfl
  | succ j =>
    have hj : j < xs.length := by omega
    show (match xs[j]? with | some y => ltA y xs[j + 1] | none => false) = true
    rw [List.getElem?_eq_getElem hj]
    exact hp j (j + 1) hj hi (Nat.lt_succ_self _)

theorem Valid.goodAll {N : Int} {xs : List Arrow} (h : Valid N xs) : ∀ x ∈ xs, goodA N x = true := fun x hx => by
  obtain ⟨i, hi, rfl⟩ := List.getElem_of_mem hx
  exact h.good hi
theorem Valid.sorted {N : Int} {xs : List Arrow} (h : Valid N xs) : xs.Pairwise fun a b => ltA a b = true := List.pairwise_iff_getElem.2 fun _ _ _ hj hij => h.lt hij hj
theorem Valid.filter {N : Int} {xs : List Arrow} (h : Valid N xs) (p : Arrow → Bool) : Valid N (xs.filter p) :=
  valid_of h.lo h.hi (fun x hx => h.goodAll x ((List.mem_filter.1 hx).1)) (h.sorted.filter p)

theorem toM_sub {xs ys : List Arrow} (h : ∀ x ∈ ys, x ∈ xs) {a b : Nat} (hm : toM ys a b = true) : toM xs a b = true := by
  unfold toM at *
  obtain ⟨x, hx, hd⟩ := List.any_eq_true.1 hm
  exact List.any_eq_true.2 ⟨x, h x hx, hd⟩
theorem reach_sub {T S : Nat → Nat → Bool} (h : ∀ a b, T a b = true → S a b = true) {a b : Nat} (hr : reach T a b = true) : reach S a b = true := by
  rw [reach_iff] at *
  induction hr with
  | one h1 => exact .one (h _ _ h1)
  | step _ h1 ih => exact .step ih (h _ _ h1)
theorem reach_up {T : Nat → Nat → Bool} (h : ∀ a b, T a b = true → a < b) {a b : Nat} (hr : reach T a b = true) : a < b := by
  rw [reach_iff] at hr
  induction hr with
  | one h1 => exact h _ _ h1
  | step _ h1 ih => exact Nat.lt_trans ih (h _ _ h1)

theorem waive_mem {xs : List Arrow} {ps : List (Int × Int)} {x : Arrow} : x ∈ waiveL xs ps ↔ x ∈ xs ∧ (x.fr, x.to) ∉ ps := by
  unfold waiveL
  rw [List.mem_filter]
  simp

theorem waive_arrow {N : Int} {xs : List Arrow} {ps : List (Int × Int)} (h : Valid N xs) {i : Nat} (hi : i < xs.length) :
    arrowS N (waiveL xs ps) xs[i].fr xs[i].to = if (xs[i].fr, xs[i].to) ∈ ps then none else some xs[i] := by
  have hw : Valid N (waiveL xs ps) := h.filter _
  rw [arrowS, if_pos hw.chk]
  by_cases hp : (xs[i].fr, xs[i].to) ∈ ps
  · rw [if_pos hp]
    refine findA_none fun j hj hh => ?_
    have := (waive_mem.1 (List.getElem_mem hj)).2
    rw [hh.1, hh.2] at this
    exact this hp
  · rw [if_neg hp]
    have hm : xs[i] ∈ waiveL xs ps := waive_mem.2 ⟨List.getElem_mem hi, hp⟩
    obtain ⟨j, hj, e⟩ := List.getElem_of_mem hm
    have := findA_of hw hj (a := xs[i].fr) (b := xs[i].to) (by rw [e]; exact ⟨rfl, rfl⟩)
    rw [this, e]

def backL (xs : List Arrow) : List (Int × Int) := (xs.filter fun x => decide (x.fr > x.to)).map fun x => (x.fr, x.to)
theorem backL_take {xs : List Arrow} {i : Nat} (hi : i < xs.length) : backL (xs.take (i + 1)) = if xs[i].fr > xs[i].to then backL (xs.take i) ++ [(xs[i].fr, xs[i].to)] else backL (xs.take i) := by
  unfold backL
  rw [List.take_succ_eq_append_getElem hi, List.filter_append, List.map_append]
  by_cases h : xs[i].fr > xs[i].to <;> simp [h]
theorem backL_length (xs : List Arrow) : (backL xs).length ≤ xs.length := by
  unfold backL; rw [List.length_map]; exact List.length_filter_le _ _

theorem back_up {N : Int} {xs : List Arrow} (h : Valid N xs) {a b : Nat} (hm : toM (waiveL xs (backL xs)) a b = true) : a < b := by
  unfold toM at hm
  obtain ⟨x, hx, hd⟩ := List.any_eq_true.1 hm
  have hd := of_decide_eq_true hd
  obtain ⟨hx1, hx2⟩ := waive_mem.1 hx
  have hg := goodA_spec (h.goodAll x hx1)
  by_cases hgt : x.fr > x.to
  · exfalso
    refine hx2 (List.mem_map.2 ⟨x, List.mem_filter.2 ⟨hx1, decide_eq_true hgt⟩, rfl⟩)
  · omega

theorem short_of {l : List Nat} {a : Nat} (hn : l.Nodup) (h : ∀ x ∈ l, x = a) : l.length < 2 := by
  match l, hn, h with
  | [], _, _ => simp
  | [_], _, _ => simp
  | x :: y :: r, hn, h =>
    have e1 := h x (by simp)
    have e2 := h y (by simp)
    subst e1 e2
    simp at hn

theorem circles_none {N : Int} {xs : List Arrow} (h : Valid N xs) (hup : ∀ a b, toM xs a b = true → a < b) : circlesV N xs = [] := by
  obtain ⟨n, rfl⟩ := Int.eq_ofNat_of_zero_le h.lo
  have hn : n ≤ 24 := by have := h.hi; omega
  have P := pre_reach hn h.inside
  unfold circlesV compsV
  rw [if_pos h.chk, List.filter_eq_nil_iff]
  intro l hl
  obtain ⟨a, ha, rfl⟩ := P.from_ hl
  have : (members (compS n (reach (toM xs)) a)).length < 2 := by
    unfold members
    rw [List.length_map]
    refine short_of (a := a) (List.Pairwise.filter _ List.nodup_range) fun b hb => ?_
    obtain ⟨_, hc⟩ := List.mem_filter.1 hb
    rcases (compS_iff.1 hc).2 with e | ⟨h1, h2⟩
    · exact e.symm
    · have := reach_up hup h1
      have := reach_up hup h2
      omega
  simpa using this

theorem contrary_sub {N : Int} {xs : List Arrow} {ps : List (Int × Int)} (h : Valid N xs) {a b : Int} (hs : standS N (waiveL xs ps) a b = 3) : standS N xs a b = 3 := by
  have hw : Valid N (waiveL xs ps) := h.filter _
  unfold standS at *
  rw [if_pos hw.chk] at hs
  rw [if_pos h.chk]
  split at hs
  · rename_i hin
    rw [if_pos hin]
    obtain ⟨h1, h2, h3⟩ := standR_three.1 hs
    have hsub : ∀ p q, toM (waiveL xs ps) p q = true → toM xs p q = true := fun p q => toM_sub fun x hx => (waive_mem.1 hx).1
    exact standR_three.2 ⟨h1, reach_sub hsub h2, reach_sub hsub h3⟩
  · cases hs

theorem eqUnlike4 (x y : Operand) {a b : Bool} (h : (a == b) = false) : EqIs C.P .eql 4 x y (.bool a) (.bool b) false := by
  intro w
  rw [Sem.run_bind]
  have hu : C.P.underlying 4 = some .bool := under4
  have : (eqGuard .eql 4 x y (.bool a) (.bool b)).run C.P w = .ok () w := by simp [eqGuard]
  rw [this]
  simp only [Result.andThen_ok]
  have h2 := run_equalIn_bool' (P := C.P) w 9999 4 a b hu
  simp only [binOp]
  simp [Op.equal, Op.maxDepth] at h2 ⊢
  rw [h2]
  cases a <;> cases b <;> simp at h ⊢

theorem Reads.pr {w : World} {A : Option Addr} {ps : List (Int × Int)} (h : Reads w A (prCells ps)) {i : Nat} (hi : i < ps.length) : ∃ b o, A = some ⟨b, o, none⟩ ∧ w.cell? ⟨b, o + i * 2, none⟩ = some (.int .i64 ps[i].1) ∧ w.cell? ⟨b, o + i * 2 + 1, none⟩ = some (.int .i64 ps[i].2) := by
  rcases h with h | ⟨b, o, hA, hr⟩
  · have := congrArg List.length h
    rw [prCells_length] at this
    have : ps.length * 2 = 0 := this
    omega
  · have key : ∀ (l : List (Int × Int)) (i : Nat) (hi : i < l.length), (prCells l)[i * 2]? = some (.int .i64 l[i].1) ∧ (prCells l)[i * 2 + 1]? = some (.int .i64 l[i].2) := by
      intro l
      induction l with
      | nil => intro i hi; simp at hi
      | cons p l ih =>
        intro i hi
        cases i with
        | zero => exact ⟨rfl, rfl⟩
        | succ i =>
          have := ih i (by simpa using hi)
          have e1 : (i + 1) * 2 = i * 2 + 1 + 1 := by omega
          rw [e1]
          exact this
    obtain ⟨k1, k2⟩ := key ps i hi
    exact ⟨b, o, hA, hr _ _ k1, hr _ _ k2⟩

theorem Has_spec {w : World} {A : Option Addr} {c : Nat} {ps : List (Int × Int)} (hr : Reads w A (prCells ps)) (hl : ps.length ≤ 9223372036854775807) (a b : Int) :
    CallsV C.P 38 #[.slice A ps.length c, .int .i64 a, .int .i64 b] w fun v w' => v = .bool (decide ((a, b) ∈ ps)) ∧ w' = w := by
  refine callsV_of C_ok (args := [_, _, _]) (plans := []) Try.func38 rfl Try.ntmps38 (by kernel_rfl) (Nat.le_of_ble_eq_true rfl) ?_
  refine loopE C_ok (fun (i : Nat) => [(0, .slice A ps.length c), (1, .int .i64 a), (2, .int .i64 b), (7, .int .i64 i)])
    (fun i w' => w' = w ∧ i ≤ ps.length ∧ ∀ j (h : j < ps.length), j < i → ps[j] ≠ (a, b)) (fun i => ps.length - i) 0 ⟨rfl, rfl, rfl, rfl, trivial⟩
    ⟨rfl, Nat.zero_le _, fun j _ hj => absurd hj (Nat.not_lt_zero _)⟩ ?_
  rintro i w1 ⟨rfl, hi, hall⟩
  refine brE_dec (fun hlt => ?_) (fun hge => ?_)
  · have hlt : i < ps.length := by have : (i : Int) < (ps.length : Nat) := hlt; omega
    obtain ⟨bb, o, hA, c1, c2⟩ := Reads.pr hr hlt
    have next : IntKind.i64.wrap ((i : Int) + 1) = ((i + 1 : Nat) : Int) := fit ⟨by omega, by omega⟩
    have go : ps[i] ≠ (a, b) → ∀ j (h : j < ps.length), j < i + 1 → ps[j] ≠ (a, b) := fun hn j hj hji => by
      rcases Nat.lt_or_ge j i with h | h
      · exact hall j hj h
      · obtain rfl : j = i := by omega
        exact hn
    refine ⟨i, bb, o, rfl, hlt, hA, ?_⟩
    refine ⟨_, c1, ?_⟩
    refine brE_dec (fun h1 => ?_) (fun h1 => ?_)
    · have h1 : ps[i].1 = a := h1
      refine ⟨i, bb, o, rfl, hlt, hA, ?_⟩
      refine ⟨_, c2, ?_⟩
      refine brE_dec (fun h2 => ?_) (fun h2 => ?_)
      · have h2 : ps[i].2 = b := h2
        refine ⟨?_, rfl⟩
        have : (a, b) ∈ ps := by
          have := List.getElem_mem hlt
          rw [show ps[i] = (a, b) from Prod.ext h1 h2] at this
          exact this
        rw [decide_eq_true this]
      · refine ⟨_, next, ?_⟩
        exact ⟨i + 1, ⟨rfl, rfl, rfl, rfl, trivial⟩, ⟨rfl, hlt, go fun e => h2 (by show ps[i].2 = b; rw [e])⟩, by omega⟩
    · refine ⟨_, next, ?_⟩
      exact ⟨i + 1, ⟨rfl, rfl, rfl, rfl, trivial⟩, ⟨rfl, hlt, go fun e => h1 (by show ps[i].1 = a; rw [e])⟩, by omega⟩
  · have : i = ps.length := by have : ¬ (i : Int) < (ps.length : Nat) := hge; omega
    subst this
    refine ⟨?_, rfl⟩
    have : (a, b) ∉ ps := fun hm => by
      obtain ⟨j, hj, e⟩ := List.getElem_of_mem hm
      exact hall j hj hj e
    rw [decide_eq_false this]

end Go.Proofs.Ytdfhfehlmonjjaa
