/- rank: the web of a relation. -/
import Derived.Test.YtdfhfehlmonjjaaR3
namespace Go.Proofs.Ytdfhfehlmonjjaa
open Go.Eng Go.RowKit

open Classical in
/-- Does a chain lead from one guest to another? -/
noncomputable def reach (T : Nat → Nat → Bool) (a b : Nat) : Bool := decide (Path T a b)

theorem reach_iff {T : Nat → Nat → Bool} {a b : Nat} : reach T a b = true ↔ Path T a b := by simp [reach]
theorem reach_false {T : Nat → Nat → Bool} {a b : Nat} : reach T a b = false ↔ ¬ Path T a b := by simp [reach]

theorem reach_of_vis {T : Nat → Nat → Bool} (hT : Inside 24 T) {x : Nat} {S : Nat → Bool} (h : Vis T x (fun _ => false) S) : S = reach T x := by
  funext z
  rw [Bool.eq_iff_iff, reach_iff]
  constructor
  · intro hz; exact (h.new z hz rfl).1
  · intro hp
    exact hp.closed (S := fun z => S z = true) (fun c hc => h.next c (hT _ _ hc).2 hc) (fun y c hy hc => (h.new y hy rfl).2 c (hT _ _ hc).2 hc)

theorem set_size (S : Nat → Bool) : (Value.agg (setCells S).toArray).cells.size = 24 := by simp [Value.cells, bools_length]

theorem from_spec {w : World} {g : Nat} {N : Int} {T R : Nat → Nat → Bool} (hw : Web w g N T R) (hT : Inside 24 T) {x : Nat} (hx : x < 24) :
    CallsV C.P 82 #[.pointer (some ⟨g, 0, none⟩), .int .i64 x] w fun v w' => v = .agg (setCells (reach T x)).toArray ∧ Ext w w' := by
  refine callsV_of C_ok (args := [_, _]) (plans := []) Try.func82 rfl Try.ntmps82 (by kernel_rfl) (Nat.le_of_ble_eq_true rfl) ?_
  intro gb w1 h1
  intro gr w2 h2
  intro gs w3 h3
  intro gv w4 h4
  have M4 : Mem w w4 [(gv, .cells #[.nilFunc] 114 (0, 0)), (gs, .cells (List.replicate 24 (.bool false)).toArray 76 (0, 0)), (gr, .cells (List.replicate 24 (.bool false)).toArray 76 (0, 0)), (gb, .cells #[.pointer (some ⟨g, 0, none⟩)] 70 (0, 0))] :=
    ((((Mem.start w).alloc h1).alloc h2).alloc h3).alloc h4
  refine ⟨[], [.pointer (some ⟨gb, 0, none⟩), .pointer (some ⟨gs, 0, none⟩), .pointer (some ⟨gv, 0, none⟩)], rfl, rfl, ?_⟩
  refine ⟨rfl, _, _, M4.get 0 rfl, Nat.le_of_ble_eq_true rfl, rfl, ?_⟩
  intro w5 h5
  have M5 := M4.put 0 rfl h5
  have hz := bools_false 24
  have hv : VisMem w5 g gb gs gv N T R (fun _ => false) :=
    ⟨hw.ext M5.ext, M5.get 3 rfl, by rw [setCells, ← hz]; exact M5.get 1 rfl, M5.get 0 rfl⟩
  refine ⟨_, cell_of_block hv.fn rfl, ?_⟩
  refine (visit_spec _ x _ w5 g gb gs gv N T R (Nat.le_refl _) hx hv).mono ?_
  rintro v w6 ⟨S, hvis, hg, hs⟩
  have hS := reach_of_vis hT hvis
  subst hS
  have hE6 : Ext w w6 := (M5.tail.tail.tail.tail.grown hg (fun k hk => by cases hk; exact M5.new 1 rfl) (fun p hp => (by cases hp))).ext
  have hr6 : w6.heap[gr]? = some (.cells (List.replicate 24 (.bool false)).toArray 76 (0, 0)) := by
    refine grownBy_heap hg (M5.get 2 rfl) ?_
    rw [h2.new, h3.new, h2.size]
    omega
  refine ⟨_, bools_length _ _, Rd.of_block hs, ?_⟩
  refine ⟨set_size _, _, _, hr6, Nat.le_of_ble_eq_true rfl, bools_one 24 (reach T x), ?_⟩
  intro w7 h7
  have e7 : splice (List.replicate 24 (Value.bool false)) 0 (setCells (reach T x)) = setCells (reach T x) := by
    unfold splice
    rw [bools_length]
    simp
  have h7 : Put w6 gr (.cells (setCells (reach T x)).toArray 76 (0, 0)) w7 := by rw [← e7]; exact h7
  refine ⟨_, bools_length _ _, Rd.of_block h7.here, ?_⟩
  exact ⟨rfl, h7.ext_of hE6 (M5.new 2 rfl)⟩

def toM (xs : List Arrow) (a b : Nat) : Bool := xs.any fun x => decide (x.fr = (a : Int) ∧ x.to = (b : Int))

/-- A relation is valid. -/
structure Valid (N : Int) (xs : List Arrow) : Prop where
  lo : 0 ≤ N
  hi : N ≤ 24
  ok : allOk N xs = true

theorem valid_of_chk {N : Int} {xs : List Arrow} (h : chk N xs = 0) : Valid N xs := by
  unfold chk at h
  by_cases h1 : N > 24
  · rw [if_pos h1] at h; cases h
  · rw [if_neg h1] at h
    by_cases h2 : N < 0
    · rw [if_pos h2] at h; cases h
    · rw [if_neg h2] at h
      by_cases h3 : allOk N xs = true
      · exact ⟨by omega, by omega, h3⟩
      · rw [if_neg h3] at h; cases h

theorem Valid.chk {N : Int} {xs : List Arrow} (h : Valid N xs) : chk N xs = 0 := by
  unfold Ytdfhfehlmonjjaa.chk
  rw [if_neg (by have := h.hi; omega), if_neg (by have := h.lo; omega), if_pos h.ok]

theorem Valid.at_ {N : Int} {xs : List Arrow} (h : Valid N xs) {i : Nat} (hi : i < xs.length) : okAt N xs i = true := List.all_eq_true.1 h.ok i (List.mem_range.2 hi)

theorem Valid.good {N : Int} {xs : List Arrow} (h : Valid N xs) {i : Nat} (hi : i < xs.length) : goodA N xs[i] = true := by
  have := h.at_ hi
  unfold okAt at this
  simp [hi] at this
  exact this.1

theorem goodA_spec {N : Int} {x : Arrow} (h : goodA N x = true) : 0 ≤ x.fr ∧ x.fr ≤ N - 1 ∧ 0 ≤ x.to ∧ x.to ≤ N - 1 ∧ x.fr ≠ x.to ∧ 0 ≤ x.rule ∧ x.rule ≤ 23 ∧ 1 ≤ x.wt ∧ x.wt ≤ 1000 := by
  simp only [goodA, Bool.and_eq_true, decide_eq_true_eq, Bool.not_eq_true', decide_eq_false_iff_not] at h
  obtain ⟨⟨⟨⟨⟨a, b⟩, c, d⟩, e⟩, f, g⟩, i, j⟩ := h
  exact ⟨a, b, c, d, e, f, g, i, j⟩

theorem Valid.inside {N : Int} {xs : List Arrow} (h : Valid N xs) : Inside N.toNat (toM xs) := by
  intro a b hab
  unfold toM at hab
  obtain ⟨x, hx, hd⟩ := List.any_eq_true.1 hab
  obtain ⟨i, hi, rfl⟩ := List.getElem_of_mem hx
  have := goodA_spec (h.good hi)
  have hd := of_decide_eq_true hd
  omega

theorem Valid.inside24 {N : Int} {xs : List Arrow} (h : Valid N xs) : Inside 24 (toM xs) := fun a b hab => by
  have := h.inside a b hab
  have := h.hi
  omega

theorem toM_take {xs : List Arrow} {i : Nat} (hi : i < xs.length) {a b : Nat} (ha : xs[i].fr = (a : Int)) (hb : xs[i].to = (b : Int)) : upd2 (toM (xs.take i)) a b true = toM (xs.take (i + 1)) := by
  funext p q
  unfold toM upd2
  rw [List.take_succ_eq_append_getElem hi, List.any_append]
  simp only [List.any_cons, List.any_nil, Bool.or_false, ha, hb]
  by_cases h : p = a ∧ q = b
  · obtain ⟨rfl, rfl⟩ := h; simp
  · have : ¬ ((a : Int) = (p : Int) ∧ (b : Int) = (q : Int)) := by omega
    rw [if_neg h, decide_eq_false this, Bool.or_false]

theorem web_zero (N : Int) : splice ([Value.int .i64 0] ++ List.replicate 1152 (.bool false)) 0 [.int .i64 N] = webCells N (fun _ _ => false) (fun _ _ => false) := by
  have h := bools_false 1152
  have e : List.replicate 1152 (Value.bool false) = mat (fun _ _ => false) ++ mat (fun _ _ => false) := by
    have h1 := bools_false 576
    have : List.replicate 1152 (Value.bool false) = List.replicate 576 (Value.bool false) ++ List.replicate 576 (Value.bool false) := by
      rw [List.replicate_append_replicate]
    rw [this, h1]
  rw [webCells, ← e]
  rfl

theorem open_no {N : Int} {A : Option Addr} {xs : List Arrow} {c : Nat} {w : World} (h : HRel w N A xs c) (hbad : chk N xs ≠ 0) :
    CallsV C.P 58 #[relVal N A xs.length c] w fun v w' => v = .tuple #[.pointer none, .bool false] ∧ Ext w w' := by
  refine callsV_of C_ok (args := [_]) (plans := plans58) Try.func58 rfl Try.ntmps58 (by kernel_rfl) (Nat.le_of_ble_eq_true rfl) ?_
  intro g1 w1 h1
  have M1 := (Mem.start w).alloc h1
  refine ⟨[.int .i64 N, .slice A xs.length c], rfl, M1.rd 0 rfl, ?_⟩
  refine (Check_spec (h.ext M1.ext)).mono ?_
  rintro v w2 ⟨rfl, he⟩
  refine brE_true (by simpa using hbad) ?_
  exact ⟨rfl, (M1.grow he).ext⟩

theorem open_yes {N : Int} {A : Option Addr} {xs : List Arrow} {c : Nat} {w : World} (h : HRel w N A xs c) (hok : Valid N xs) :
    CallsV C.P 58 #[relVal N A xs.length c] w fun v w' => ∃ g, v = .tuple #[.pointer (some ⟨g, 0, none⟩), .bool true] ∧ w.heap.size ≤ g ∧ Web w' g N (toM xs) (reach (toM xs)) ∧ Ext w w' := by
  have hlen := h.len
  have hcap := h.cap
  obtain ⟨n, rfl⟩ := Int.eq_ofNat_of_zero_le hok.lo
  have hn : n ≤ 24 := by have := hok.hi; omega
  have hin := hok.inside24
  refine callsV_of C_ok (args := [_]) (plans := plans58) Try.func58 rfl Try.ntmps58 (by kernel_rfl) (Nat.le_of_ble_eq_true rfl) ?_
  intro g1 w1 h1
  have M1 := (Mem.start w).alloc h1
  refine ⟨[.int .i64 n, .slice A xs.length c], rfl, M1.rd 0 rfl, ?_⟩
  refine (Check_spec (h.ext M1.ext)).mono ?_
  rintro v w2 ⟨rfl, he⟩
  refine brE_false (by simp [hok.chk]) ?_
  have M2 := M1.grow he
  refine ⟨_, M2.cell 0 rfl rfl, ?_⟩
  intro gw w3 h3
  have M3 : Mem w w3 [(gw, .cells (webCells n (toM (xs.take 0)) (fun _ _ => false)).toArray 79 (0, 0)), (g1, .cells #[.int .i64 n, .slice A xs.length c] 24 (0, 0))] := by
    have := M2.alloc h3
    have e : webCells n (toM (xs.take 0)) (fun _ _ => false) = webCells n (fun _ _ => false) (fun _ _ => false) := rfl
    rw [e, ← web_zero]
    exact this
  refine ⟨_, M3.cell 1 rfl rfl, ?_⟩
  refine loopE C_ok (fun (i : Nat) => [(4, .pointer (some ⟨gw, 0, none⟩)), (16, .slice A xs.length c), (17, .int .i64 xs.length), (18, .int .i64 i)])
    (fun i w' => i ≤ xs.length ∧ Mem w w' [(gw, .cells (webCells n (toM (xs.take i)) (fun _ _ => false)).toArray 79 (0, 0))]) (fun i => xs.length - i) 0 ⟨rfl, rfl, rfl, rfl, trivial⟩
    ⟨Nat.zero_le _, M3.sub (List.Sublist.cons_cons _ (List.nil_sublist _))⟩ ?_
  rintro i w4 ⟨hi, M4⟩
  refine brE_dec (fun hlt => ?_) (fun hge => ?_)
  · have hlt : i < xs.length := by omega
    obtain ⟨b, o, hA, hr⟩ := Reads.arrow h.reads hlt
    have hg := goodA_spec (hok.good hlt)
    obtain ⟨p, hp⟩ := Int.eq_ofNat_of_zero_le hg.1
    obtain ⟨q, hq⟩ := Int.eq_ofNat_of_zero_le hg.2.2.1
    have hp24 : p < 24 := by omega
    have hq24 : q < 24 := by omega
    refine ⟨i, b, o, rfl, hlt, hA, ?_⟩
    refine ⟨xs[i].cells, rfl, M4.oldRd hr, ?_⟩
    intro gx w5 h5
    have M5 := M4.alloc h5
    refine ⟨rfl, _, _, M5.get 0 rfl, Nat.le_of_ble_eq_true rfl, rfl, ?_⟩
    intro w6 h6
    have M6 : Mem w w6 [(gx, .cells xs[i].cells.toArray 43 (0, 0)), (gw, .cells (webCells n (toM (xs.take i)) (fun _ _ => false)).toArray 79 (0, 0))] := M5.put 0 rfl h6
    refine ⟨.int .i64 (p : Int), by rw [← hp]; exact M6.cell 0 rfl rfl, ?_⟩
    refine ⟨.int .i64 (q : Int), by rw [← hq]; exact M6.cell 0 rfl rfl, ?_⟩
    refine ⟨p, rfl, hp24, ?_⟩
    refine ⟨q, rfl, hq24, ?_⟩
    refine ⟨rfl, _, _, M6.get 1 rfl, by rw [webCells_length]; show 0 + (0 + 1) + p * 24 + q * 1 + 1 ≤ 1153; omega, rfl, ?_⟩
    intro w7 h7
    have e7 : splice (webCells n (toM (xs.take i)) (fun _ _ => false)) (0 + (0 + 1) + p * 24 + q * 1) [.bool true] = webCells n (toM (xs.take (i + 1))) (fun _ _ => false) := by
      rw [← toM_take hlt hp hq, ← web_set_to hp24 hq24]
      congr 1
      omega
    have h7 : Put w6 gw (.cells (webCells n (toM (xs.take (i + 1))) (fun _ _ => false)).toArray 79 (0, 0)) w7 := by rw [← e7]; exact h7
    refine ⟨((i + 1 : Nat) : Int), fit ⟨by omega, by omega⟩, ?_⟩
    exact ⟨i + 1, ⟨rfl, rfl, rfl, rfl, trivial⟩, ⟨hlt, (M6.put 1 rfl h7).tail⟩, by omega⟩
  · have : i = xs.length := by omega
    subst this
    rw [List.take_length] at M4
    refine ⟨_, M4.cell 0 rfl rfl, ?_⟩
    refine loopE C_ok (fun (a : Nat) => [(4, .pointer (some ⟨gw, 0, none⟩)), (35, .int .i64 n), (36, .int .i64 a)])
      (fun a w' => a ≤ n ∧ Mem w w' [(gw, .cells (webCells n (toM xs) (fun p q => if p < a then reach (toM xs) p q else false)).toArray 79 (0, 0))]) (fun a => n - a) 0 ⟨rfl, rfl, rfl, trivial⟩
      ⟨Nat.zero_le _, by simpa using M4⟩ ?_
    rintro a w5 ⟨ha, M5⟩
    refine brE_dec (fun hlt => ?_) (fun hge => ?_)
    · have hlt : a < n := by omega
      have ha24 : a < 24 := by omega
      refine (from_spec (M5.get 0 rfl) hin ha24).mono ?_
      rintro v w6 ⟨rfl, he6⟩
      refine ⟨he6, ?_⟩
      have M6 := M5.grow he6
      refine ⟨a, rfl, ha24, ?_⟩
      refine ⟨set_size _, _, _, M6.get 0 rfl, by rw [webCells_length]; show 0 + (576 + 1) + a * 24 + 24 ≤ 1153; omega, bools_one 24 _, ?_⟩
      intro w7 h7
      have e7 : splice (webCells n (toM xs) (fun p q => if p < a then reach (toM xs) p q else false)) (0 + (576 + 1) + a * 24) (setCells (reach (toM xs) a)) = webCells n (toM xs) (fun p q => if p < a + 1 then reach (toM xs) p q else false) := by
        have e1 : 0 + (576 + 1) + a * 24 = 577 + a * 24 := by omega
        rw [e1, web_setRow ha24]
        congr 1
        funext p q
        unfold updRow
        by_cases hpa : p = a
        · subst hpa; rw [if_pos rfl, if_pos (by omega)]
        · rw [if_neg hpa]
          by_cases h1 : p < a
          · show (if p < a then _ else _) = _
            rw [if_pos h1, if_pos (by omega)]
          · show (if p < a then _ else _) = _
            rw [if_neg h1, if_neg (by omega)]
      have h7 : Put w6 gw (.cells (webCells n (toM xs) (fun p q => if p < a + 1 then reach (toM xs) p q else false)).toArray 79 (0, 0)) w7 := by rw [← e7]; exact h7
      refine ⟨((a + 1 : Nat) : Int), fit ⟨by omega, by omega⟩, ?_⟩
      exact ⟨a + 1, ⟨rfl, rfl, rfl, trivial⟩, ⟨hlt, M6.put 0 rfl h7⟩, by omega⟩
    · have : a = n := by omega
      subst this
      have eR : (fun p q => if p < a then reach (toM xs) p q else false) = reach (toM xs) := by
        funext p q
        by_cases hp : p < a
        · rw [if_pos hp]
        · rw [if_neg hp]
          symm
          rw [reach_false]
          intro hpath
          have := (hpath.inside hok.inside).1
          simp at this
          omega
      rw [eR] at M5
      exact ⟨gw, rfl, M5.new 0 rfl, M5.get 0 rfl, M5.ext⟩

end Go.Proofs.Ytdfhfehlmonjjaa
