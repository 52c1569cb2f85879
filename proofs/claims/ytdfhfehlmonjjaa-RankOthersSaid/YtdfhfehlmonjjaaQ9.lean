/- The reference's Waive and Changed; relations compared. -/
import Derived.Test.YtdfhfehlmonjjaaQ8
namespace Go.Proofs.Ytdfhfehlmonjjaa
open Go.Eng Go.RowKit

theorem refWaive_spec {N : Int} {A B : Option Addr} {xs : List Arrow} {c d : Nat} {ps : List (Int × Int)} {w : World} (h : HRel w N A xs c) (hx : xs.length ≤ 2 ^ 40) (hr : Reads w B (prCells ps)) (hpl : ps.length ≤ 2 ^ 44) :
    CallsV C.P 49 #[relVal N A xs.length c, .slice B ps.length d] w fun v w' => (∃ u, v = .tuple #[u, .int .i64 (chk N xs)] ∧ NewRel w.heap.size w' u (if chk N xs = 0 then N else 0) (if chk N xs = 0 then waiveL xs ps else [])) ∧ Ext w w' := by
  refine callsV_of C_ok (args := [_, _]) (plans := plans49) Try.func49 rfl Try.ntmps49 (by kernel_rfl) (Nat.le_of_ble_eq_true rfl) ?_
  intro g2 w1 h1
  intro g4 w2 h2
  have M2 := ((Mem.start w).alloc h1).alloc h2
  refine ⟨[.int .i64 N, .slice A xs.length c], rfl, M2.rd 1 rfl, ?_⟩
  refine (refCheck_spec (h.ext M2.ext)).mono ?_
  rintro v w3 ⟨rfl, e3⟩
  have M3 := M2.grow e3
  refine brE_mk (fun hb => ?_) (fun hb => ?_)
  · have hv : chk N xs ≠ 0 := by simpa using hb
    refine ⟨rfl, _, _, M3.get 0 rfl, Nat.le_of_ble_eq_true rfl, rfl, ?_⟩
    intro w4 h4
    have M4 := M3.put 0 rfl h4
    refine ⟨[.int .i64 0, .slice none 0 0], rfl, M4.rd 0 rfl, ?_⟩
    refine ⟨⟨_, rfl, ?_⟩, M4.ext⟩
    rw [if_neg hv, if_neg hv]
    exact newRel_zero _ _
  have hv : chk N xs = 0 := by simpa using hb
  rw [if_pos hv, if_pos hv]
  refine ⟨_, M3.cell 1 rfl rfl, ?_⟩
  intro g7 w4 h4
  have M4 := M3.alloc h4
  refine ⟨rfl, _, _, M4.get 0 rfl, Nat.le_of_ble_eq_true rfl, rfl, ?_⟩
  intro w5 h5
  have h5 : Put w4 g7 (.cells #[.int .i64 N, .slice none 0 0] 24 (0, 0)) w5 := h5
  have M5 := M4.put 0 rfl h5
  have M5 : Mem w w5 [(g7, .cells #[.int .i64 N, .slice none 0 0] 24 (0, 0)), (g4, .cells #[.int .i64 0, .slice none 0 0] 24 (0, 0)), (g2, .cells #[.int .i64 N, .slice A xs.length c] 24 (0, 0))] := M5
  refine loopE C_ok (fun (s : Nat × Value) => [(1, .slice B ps.length d), (2, .pointer (some ⟨g2, 0, none⟩)), (4, .pointer (some ⟨g4, 0, none⟩)), (7, .pointer (some ⟨g7, 0, none⟩)), (8, .int .i64 s.1)])
    (fun s w' => s.1 ≤ xs.length ∧ Mem w w' [(g7, .cells #[.int .i64 N, s.2] 24 (0, 0)), (g4, .cells #[.int .i64 0, .slice none 0 0] 24 (0, 0)), (g2, .cells #[.int .i64 N, .slice A xs.length c] 24 (0, 0))] ∧
      w'.ownsRow w.heap.size 43 4 s.2 (waiveL (xs.take s.1) ps).length (arrows (waiveL (xs.take s.1) ps)))
    (fun s => xs.length - s.1) (0, .slice none 0 0) ⟨rfl, rfl, rfl, rfl, rfl, trivial⟩ ⟨Nat.zero_le _, M5, World.ownsRow_nil _ _ _ _⟩ ?_
  rintro ⟨i, v⟩ w6 ⟨hi, M6, ho6⟩
  have hi : i ≤ xs.length := hi
  have ho6 : w6.ownsRow w.heap.size 43 4 v (waiveL (xs.take i) ps).length (arrows (waiveL (xs.take i) ps)) := ho6
  have M6 : Mem w w6 [(g7, .cells #[.int .i64 N, v] 24 (0, 0)), (g4, .cells #[.int .i64 0, .slice none 0 0] 24 (0, 0)), (g2, .cells #[.int .i64 N, .slice A xs.length c] 24 (0, 0))] := M6
  refine ⟨_, M6.cell 2 rfl rfl, ?_⟩
  refine brE_dec (fun hlt => ?_) (fun hge => ?_)
  · have hlt : i < xs.length := by have : (i : Int) < (xs.length : Nat) := hlt; omega
    obtain ⟨b, o, hA, hc⟩ := Reads.arrow h.reads hlt
    have hc := M6.oldRd hc
    have next : IntKind.i64.wrap ((i : Int) + 1) = ((i + 1 : Nat) : Int) := fit ⟨by omega, by omega⟩
    have htake := waiveL_take (ps := ps) hlt
    have hwl := waiveL_length (xs.take i) ps
    have hwl2 : (xs.take i).length ≤ xs.length := by rw [List.length_take]; omega
    refine ⟨_, M6.cell 2 rfl rfl, ?_⟩
    refine ⟨i, b, o, rfl, hlt, hA, ?_⟩
    refine ⟨.int .i64 xs[i].fr, hc 0 _ rfl, ?_⟩
    refine ⟨_, M6.cell 2 rfl rfl, ?_⟩
    refine ⟨i, b, o, rfl, hlt, hA, ?_⟩
    refine ⟨.int .i64 xs[i].to, hc 1 _ rfl, ?_⟩
    refine (Has_spec (hr.ext M6.ext) (by omega) xs[i].fr xs[i].to).mono ?_
    rintro v7 w7 ⟨rfl, rfl⟩
    refine brE_mk (fun hp => ?_) (fun hp => ?_)
    · have hp : (xs[i].fr, xs[i].to) ∉ ps := by simpa using hp
      rw [if_neg hp] at htake
      refine ⟨_, M6.cell 0 rfl rfl, ?_⟩
      refine ⟨_, M6.cell 2 rfl rfl, ?_⟩
      refine ⟨i, b, o, rfl, hlt, hA, ?_⟩
      refine ⟨xs[i].cells, rfl, hc, ?_⟩
      intro g8 w8 h8
      refine ⟨h8.ext, ?_⟩
      have M8 := (M6.alloc h8).tail
      have ho8 := ownsRow_ext ho6 h8.ext
      obtain ⟨A6, c6, rfl, _, _⟩ := reads_of_owns ho6
      refine ⟨rfl, rfl, rfl, w.heap.size, _, _, xs[i].cells, ho8, M8.ext.size, Nat.le_of_ble_eq_true rfl, rfl, rfl, .inr ⟨g8, 0, rfl, Rd.of_block h8.here⟩, rfl, rfl, by omega, by simp only [maxLen]; omega, ?_⟩
      intro v9 w9 ho9 hg9 _
      have o9 := only_app ho8 hg9
      have E9 := app_ext M8.ext ho8 hg9
      have h79 := o9 _ _ _ _ (M8.get 0 rfl) (by decide)
      have M9 : Mem w w9 [(g7, .cells #[.int .i64 N, .slice A6 (waiveL (xs.take i) ps).length c6] 24 (0, 0)), (g4, .cells #[.int .i64 0, .slice none 0 0] 24 (0, 0)), (g2, .cells #[.int .i64 N, .slice A xs.length c] 24 (0, 0))] :=
        ⟨E9, fun g o' hm => ⟨(M8.own g o' hm).1, by
          rcases List.mem_cons.1 hm with e | hm
          · cases e; exact h79
          · rcases List.mem_cons.1 hm with e | hm
            · cases e; exact o9 _ _ _ _ (M8.get 1 rfl) (by decide)
            · have := List.mem_singleton.1 hm
              cases this; exact o9 _ _ _ _ (M8.get 2 rfl) (by decide)⟩, M8.nodup⟩
      obtain ⟨A9, c9, rfl, _, _⟩ := reads_of_owns ho9
      refine ⟨rfl, _, _, M9.get 0 rfl, Nat.le_of_ble_eq_true rfl, rfl, ?_⟩
      intro w10 h10
      have M10 := M9.put 0 rfl h10
      have o10 := only_put h10 (M9.get 0 rfl)
      refine ⟨_, next, ?_⟩
      refine ⟨(i + 1, .slice A9 ((waiveL (xs.take i) ps).length + 1) c9), ⟨rfl, rfl, rfl, rfl, rfl, trivial⟩, ⟨(by show i + 1 ≤ xs.length; omega), M10, ?_⟩, by show xs.length - (i + 1) < xs.length - i; omega⟩
      show w10.ownsRow _ _ _ _ (waiveL (xs.take (i + 1)) ps).length (arrows (waiveL (xs.take (i + 1)) ps))
      rw [htake, List.length_append]
      have ea : arrows (waiveL (xs.take i) ps ++ [xs[i]]) = arrows (waiveL (xs.take i) ps) ++ xs[i].cells := by simp [arrows]
      rw [ea]
      exact ownsRow_only ho9 o10 (by decide)
    · have hp : (xs[i].fr, xs[i].to) ∈ ps := by simpa using hp
      rw [if_pos hp] at htake
      refine ⟨_, next, ?_⟩
      refine ⟨(i + 1, v), ⟨rfl, rfl, rfl, rfl, rfl, trivial⟩, ⟨hlt, M6, ?_⟩, by show xs.length - (i + 1) < xs.length - i; omega⟩
      show w7.ownsRow _ _ _ _ (waiveL (xs.take (i + 1)) ps).length (arrows (waiveL (xs.take (i + 1)) ps))
      rw [htake]
      exact ho6
  · have : i = xs.length := by have : ¬ (i : Int) < (xs.length : Nat) := hge; omega
    subst this
    rw [List.take_length] at ho6
    obtain ⟨A6, c6, rfl, _, _⟩ := reads_of_owns ho6
    refine ⟨[.int .i64 N, .slice A6 (waiveL xs ps).length c6], rfl, M6.rd 0 rfl, ?_⟩
    refine ⟨rfl, _, _, M6.get 1 rfl, Nat.le_of_ble_eq_true rfl, rfl, ?_⟩
    intro w7 h7
    have M7 := M6.put 1 rfl h7
    refine ⟨[.int .i64 N, .slice A6 (waiveL xs ps).length c6], rfl, M7.rd 1 rfl, ?_⟩
    refine ⟨⟨_, by rw [hv]; rfl, A6, c6, rfl, ?_⟩, M7.ext⟩
    exact ownsRow_only ho6 (only_put h7 (M6.get 1 rfl)) (by decide)

theorem Same_spec {w : World} {N : Int} {A B : Option Addr} {xs : List Arrow} {c d : Nat} (hx : Reads w A (arrows xs)) (hy : Reads w B (arrows xs)) (hl : xs.length ≤ 9223372036854775807) :
    CallsV C.P 54 #[relVal N A xs.length c, relVal N B xs.length d] w fun v w' => v = .bool true ∧ Ext w w' := by
  refine callsV_of C_ok (args := [_, _]) (plans := plans54) Try.func54 rfl Try.ntmps54 (by kernel_rfl) (Nat.le_of_ble_eq_true rfl) ?_
  intro g2 w1 h1
  intro g3 w2 h2
  have M2 : Mem w w2 [(g3, .cells #[.int .i64 N, .slice B xs.length d] 24 (0, 0)), (g2, .cells #[.int .i64 N, .slice A xs.length c] 24 (0, 0))] := ((Mem.start w).alloc h1).alloc h2
  refine ⟨_, M2.cell 1 rfl rfl, ?_⟩
  refine ⟨_, M2.cell 0 rfl rfl, ?_⟩
  refine brE_false (by simp) ?_
  refine ⟨_, M2.cell 1 rfl rfl, ?_⟩
  refine ⟨_, M2.cell 0 rfl rfl, ?_⟩
  refine brE_false (by simp) ?_
  refine loopE C_ok (fun (i : Nat) => [(2, .pointer (some ⟨g2, 0, none⟩)), (3, .pointer (some ⟨g3, 0, none⟩)), (5, .int .i64 i)])
    (fun i w' => w' = w2 ∧ i ≤ xs.length) (fun i => xs.length - i) 0 ⟨rfl, rfl, rfl, trivial⟩ ⟨rfl, Nat.zero_le _⟩ ?_
  rintro i w3 ⟨rfl, hi⟩
  refine ⟨_, M2.cell 1 rfl rfl, ?_⟩
  refine brE_dec (fun hlt => ?_) (fun hge => ?_)
  · have hlt : i < xs.length := by have : (i : Int) < (xs.length : Nat) := hlt; omega
    obtain ⟨b1, o1, hA, hc1⟩ := Reads.arrow hx hlt
    obtain ⟨b2, o2, hB, hc2⟩ := Reads.arrow hy hlt
    refine ⟨_, M2.cell 1 rfl rfl, ?_⟩
    refine ⟨i, b1, o1, rfl, hlt, hA, ?_⟩
    refine ⟨xs[i].cells, rfl, M2.oldRd hc1, ?_⟩
    refine ⟨_, M2.cell 0 rfl rfl, ?_⟩
    refine ⟨i, b2, o2, rfl, hlt, hB, ?_⟩
    refine ⟨xs[i].cells, rfl, M2.oldRd hc2, ?_⟩
    refine ⟨false, neqSame43 _ _ _, ?_⟩
    refine ⟨((i + 1 : Nat) : Int), fit ⟨by omega, by omega⟩, ?_⟩
    exact ⟨i + 1, ⟨rfl, rfl, rfl, trivial⟩, ⟨rfl, hlt⟩, by omega⟩
  · exact ⟨rfl, M2.ext⟩

set_option maxRecDepth 100000 in
theorem refChanged_spec {N M : Int} {A B : Option Addr} {xs ys : List Arrow} {c d : Nat} {w : World} (h : HRel w N A xs c) (k : HRel w M B ys d) :
    CallsV C.P 53 #[relVal N A xs.length c, relVal M B ys.length d] w fun v w' => (∃ u, v = .tuple #[u, .int .i64 (changedE N xs M ys)] ∧ Prs w.heap.size w' u (changedL N xs M ys)) ∧ Ext w w' := by
  refine callsV_of C_ok (args := [_, _]) (plans := plans53) Try.func53 rfl Try.ntmps53 (by kernel_rfl) (Nat.le_of_ble_eq_true rfl) ?_
  intro g2 w1 h1
  intro g3 w2 h2
  have M2 : Mem w w2 [(g3, .cells #[.int .i64 M, .slice B ys.length d] 24 (0, 0)), (g2, .cells #[.int .i64 N, .slice A xs.length c] 24 (0, 0))] := ((Mem.start w).alloc h1).alloc h2
  refine ⟨[.int .i64 N, .slice A xs.length c], rfl, M2.rd 1 rfl, ?_⟩
  refine (refCheck_spec (h.ext M2.ext)).mono ?_
  rintro v w3 ⟨rfl, e3⟩
  have M3 := M2.grow e3
  -- the error
  have stop : ∀ {e : Int} {w' : World}, e = changedE N xs M ys → e ≠ 0 → Ext w w' → (∃ u, Value.tuple #[.slice none 0 0, .int .i64 e] = .tuple #[u, .int .i64 (changedE N xs M ys)] ∧ Prs w.heap.size w' u (changedL N xs M ys)) ∧ Ext w w' := by
    intro e w' he hne hE
    refine ⟨⟨_, by rw [he], ?_⟩, hE⟩
    rw [changedL, if_neg (by rw [← he]; exact hne)]
    exact prs_nil _ _
  refine brE_dec (fun h1 => ?_) (fun h1 => ?_)
  case' refine_2 =>
    have h1 : chk N xs ≠ 0 := h1
    have e1 : chk N xs = changedE N xs M ys := by rw [changedE, if_pos h1]
    refine brE_false (decide_eq_false h1) ?_
    refine brE_true (by simpa using h1) ?_
    exact stop e1 h1 M3.ext
  have h1 : chk N xs = 0 := h1
  refine ⟨[.int .i64 M, .slice B ys.length d], rfl, M3.rd 0 rfl, ?_⟩
  refine (refCheck_spec (k.ext M3.ext)).mono ?_
  rintro v w4 ⟨rfl, e4⟩
  have M4 := M3.grow e4
  refine brE_dec (fun h2 => ?_) (fun h2 => ?_)
  case' refine_2 =>
    have h2 : chk M ys ≠ 0 := h2
    have e2 : chk M ys = changedE N xs M ys := by rw [changedE, if_neg (by simp [h1]), if_pos h2]
    refine brE_true (by simpa using h2) ?_
    exact stop e2 h2 M4.ext
  have h2 : chk M ys = 0 := h2
  refine ⟨_, M4.cell 1 rfl rfl, ?_⟩
  refine ⟨_, M4.cell 0 rfl rfl, ?_⟩
  refine brE_mk (fun h3 => ?_) (fun h3 => ?_)
  · have h3 : N ≠ M := by simpa using h3
    have e2 : (1 : Int) = changedE N xs M ys := by rw [changedE, if_neg (by simp [h1]), if_neg (by simp [h2]), if_pos h3]
    exact stop e2 (by decide) M4.ext
  have h3 : N = M := by simpa using h3
  subst h3
  have e0 : changedE N xs N ys = 0 := by rw [changedE, if_neg (by simp [h1]), if_neg (by simp [h2]), if_neg (by simp)]
  rw [e0, changedL, if_pos e0]
  have okx := valid_of_chk h1
  have oky := valid_of_chk h2
  have hhi := okx.hi
  refine brE_false (by rw [h2]; rfl) ?_
  obtain ⟨n, rfl⟩ := Int.eq_ofNat_of_zero_le okx.lo
  have hn : n ≤ 24 := by omega
  refine ⟨[.int .i64 n, .slice A xs.length c], rfl, M4.rd 1 rfl, ?_⟩
  refine (Reach_spec (h.ext M4.ext) okx).mono ?_
  rintro v w5 ⟨rfl, e5⟩
  have M5 := M4.grow e5
  intro g7 w6 h6
  have M6 := M5.alloc h6
  refine ⟨mat_size _, _, _, M6.get 0 rfl, Nat.le_of_ble_eq_true rfl, bools_one 576 _, ?_⟩
  intro w7 h7
  have h7 : Put w6 g7 (.cells (mat (reach (toM xs))).toArray 93 (0, 0)) w7 := by
    have := mat_copy (reach (toM xs)) fun _ _ => false
    rw [← mat_zero] at this
    rw [← this]; exact h7
  have M7 := M6.put 0 rfl h7
  refine ⟨[.int .i64 n, .slice B ys.length d], rfl, M7.rd 1 rfl, ?_⟩
  refine (Reach_spec (k.ext M7.ext) oky).mono ?_
  rintro v w8 ⟨rfl, e8⟩
  have M8 := M7.grow e8
  intro g8 w9 h9
  have M9 := M8.alloc h9
  refine ⟨mat_size _, _, _, M9.get 0 rfl, Nat.le_of_ble_eq_true rfl, bools_one 576 _, ?_⟩
  intro w10 h10
  have h10 : Put w9 g8 (.cells (mat (reach (toM ys))).toArray 93 (0, 0)) w10 := by
    have := mat_copy (reach (toM ys)) fun _ _ => false
    rw [← mat_zero] at this
    rw [← this]; exact h10
  have M10 := M9.put 0 rfl h10
  rw [show (n : Int).toNat = n from rfl]
  generalize reach (toM xs) = R at *
  generalize reach (toM ys) = S at *
  refine loopE C_ok (fun (s : Nat × Value) => [(2, .pointer (some ⟨g2, 0, none⟩)), (7, .pointer (some ⟨g7, 0, none⟩)), (8, .pointer (some ⟨g8, 0, none⟩)), (9, s.2), (10, .int .i64 s.1)])
    (fun s w' => s.1 ≤ n ∧ Ext w w' ∧ w'.heap[g7]? = some (.cells (mat R).toArray 93 (0, 0)) ∧ w'.heap[g8]? = some (.cells (mat S).toArray 93 (0, 0)) ∧ w'.heap[g2]? = some (.cells #[.int .i64 n, .slice A xs.length c] 24 (0, 0)) ∧ Prs w.heap.size w' s.2 (pairsTo n (diffB R S) s.1)) (fun s => n - s.1) (0, .slice none 0 0)
    ⟨rfl, rfl, rfl, rfl, rfl, trivial⟩ ⟨Nat.zero_le _, M10.ext, M10.get 1 rfl, M10.get 0 rfl, M10.get 3 rfl, prs_nil _ _⟩ ?_
  rintro ⟨a, v⟩ w11 ⟨ha, E11, hm7, hm8, hg2, ho⟩
  have ha : a ≤ n := ha
  have ho : Prs w.heap.size w11 v (pairsTo n (diffB R S) a) := ho
  refine ⟨_, cell_of_block hg2 rfl, ?_⟩
  refine brE_dec (fun hlt => ?_) (fun hge => ?_)
  · have hlt : a < n := by have : (a : Int) < n := hlt; omega
    refine ⟨((a + 1 : Nat) : Int), fit ⟨by omega, by omega⟩, ?_⟩
    refine loopE C_ok (fun (s : Nat × Value) => [(2, .pointer (some ⟨g2, 0, none⟩)), (7, .pointer (some ⟨g7, 0, none⟩)), (8, .pointer (some ⟨g8, 0, none⟩)), (9, s.2), (10, .int .i64 a), (11, .int .i64 s.1)])
      (fun s w' => a + 1 ≤ s.1 ∧ s.1 ≤ n ∧ Ext w w' ∧ w'.heap[g7]? = some (.cells (mat R).toArray 93 (0, 0)) ∧ w'.heap[g8]? = some (.cells (mat S).toArray 93 (0, 0)) ∧ w'.heap[g2]? = some (.cells #[.int .i64 n, .slice A xs.length c] 24 (0, 0)) ∧ Prs w.heap.size w' s.2 (pairsTo n (diffB R S) a ++ rowTo (diffB R S) a s.1)) (fun s => n - s.1) (a + 1, v)
      ⟨rfl, rfl, rfl, rfl, rfl, rfl, trivial⟩ ⟨Nat.le_refl _, hlt, E11, hm7, hm8, hg2, by show Prs _ _ _ (_ ++ rowTo (diffB R S) a (a + 1)); rw [rowTo_start, List.append_nil]; exact ho⟩ ?_
    rintro ⟨b, v2⟩ w12 ⟨hab, hb, E12, hm7, hm8, hg2, ho2⟩
    have hab : a + 1 ≤ b := hab
    have hb : b ≤ n := hb
    have ho2 : Prs w.heap.size w12 v2 (pairsTo n (diffB R S) a ++ rowTo (diffB R S) a b) := ho2
    refine ⟨_, cell_of_block hg2 rfl, ?_⟩
    refine brE_dec (fun hlt2 => ?_) (fun hge2 => ?_)
    · have hlt2 : b < n := by have : (b : Int) < n := hlt2; omega
      have next : IntKind.i64.wrap ((b : Int) + 1) = ((b + 1 : Nat) : Int) := fit ⟨by omega, by omega⟩
      have hsu := rowTo_succ (hs := diffB R S) hab
      have len1 := pairsTo_length n (diffB R S) a
      have len2 := rowTo_length (diffB R S) a b
      have len0 : a * n ≤ 24 * 24 := Nat.mul_le_mul (by omega) hn
      refine ⟨mat R, bools_length _ _, Rd.of_block hm7, ?_⟩
      refine ⟨mat S, bools_length _ _, Rd.of_block hm8, ?_⟩
      refine (refStand_spec R (a := a) (b := b) (by omega) (by omega) w12).mono ?_
      rintro v3 w13 ⟨rfl, e13⟩
      refine ⟨e13, ?_⟩
      refine (refStand_spec S (a := a) (b := b) (by omega) (by omega) w13).mono ?_
      rintro v3 w14 ⟨rfl, e14⟩
      have e := e13.trans e14
      refine brE_mk (fun hh => ?_) (fun hh => ?_)
      · have hh : diffB R S a b = true := hh
        rw [if_pos hh] at hsu
        intro g9 w15 h15
        have ho9 : w15.ownsRow w.heap.size 58 2 v2 (pairsTo n (diffB R S) a ++ rowTo (diffB R S) a b).length (prCells (pairsTo n (diffB R S) a ++ rowTo (diffB R S) a b)) := ownsRow_ext (ownsRow_ext ho2 e) h15.ext
        have e10 := (E12.trans e).trans h15.ext
        refine ⟨rfl, rfl, rfl, w.heap.size, _, _, [.int .i64 a, .int .i64 b], ho9, e10.size, Nat.le_of_ble_eq_true rfl, rfl, rfl, .inr ⟨g9, 0, rfl, Rd.of_block h15.here⟩, rfl, rfl, by rw [List.length_append]; omega, by rw [List.length_append]; simp only [maxLen]; omega, ?_⟩
        intro v11 w16 ho11 hg11 _
        have o11 := only_app ho9 hg11
        have e' := e.trans h15.ext
        refine ⟨_, next, ?_⟩
        refine ⟨(b + 1, v11), ⟨rfl, rfl, rfl, rfl, rfl, rfl, trivial⟩, ⟨by show a + 1 ≤ b + 1; omega, hlt2, app_ext e10 ho9 hg11, o11 _ _ _ _ (e'.heap hm7) (by decide), o11 _ _ _ _ (e'.heap hm8) (by decide), o11 _ _ _ _ (e'.heap hg2) (by decide), ?_⟩, by show n - (b + 1) < n - b; omega⟩
        show Prs _ _ _ (_ ++ rowTo (diffB R S) a (b + 1))
        rw [hsu, ← List.append_assoc]
        unfold Prs
        rw [prCells_append, List.length_append]
        exact ho11
      · have hh : diffB R S a b = false := hh
        rw [if_neg (by rw [hh]; exact Bool.false_ne_true)] at hsu
        refine ⟨_, next, ?_⟩
        refine ⟨(b + 1, v2), ⟨rfl, rfl, rfl, rfl, rfl, rfl, trivial⟩, ⟨by show a + 1 ≤ b + 1; omega, hlt2, E12.trans e, e.heap hm7, e.heap hm8, e.heap hg2, ?_⟩, by show n - (b + 1) < n - b; omega⟩
        show Prs _ _ _ (_ ++ rowTo (diffB R S) a (b + 1))
        rw [hsu]
        exact ho2.ext e
    · have : b = n := by have : ¬ (b : Int) < n := hge2; omega
      subst this
      refine ⟨((a + 1 : Nat) : Int), fit ⟨by omega, by omega⟩, ?_⟩
      refine ⟨(a + 1, v2), ⟨rfl, rfl, rfl, rfl, rfl, trivial⟩, ⟨hlt, E12, hm7, hm8, hg2, ?_⟩, by show b - (a + 1) < b - a; omega⟩
      show Prs _ _ _ (pairsTo b (diffB R S) (a + 1))
      rw [pairsTo_succ]; exact ho2
  · have : a = n := by have : ¬ (a : Int) < n := hge; omega
    subst this
    exact ⟨⟨v, rfl, ho⟩, E11⟩

end Go.Proofs.Ytdfhfehlmonjjaa
