/- The reference's Chain. -/
import Derived.Test.YtdfhfehlmonjjaaR31
namespace Go.Proofs.Ytdfhfehlmonjjaa
open Go.Eng Go.RowKit

theorem follow_next {T : Nat → Nat → Bool} {d : Nat → Nat} {x y k : Nat} (hy : y < 24) (ht : T x y = true) (hd : d y = k + 1) (hno : ∀ z < y, ¬ (T x z = true ∧ d z = k + 1)) : follow T d x (k + 1) = (y : Int) :: follow T d y k := by
  have hf : (members (T x)).find? (fun y => decide (d y.toNat = k + 1)) = some (y : Int) := by
    unfold members
    rw [List.find?_map, List.find?_filter]
    rw [find_range (a := y) hy]
    · rfl
    · intro z hz
      have := hno z hz
      simp only [Function.comp, Int.toNat_natCast]
      simpa using this
    · simp [Function.comp, ht, hd]
  rw [follow, hf]
  simp

/-- The first who stands one arrow nearer, among the first 'c'. -/
def FirstTo (T : Nat → Nat → Bool) (d : Nat → Nat) (x k c : Nat) (r : Int) : Prop :=
  (r = -1 ∧ ∀ z < c, ¬ (T x z = true ∧ d z = k)) ∨ ∃ y : Nat, r = (y : Int) ∧ y < c ∧ T x y = true ∧ d y = k ∧ ∀ z < y, ¬ (T x z = true ∧ d z = k)

theorem FirstTo.stay {T : Nat → Nat → Bool} {d : Nat → Nat} {x k c : Nat} {r : Int} (h : FirstTo T d x k c r) (hc : ¬ r < 0 ∨ ¬ (T x c = true ∧ d c = k)) : FirstTo T d x k (c + 1) r := by
  rcases h with ⟨rfl, h⟩ | ⟨y, rfl, hy, h⟩
  · rcases hc with hc | hc
    · exact absurd (by decide) hc
    · refine .inl ⟨rfl, fun z hz => ?_⟩
      rcases Nat.lt_or_ge z c with h1 | h1
      · exact h z h1
      · obtain rfl : z = c := by omega
        exact hc
  · exact .inr ⟨y, rfl, by omega, h⟩

theorem FirstTo.found {T : Nat → Nat → Bool} {d : Nat → Nat} {x k c : Nat} {r : Int} (h : FirstTo T d x k c r) (h0 : r < 0) (ht : T x c = true) (hd : d c = k) : FirstTo T d x k (c + 1) (c : Int) := by
  rcases h with ⟨rfl, h⟩ | ⟨y, rfl, _⟩
  · exact .inr ⟨c, rfl, by omega, ht, hd, h⟩
  · omega

set_option maxRecDepth 100000 in
theorem refChain_spec {N : Int} {A : Option Addr} {xs : List Arrow} {c : Nat} {w : World} (h : HRel w N A xs c) (a b : Int) :
    CallsV C.P 31 #[relVal N A xs.length c, .int .i64 a, .int .i64 b] w (ChainPost w (chainS N xs a b)) := by
  refine callsV_of C_ok (args := [_, _, _]) (plans := []) Try.func31 rfl Try.ntmps31 (by kernel_rfl) (Nat.le_of_ble_eq_true rfl) ?_
  intro g3 w1 h1
  have M1 := (Mem.start w).alloc h1
  refine ⟨[.int .i64 N, .slice A xs.length c], rfl, M1.rd 0 rfl, ?_⟩
  refine (refCheck_spec (h.ext M1.ext)).mono ?_
  rintro v w2 ⟨rfl, e2⟩
  have M2 := M1.grow e2
  refine brE_mk (fun hb0 => ?_) (fun hb0 => ?_)
  · have hv : chk N xs ≠ 0 := by simpa using hb0
    exact ⟨by rw [chainS, if_neg (fun hh => hv hh.1)], M2.ext⟩
  have hv : chk N xs = 0 := by simpa using hb0
  have hok := valid_of_chk hv
  refine ⟨[.int .i64 N, .slice A xs.length c], rfl, M2.rd 0 rfl, ?_⟩
  refine (refIn_spec N A xs.length c a w2).mono ?_
  rintro v w3 ⟨rfl, e3⟩
  have M3 := M2.grow e3
  refine brE_mk (fun ha => ?_) (fun ha => ?_)
  · rw [Bool.not_eq_true'] at ha
    exact ⟨by rw [chainS, if_neg (fun hh => by have := hh.2.1; rw [ha] at this; cases this)], M3.ext⟩
  rw [Bool.not_eq_false'] at ha
  refine ⟨[.int .i64 N, .slice A xs.length c], rfl, M3.rd 0 rfl, ?_⟩
  refine (refIn_spec N A xs.length c b w3).mono ?_
  rintro v w4 ⟨rfl, e4⟩
  have M4 := M3.grow e4
  refine brE_mk (fun hb => ?_) (fun hb => ?_)
  · rw [Bool.not_eq_true'] at hb
    exact ⟨by rw [chainS, if_neg (fun hh => by have := hh.2.1; rw [ha, hb] at this; cases this)], M4.ext⟩
  rw [Bool.not_eq_false'] at hb
  obtain ⟨p, rfl, hp⟩ := inR_nat ha
  obtain ⟨q, rfl, hq⟩ := inR_nat hb
  have hlo := hok.lo
  have hhi := hok.hi
  obtain ⟨n, rfl⟩ := Int.eq_ofNat_of_zero_le hlo
  have hn : n ≤ 24 := by omega
  have hp24 : p < 24 := by omega
  have hq24 : q < 24 := by omega
  have hT : Inside n (toM xs) := hok.inside
  refine ⟨[.int .i64 n, .slice A xs.length c], rfl, M4.rd 0 rfl, ?_⟩
  refine (steps_spec (h.ext M4.ext) hok).mono ?_
  rintro v w5 ⟨rfl, e5⟩
  have M5 := M4.grow e5
  intro g8 w6 h6
  have M6 := M5.alloc h6
  refine ⟨mat_size _, _, _, M6.get 0 rfl, Nat.le_of_ble_eq_true rfl, bools_one 576 _, ?_⟩
  intro w7 h7
  have h7 : Put w6 g8 (.cells (mat (toM xs)).toArray 93 (0, 0)) w7 := by
    have := mat_copy (toM xs) fun _ _ => false
    rw [← mat_zero] at this
    rw [← this]; exact h7
  have M7 := M6.put 0 rfl h7
  refine ⟨[.int .i64 n, .slice A xs.length c], rfl, M7.rd 1 rfl, ?_⟩
  refine (far_spec (h.ext M7.ext) hok (b := q) (by omega)).mono ?_
  rintro v w8 ⟨rfl, e8⟩
  have M8 := M7.grow e8
  intro g9 w9 h9
  have M9 := M8.alloc h9
  refine ⟨nats_size _, _, _, M9.get 0 rfl, Nat.le_of_ble_eq_true rfl, nats_one _, ?_⟩
  intro w10 h10
  have h10 : Put w9 g9 (.cells (nats (dist (toM xs) q)).toArray 80 (0, 0)) w10 := by
    have := nats_copy (dist (toM xs) q) fun _ => 0
    rw [← nats_zero] at this
    rw [← this]; exact h10
  have M10 := M9.put 0 rfl h10
  refine ⟨p, rfl, hp24, ?_⟩
  refine ⟨_, nats_cell (M10.get 0 rfl) hp24, ?_⟩
  refine brE_dec (fun h0 => ?_) (fun h0 => ?_)
  · have h0 : dist (toM xs) q p = 0 := by have : ((dist (toM xs) q p : Nat) : Int) = 0 := h0; omega
    refine ⟨?_, M10.ext⟩
    rw [chainS, if_neg]
    rintro ⟨_, _, hr⟩
    exact dist_zero.1 h0 (reach_iff.1 hr)
  have h0 : dist (toM xs) q p ≠ 0 := by have : ¬ ((dist (toM xs) q p : Nat) : Int) = 0 := h0; omega
  have hch : chainS n xs p q = some (chainL (toM xs) p q) := by
    rw [chainS, if_pos]
    · rfl
    · refine ⟨hv, by rw [ha, hb]; rfl, ?_⟩
      show reach (toM xs) p q = true
      cases hr : reach (toM xs) p q with
      | true => rfl
      | false => exact absurd (dist_zero.2 (reach_false.1 hr)) h0
  rw [hch]
  clear hch
  generalize toM xs = T at *
  have hle := dist_le hT q
  obtain ⟨k0, hk0⟩ : ∃ k, dist T q p = k + 1 := ⟨dist T q p - 1, by omega⟩
  intro go w11 h11
  have M11 := M10.alloc h11
  refine ⟨p, rfl, hp24, ?_⟩
  refine ⟨_, nats_cell (M11.get 1 rfl) hp24, ?_⟩
  rw [hk0]
  have hN11 : NewInts w w11 (.slice (some ⟨go, 0, none⟩) 1 1) [(p : Int)] := owns_block (M11.get 0 rfl) (M11.new 0 rfl) rfl (Nat.le_of_ble_eq_true rfl)
  refine loopE C_ok (fun (s : List Int × Nat × Nat × Value) => [(2, .int .i64 q), (3, .pointer (some ⟨g3, 0, none⟩)), (8, .pointer (some ⟨g8, 0, none⟩)), (9, .pointer (some ⟨g9, 0, none⟩)), (10, s.2.2.2), (11, .int .i64 s.2.1), (12, .int .i64 (s.2.2.1 + 1 : Nat))])
    (fun s w' => s.2.1 < 24 ∧ dist T q s.2.1 = s.2.2.1 + 1 ∧ chainL T p q = (s.1 ++ [(s.2.1 : Int)]) ++ (follow T (dist T q) s.2.1 s.2.2.1 ++ [(q : Int)]) ∧ s.1.length + s.2.2.1 ≤ 26 ∧
      NewInts w w' s.2.2.2 (s.1 ++ [(s.2.1 : Int)]) ∧ Ext w w' ∧ w'.heap[g8]? = some (.cells (mat T).toArray 93 (0, 0)) ∧ w'.heap[g9]? = some (.cells (nats (dist T q)).toArray 80 (0, 0)) ∧ w'.heap[g3]? = some (.cells #[.int .i64 n, .slice A xs.length c] 24 (0, 0)))
    (fun s => s.2.2.1) ([], p, k0, .slice (some ⟨go, 0, none⟩) 1 1) ⟨rfl, rfl, rfl, rfl, rfl, rfl, rfl, trivial⟩
    ⟨hp24, hk0, by rw [chainL, hk0]; rfl, by have := hle p; show 0 + k0 ≤ 26; omega, hN11, M11.ext, M11.get 2 rfl, M11.get 1 rfl, M11.get 3 rfl⟩ ?_
  rintro ⟨pre, x, k, v⟩ w12 ⟨hx, hdx, hcl, hlen, hnew, hE, hm, hd9, hr3⟩
  have hx : x < 24 := hx
  have hdx : dist T q x = k + 1 := hdx
  have hlen : pre.length + k ≤ 26 := hlen
  have hnew : NewInts w w12 v (pre ++ [(x : Int)]) := hnew
  have hpl : (pre ++ [(x : Int)]).length = pre.length + 1 := by simp
  have hcl : chainL T p q = (pre ++ [(x : Int)]) ++ (follow T (dist T q) x k ++ [(q : Int)]) := hcl
  refine brE_dec (fun hk => ?_) (fun hk => ?_)
  · obtain ⟨k, rfl⟩ : ∃ m, k = m + 1 := ⟨k - 1, by have : ((k + 1 : Nat) : Int) > 1 := hk; omega⟩
    have hxn : x < n := dist_lt hT (b := q) (by omega)
    obtain ⟨_, y0, hty0, hy0⟩ := (dist_next (by omega : 2 ≤ k + 1 + 1)).1 hdx
    refine loopE C_ok (fun (s : Nat × Int) => [(2, .int .i64 q), (3, .pointer (some ⟨g3, 0, none⟩)), (8, .pointer (some ⟨g8, 0, none⟩)), (9, .pointer (some ⟨g9, 0, none⟩)), (10, v), (11, .int .i64 x), (12, .int .i64 (k + 1 + 1 : Nat)), (13, .int .i64 s.2), (14, .int .i64 s.1)])
      (fun s w' => w' = w12 ∧ s.1 ≤ n ∧ FirstTo T (dist T q) x (k + 1) s.1 s.2) (fun s => n - s.1) (0, -1) ⟨rfl, rfl, rfl, rfl, rfl, rfl, rfl, rfl, rfl, trivial⟩
      ⟨rfl, Nat.zero_le _, .inl ⟨rfl, fun z hz => absurd hz (Nat.not_lt_zero _)⟩⟩ ?_
    rintro ⟨i, r⟩ w13 ⟨rfl, hi, hfst⟩
    have hi : i ≤ n := hi
    have hfst : FirstTo T (dist T q) x (k + 1) i r := hfst
    refine ⟨_, cell_of_block hr3 rfl, ?_⟩
    refine brE_dec (fun hlt => ?_) (fun hge => ?_)
    · have hlt : i < n := by have : (i : Int) < n := hlt; omega
      have hi24 : i < 24 := by omega
      have next : IntKind.i64.wrap ((i : Int) + 1) = ((i + 1 : Nat) : Int) := fit ⟨by omega, by omega⟩
      have stay : (¬ r < 0 ∨ ¬ (T x i = true ∧ dist T q i = k + 1)) → w13 = w13 ∧ i + 1 ≤ n ∧ FirstTo T (dist T q) x (k + 1) (i + 1) r := fun hh => ⟨rfl, hlt, hfst.stay hh⟩
      refine brE_dec (fun hr0 => ?_) (fun hr0 => ?_)
      · have hr0 : r < 0 := hr0
        refine ⟨x, rfl, hx, ?_⟩
        refine ⟨i, rfl, hi24, ?_⟩
        refine ⟨_, mat_cell hm hx hi24, ?_⟩
        refine brE_mk (fun ht => ?_) (fun ht => ?_)
        · refine ⟨i, rfl, hi24, ?_⟩
          refine ⟨_, nats_cell hd9 hi24, ?_⟩
          refine ⟨((k + 1 : Nat) : Int), by rw [fit ⟨by omega, by omega⟩]; omega, ?_⟩
          refine brE_dec (fun hd => ?_) (fun hd => ?_)
          · have hd : dist T q i = k + 1 := by have : ((dist T q i : Nat) : Int) = ((k + 1 : Nat) : Int) := hd; omega
            refine ⟨_, next, ?_⟩
            exact ⟨(i + 1, (i : Int)), ⟨rfl, rfl, rfl, rfl, rfl, rfl, rfl, rfl, rfl, trivial⟩, ⟨rfl, hlt, hfst.found hr0 ht hd⟩, by show n - (i + 1) < n - i; omega⟩
          · have hd : ¬ dist T q i = k + 1 := by have : ¬ ((dist T q i : Nat) : Int) = ((k + 1 : Nat) : Int) := hd; omega
            refine ⟨_, next, ?_⟩
            exact ⟨(i + 1, r), ⟨rfl, rfl, rfl, rfl, rfl, rfl, rfl, rfl, rfl, trivial⟩, stay (.inr fun hh => hd hh.2), by show n - (i + 1) < n - i; omega⟩
        · refine ⟨_, next, ?_⟩
          exact ⟨(i + 1, r), ⟨rfl, rfl, rfl, rfl, rfl, rfl, rfl, rfl, rfl, trivial⟩, stay (.inr fun hh => by rw [hh.1] at ht; cases ht), by show n - (i + 1) < n - i; omega⟩
      · refine ⟨_, next, ?_⟩
        exact ⟨(i + 1, r), ⟨rfl, rfl, rfl, rfl, rfl, rfl, rfl, rfl, rfl, trivial⟩, stay (.inl hr0), by show n - (i + 1) < n - i; omega⟩
    · have : i = n := by have : ¬ (i : Int) < n := hge; omega
      subst this
      have hy : ∃ y : Nat, r = (y : Int) ∧ y < i ∧ T x y = true ∧ dist T q y = k + 1 ∧ ∀ z < y, ¬ (T x z = true ∧ dist T q z = k + 1) := by
        rcases hfst with ⟨_, hh⟩ | hh
        · exact absurd ⟨hty0, hy0⟩ (hh y0 (hT _ _ hty0).2)
        · exact hh
      obtain ⟨y, rfl, hyn, hty, hdy, hmin⟩ := hy
      have hfol : follow T (dist T q) x (k + 1) = (y : Int) :: follow T (dist T q) y k := follow_next (by omega) hty hdy hmin
      intro g14 w14 h14
      have ho14 : w14.ownsRow w.heap.size 3 1 v (pre ++ [(x : Int)]).length (ints (pre ++ [(x : Int)])) := ownsRow_ext hnew h14.ext
      obtain ⟨A2, c2, rfl, _, _⟩ := reads_of_owns ho14
      have hE14 := hE.trans h14.ext
      refine ⟨rfl, rfl, rfl, w.heap.size, (pre ++ [(x : Int)]).length, ints (pre ++ [(x : Int)]), [.int .i64 y], ho14, hE14.size, Nat.lt_add_one 0, rfl, rfl, .inr ⟨g14, 0, rfl, Rd.of_block h14.here⟩, rfl, rfl, by omega, by simp only [maxLen]; omega, ?_⟩
      intro v15 w15 ho15 hg15 _
      have o15 := only_app ho14 hg15
      refine ⟨((k + 1 : Nat) : Int), by rw [fit ⟨by omega, by omega⟩]; omega, ?_⟩
      refine ⟨(pre ++ [(x : Int)], y, k, v15), ⟨rfl, rfl, rfl, rfl, rfl, rfl, rfl, trivial⟩, ⟨by show y < 24; omega, hdy, ?_, ?_, ?_, app_ext hE14 ho14 hg15, o15 _ _ _ _ (h14.ext.heap hm) (by decide), o15 _ _ _ _ (h14.ext.heap hd9) (by decide), o15 _ _ _ _ (h14.ext.heap hr3) (by decide)⟩, ?_⟩
      · show chainL T p q = _
        rw [hcl]
        show (pre ++ [(x : Int)]) ++ (follow T (dist T q) x (k + 1) ++ [(q : Int)]) = _
        rw [hfol]; simp
      · show (pre ++ [(x : Int)]).length + k ≤ 26
        omega
      · show w15.ownsRow _ _ _ _ _ _
        rw [List.length_append, ints_append]
        exact ho15
      · show k < k + 1
        omega
  · have hk0 : k = 0 := by have : ¬ ((k + 1 : Nat) : Int) > 1 := hk; omega
    subst hk0
    intro g13 w13 h13
    have ho13 : w13.ownsRow w.heap.size 3 1 v (pre ++ [(x : Int)]).length (ints (pre ++ [(x : Int)])) := ownsRow_ext hnew h13.ext
    obtain ⟨A2, c2, rfl, _, _⟩ := reads_of_owns ho13
    have hE13 := hE.trans h13.ext
    refine ⟨rfl, rfl, rfl, w.heap.size, (pre ++ [(x : Int)]).length, ints (pre ++ [(x : Int)]), [.int .i64 q], ho13, hE13.size, Nat.lt_add_one 0, rfl, rfl, .inr ⟨g13, 0, rfl, Rd.of_block h13.here⟩, rfl, rfl, by omega, by simp only [maxLen]; omega, ?_⟩
    intro v14 w14 ho14 hg14 _
    refine ⟨⟨v14, rfl, ?_⟩, app_ext hE13 ho13 hg14⟩
    show w14.ownsRow _ _ _ _ _ _
    rw [hcl, follow, List.nil_append, List.length_append, ints_append]
    exact ho14

end Go.Proofs.Ytdfhfehlmonjjaa
