/- rank: the laws RankArrows, RankWaives. -/
import Derived.Test.YtdfhfehlmonjjaaQ6
import Derived.Test.YtdfhfehlmonjjaaE8
namespace Go.Proofs.Ytdfhfehlmonjjaa
open Go.Eng Go.RowKit

theorem follow_next {T : Nat → Nat → Bool} {d : Nat → Nat} {x y k : Nat} (hy : y < 24) (ht : T x y = true) (hd : d y = k + 1) (hno : ∀ z < y, ¬ (T x z = true ∧ d z = k + 1)) : follow T d x (k + 1) = (y : Int) :: follow T d y k := by
  have hf : (members (T x)).find? (fun y => decide (d y.toNat = k + 1)) = some (y : Int) := by
    unfold members
    rw [List.find?_map, List.find?_filter]
    rw [find_range (a := y) hy]
    · rfl
    · intro z hz
      have := hno z hz
      simp only [Function.comp, Int.toNat_natCast]
      simpa using this
    · simp [Function.comp, ht, hd]
  rw [follow, hf]
  simp

/-- The first who stands one arrow nearer, among the first 'c'. -/
def FirstTo (T : Nat → Nat → Bool) (d : Nat → Nat) (x k c : Nat) (r : Int) : Prop :=
  (r = -1 ∧ ∀ z < c, ¬ (T x z = true ∧ d z = k)) ∨ ∃ y : Nat, r = (y : Int) ∧ y < c ∧ T x y = true ∧ d y = k ∧ ∀ z < y, ¬ (T x z = true ∧ d z = k)

theorem FirstTo.stay {T : Nat → Nat → Bool} {d : Nat → Nat} {x k c : Nat} {r : Int} (h : FirstTo T d x k c r) (hc : ¬ r < 0 ∨ ¬ (T x c = true ∧ d c = k)) : FirstTo T d x k (c + 1) r := by
  rcases h with ⟨rfl, h⟩ | ⟨y, rfl, hy, h⟩
  · rcases hc with hc | hc
    · exact absurd (by decide) hc
    · refine .inl ⟨rfl, fun z hz => ?_⟩
      rcases Nat.lt_or_ge z c with h1 | h1
      · exact h z h1
      · obtain rfl : z = c := by omega
        exact hc
  · exact .inr ⟨y, rfl, by omega, h⟩

theorem FirstTo.found {T : Nat → Nat → Bool} {d : Nat → Nat} {x k c : Nat} {r : Int} (h : FirstTo T d x k c r) (h0 : r < 0) (ht : T x c = true) (hd : d c = k) : FirstTo T d x k (c + 1) (c : Int) := by
  rcases h with ⟨rfl, h⟩ | ⟨y, rfl, _⟩
  · exact .inr ⟨c, rfl, by omega, ht, hd, h⟩
  · omega

set_option maxRecDepth 100000 in
theorem refChain_spec {N : Int} {A : Option Addr} {xs : List Arrow} {c : Nat} {w : World} (h : HRel w N A xs c) (a b : Int) :
    CallsV C.P 31 #[relVal N A xs.length c, .int .i64 a, .int .i64 b] w (ChainPost w (chainS N xs a b)) := by
  refine callsV_of C_ok (args := [_, _, _]) (plans := []) Try.func31 rfl Try.ntmps31 (by kernel_rfl) (Nat.le_of_ble_eq_true rfl) ?_
  intro g3 w1 h1
  have M1 := (Mem.start w).alloc h1
  refine ⟨[.int .i64 N, .slice A xs.length c], rfl, M1.rd 0 rfl, ?_⟩
  refine (refCheck_spec (h.ext M1.ext)).mono ?_
  rintro v w2 ⟨rfl, e2⟩
  have M2 := M1.grow e2
  refine brE_mk (fun hb0 => ?_) (fun hb0 => ?_)
  · have hv : chk N xs ≠ 0 := by simpa using hb0
    exact ⟨by rw [chainS, if_neg (fun hh => hv hh.1)], M2.ext⟩
  have hv : chk N xs = 0 := by simpa using hb0
  have hok := valid_of_chk hv
  refine ⟨[.int .i64 N, .slice A xs.length c], rfl, M2.rd 0 rfl, ?_⟩
  refine (refIn_spec N A xs.length c a w2).mono ?_
  rintro v w3 ⟨rfl, e3⟩
  have M3 := M2.grow e3
  refine brE_mk (fun ha => ?_) (fun ha => ?_)
  · rw [Bool.not_eq_true'] at ha
    exact ⟨by rw [chainS, if_neg (fun hh => by have := hh.2.1; rw [ha] at this; cases this)], M3.ext⟩
  rw [Bool.not_eq_false'] at ha
  refine ⟨[.int .i64 N, .slice A xs.length c], rfl, M3.rd 0 rfl, ?_⟩
  refine (refIn_spec N A xs.length c b w3).mono ?_
  rintro v w4 ⟨rfl, e4⟩
  have M4 := M3.grow e4
  refine brE_mk (fun hb => ?_) (fun hb => ?_)
  · rw [Bool.not_eq_true'] at hb
    exact ⟨by rw [chainS, if_neg (fun hh => by have := hh.2.1; rw [ha, hb] at this; cases this)], M4.ext⟩
  rw [Bool.not_eq_false'] at hb
  obtain ⟨p, rfl, hp⟩ := inR_nat ha
  obtain ⟨q, rfl, hq⟩ := inR_nat hb
  have hlo := hok.lo
  have hhi := hok.hi
  obtain ⟨n, rfl⟩ := Int.eq_ofNat_of_zero_le hlo
  have hn : n ≤ 24 := by omega
  have hp24 : p < 24 := by omega
  have hq24 : q < 24 := by omega
  have hT : Inside n (toM xs) := hok.inside
  refine ⟨[.int .i64 n, .slice A xs.length c], rfl, M4.rd 0 rfl, ?_⟩
  refine (steps_spec (h.ext M4.ext) hok).mono ?_
  rintro v w5 ⟨rfl, e5⟩
  have M5 := M4.grow e5
  intro g8 w6 h6
  have M6 := M5.alloc h6
  refine ⟨mat_size _, _, _, M6.get 0 rfl, Nat.le_of_ble_eq_true rfl, bools_one 576 _, ?_⟩
  intro w7 h7
  have h7 : Put w6 g8 (.cells (mat (toM xs)).toArray 93 (0, 0)) w7 := by
    have := mat_copy (toM xs) fun _ _ => false
    rw [← mat_zero] at this
    rw [← this]; exact h7
  have M7 := M6.put 0 rfl h7
  refine ⟨[.int .i64 n, .slice A xs.length c], rfl, M7.rd 1 rfl, ?_⟩
  refine (far_spec (h.ext M7.ext) hok (b := q) (by omega)).mono ?_
  rintro v w8 ⟨rfl, e8⟩
  have M8 := M7.grow e8
  intro g9 w9 h9
  have M9 := M8.alloc h9
  refine ⟨nats_size _, _, _, M9.get 0 rfl, Nat.le_of_ble_eq_true rfl, nats_one _, ?_⟩
  intro w10 h10
  have h10 : Put w9 g9 (.cells (nats (dist (toM xs) q)).toArray 80 (0, 0)) w10 := by
    have := nats_copy (dist (toM xs) q) fun _ => 0
    rw [← nats_zero] at this
    rw [← this]; exact h10
  have M10 := M9.put 0 rfl h10
  refine ⟨p, rfl, hp24, ?_⟩
  refine ⟨_, nats_cell (M10.get 0 rfl) hp24, ?_⟩
  refine brE_dec (fun h0 => ?_) (fun h0 => ?_)
  · have h0 : dist (toM xs) q p = 0 := by have : ((dist (toM xs) q p : Nat) : Int) = 0 := h0; omega
    refine ⟨?_, M10.ext⟩
    rw [chainS, if_neg]
    rintro ⟨_, _, hr⟩
    exact dist_zero.1 h0 (reach_iff.1 hr)
  have h0 : dist (toM xs) q p ≠ 0 := by have : ¬ ((dist (toM xs) q p : Nat) : Int) = 0 := h0; omega
  have hch : chainS n xs p q = some (chainL (toM xs) p q) := by
    rw [chainS, if_pos]
    · rfl
    · refine ⟨hv, by rw [ha, hb]; rfl, ?_⟩
      show reach (toM xs) p q = true
      cases hr : reach (toM xs) p q with
      | true => rfl
      | false => exact absurd (dist_zero.2 (reach_false.1 hr)) h0
  rw [hch]
  clear hch
  generalize toM xs = T at *
  have hle := dist_le hT q
  obtain ⟨k0, hk0⟩ : ∃ k, dist T q p = k + 1 := ⟨dist T q p - 1, by omega⟩
  intro go w11 h11
  have M11 := M10.alloc h11
  refine ⟨p, rfl, hp24, ?_⟩
  refine ⟨_, nats_cell (M11.get 1 rfl) hp24, ?_⟩
  rw [hk0]
  have hN11 : NewInts w w11 (.slice (some ⟨go, 0, none⟩) 1 1) [(p : Int)] := owns_block (M11.get 0 rfl) (M11.new 0 rfl) rfl (Nat.le_of_ble_eq_true rfl)
  refine loopE C_ok (fun (s : List Int × Nat × Nat × Value) => [(2, .int .i64 q), (3, .pointer (some ⟨g3, 0, none⟩)), (8, .pointer (some ⟨g8, 0, none⟩)), (9, .pointer (some ⟨g9, 0, none⟩)), (10, s.2.2.2), (11, .int .i64 s.2.1), (12, .int .i64 (s.2.2.1 + 1 : Nat))])
    (fun s w' => s.2.1 < 24 ∧ dist T q s.2.1 = s.2.2.1 + 1 ∧ chainL T p q = (s.1 ++ [(s.2.1 : Int)]) ++ (follow T (dist T q) s.2.1 s.2.2.1 ++ [(q : Int)]) ∧ s.1.length + s.2.2.1 ≤ 26 ∧
      NewInts w w' s.2.2.2 (s.1 ++ [(s.2.1 : Int)]) ∧ Ext w w' ∧ w'.heap[g8]? = some (.cells (mat T).toArray 93 (0, 0)) ∧ w'.heap[g9]? = some (.cells (nats (dist T q)).toArray 80 (0, 0)) ∧ w'.heap[g3]? = some (.cells #[.int .i64 n, .slice A xs.length c] 24 (0, 0)))
    (fun s => s.2.2.1) ([], p, k0, .slice (some ⟨go, 0, none⟩) 1 1) ⟨rfl, rfl, rfl, rfl, rfl, rfl, rfl, trivial⟩
    ⟨hp24, hk0, by rw [chainL, hk0]; rfl, by have := hle p; show 0 + k0 ≤ 26; omega, hN11, M11.ext, M11.get 2 rfl, M11.get 1 rfl, M11.get 3 rfl⟩ ?_
  rintro ⟨pre, x, k, v⟩ w12 ⟨hx, hdx, hcl, hlen, hnew, hE, hm, hd9, hr3⟩
  have hx : x < 24 := hx
  have hdx : dist T q x = k + 1 := hdx
  have hlen : pre.length + k ≤ 26 := hlen
  have hnew : NewInts w w12 v (pre ++ [(x : Int)]) := hnew
  have hpl : (pre ++ [(x : Int)]).length = pre.length + 1 := by simp
  have hcl : chainL T p q = (pre ++ [(x : Int)]) ++ (follow T (dist T q) x k ++ [(q : Int)]) := hcl
  refine brE_dec (fun hk => ?_) (fun hk => ?_)
  · obtain ⟨k, rfl⟩ : ∃ m, k = m + 1 := ⟨k - 1, by have : ((k + 1 : Nat) : Int) > 1 := hk; omega⟩
    have hxn : x < n := dist_lt hT (b := q) (by omega)
    obtain ⟨_, y0, hty0, hy0⟩ := (dist_next (by omega : 2 ≤ k + 1 + 1)).1 hdx
    refine loopE C_ok (fun (s : Nat × Int) => [(2, .int .i64 q), (3, .pointer (some ⟨g3, 0, none⟩)), (8, .pointer (some ⟨g8, 0, none⟩)), (9, .pointer (some ⟨g9, 0, none⟩)), (10, v), (11, .int .i64 x), (12, .int .i64 (k + 1 + 1 : Nat)), (13, .int .i64 s.2), (14, .int .i64 s.1)])
      (fun s w' => w' = w12 ∧ s.1 ≤ n ∧ FirstTo T (dist T q) x (k + 1) s.1 s.2) (fun s => n - s.1) (0, -1) ⟨rfl, rfl, rfl, rfl, rfl, rfl, rfl, rfl, rfl, trivial⟩
      ⟨rfl, Nat.zero_le _, .inl ⟨rfl, fun z hz => absurd hz (Nat.not_lt_zero _)⟩⟩ ?_
    rintro ⟨i, r⟩ w13 ⟨rfl, hi, hfst⟩
    have hi : i ≤ n := hi
    have hfst : FirstTo T (dist T q) x (k + 1) i r := hfst
    refine ⟨_, cell_of_block hr3 rfl, ?_⟩
    refine brE_dec (fun hlt => ?_) (fun hge => ?_)
    · have hlt : i < n := by have : (i : Int) < n := hlt; omega
      have hi24 : i < 24 := by omega
      have next : IntKind.i64.wrap ((i : Int) + 1) = ((i + 1 : Nat) : Int) := fit ⟨by omega, by omega⟩
      have stay : (¬ r < 0 ∨ ¬ (T x i = true ∧ dist T q i = k + 1)) → w13 = w13 ∧ i + 1 ≤ n ∧ FirstTo T (dist T q) x (k + 1) (i + 1) r := fun hh => ⟨rfl, hlt, hfst.stay hh⟩
      refine brE_dec (fun hr0 => ?_) (fun hr0 => ?_)
      · have hr0 : r < 0 := hr0
        refine ⟨x, rfl, hx, ?_⟩
        refine ⟨i, rfl, hi24, ?_⟩
        refine ⟨_, mat_cell hm hx hi24, ?_⟩
        refine brE_mk (fun ht => ?_) (fun ht => ?_)
        · refine ⟨i, rfl, hi24, ?_⟩
          refine ⟨_, nats_cell hd9 hi24, ?_⟩
          refine ⟨((k + 1 : Nat) : Int), by rw [fit ⟨by omega, by omega⟩]; omega, ?_⟩
          refine brE_dec (fun hd => ?_) (fun hd => ?_)
          · have hd : dist T q i = k + 1 := by have : ((dist T q i : Nat) : Int) = ((k + 1 : Nat) : Int) := hd; omega
            refine ⟨_, next, ?_⟩
            exact ⟨(i + 1, (i : Int)), ⟨rfl, rfl, rfl, rfl, rfl, rfl, rfl, rfl, rfl, trivial⟩, ⟨rfl, hlt, hfst.found hr0 ht hd⟩, by show n - (i + 1) < n - i; omega⟩
          · have hd : ¬ dist T q i = k + 1 := by have : ¬ ((dist T q i : Nat) : Int) = ((k + 1 : Nat) : Int) := hd; omega
            refine ⟨_, next, ?_⟩
            exact ⟨(i + 1, r), ⟨rfl, rfl, rfl, rfl, rfl, rfl, rfl, rfl, rfl, trivial⟩, stay (.inr fun hh => hd hh.2), by show n - (i + 1) < n - i; omega⟩
        · refine ⟨_, next, ?_⟩
          exact ⟨(i + 1, r), ⟨rfl, rfl, rfl, rfl, rfl, rfl, rfl, rfl, rfl, trivial⟩, stay (.inr fun hh => by rw [hh.1] at ht; cases ht), by show n - (i + 1) < n - i; omega⟩
      · refine ⟨_, next, ?_⟩
        exact ⟨(i + 1, r), ⟨rfl, rfl, rfl, rfl, rfl, rfl, rfl, rfl, rfl, trivial⟩, stay (.inl hr0), by show n - (i + 1) < n - i; omega⟩
    · have : i = n := by have : ¬ (i : Int) < n := hge; omega
      subst this
      have hy : ∃ y : Nat, r = (y : Int) ∧ y < i ∧ T x y = true ∧ dist T q y = k + 1 ∧ ∀ z < y, ¬ (T x z = true ∧ dist T q z = k + 1) := by
        rcases hfst with ⟨_, hh⟩ | hh
        · exact absurd ⟨hty0, hy0⟩ (hh y0 (hT _ _ hty0).2)
        · exact hh
      obtain ⟨y, rfl, hyn, hty, hdy, hmin⟩ := hy
      have hfol : follow T (dist T q) x (k + 1) = (y : Int) :: follow T (dist T q) y k := follow_next (by omega) hty hdy hmin
      intro g14 w14 h14
      have ho14 : w14.ownsRow w.heap.size 3 1 v (pre ++ [(x : Int)]).length (ints (pre ++ [(x : Int)])) := ownsRow_ext hnew h14.ext
      obtain ⟨A2, c2, rfl, _, _⟩ := reads_of_owns ho14
      have hE14 := hE.trans h14.ext
      refine ⟨rfl, rfl, rfl, w.heap.size, (pre ++ [(x : Int)]).length, ints (pre ++ [(x : Int)]), [.int .i64 y], ho14, hE14.size, Nat.lt_add_one 0, rfl, rfl, .inr ⟨g14, 0, rfl, Rd.of_block h14.here⟩, rfl, rfl, by omega, by simp only [maxLen]; omega, ?_⟩
      intro v15 w15 ho15 hg15 _
      have o15 := only_app ho14 hg15
      refine ⟨((k + 1 : Nat) : Int), by rw [fit ⟨by omega, by omega⟩]; omega, ?_⟩
      refine ⟨(pre ++ [(x : Int)], y, k, v15), ⟨rfl, rfl, rfl, rfl, rfl, rfl, rfl, trivial⟩, ⟨by show y < 24; omega, hdy, ?_, ?_, ?_, app_ext hE14 ho14 hg15, o15 _ _ _ _ (h14.ext.heap hm) (by decide), o15 _ _ _ _ (h14.ext.heap hd9) (by decide), o15 _ _ _ _ (h14.ext.heap hr3) (by decide)⟩, ?_⟩
      · show chainL T p q = _
        rw [hcl]
        show (pre ++ [(x : Int)]) ++ (follow T (dist T q) x (k + 1) ++ [(q : Int)]) = _
        rw [hfol]; simp
      · show (pre ++ [(x : Int)]).length + k ≤ 26
        omega
      · show w15.ownsRow _ _ _ _ _ _
        rw [List.length_append, ints_append]
        exact ho15
      · show k < k + 1
        omega
  · have hk0 : k = 0 := by have : ¬ ((k + 1 : Nat) : Int) > 1 := hk; omega
    subst hk0
    intro g13 w13 h13
    have ho13 : w13.ownsRow w.heap.size 3 1 v (pre ++ [(x : Int)]).length (ints (pre ++ [(x : Int)])) := ownsRow_ext hnew h13.ext
    obtain ⟨A2, c2, rfl, _, _⟩ := reads_of_owns ho13
    have hE13 := hE.trans h13.ext
    refine ⟨rfl, rfl, rfl, w.heap.size, (pre ++ [(x : Int)]).length, ints (pre ++ [(x : Int)]), [.int .i64 q], ho13, hE13.size, Nat.lt_add_one 0, rfl, rfl, .inr ⟨g13, 0, rfl, Rd.of_block h13.here⟩, rfl, rfl, by omega, by simp only [maxLen]; omega, ?_⟩
    intro v14 w14 ho14 hg14 _
    refine ⟨⟨v14, rfl, ?_⟩, app_ext hE13 ho13 hg14⟩
    show w14.ownsRow _ _ _ _ _ _
    rw [hcl, follow, List.nil_append, List.length_append, ints_append]
    exact ho14

end Go.Proofs.Ytdfhfehlmonjjaa

namespace Go.Proofs.Ytdfhfehlmonjjaa
open Go.Eng Go.RowKit

theorem ltA_iff {a b : Arrow} : ltA a b = true ↔ (a.fr < b.fr ∨ a.fr = b.fr ∧ a.to < b.to) := by simp [ltA]
theorem ltA_trans {a b c : Arrow} (h : ltA a b = true) (k : ltA b c = true) : ltA a c = true := by rw [ltA_iff] at *; omega

theorem Valid.next_lt {N : Int} {xs : List Arrow} (h : Valid N xs) {i : Nat} (hi : i + 1 < xs.length) : ltA xs[i] xs[i + 1] = true := by
  have := h.at_ hi
  unfold okAt at this
  have h2 : i < xs.length := by omega
  simp [hi, h2] at this
  exact this.2

theorem Valid.lt {N : Int} {xs : List Arrow} (h : Valid N xs) {i : Nat} : ∀ {j : Nat} (hij : i < j) (hj : j < xs.length), ltA xs[i] xs[j] = true
  | 0, hij, _ => absurd hij (Nat.not_lt_zero _)
  | j + 1, hij, hj => by
    have hn := h.next_lt hj
    by_cases e : i = j
    · subst e; exact hn
    · exact ltA_trans (h.lt (by omega) (by omega)) hn

theorem cmpA_lt (a b : Arrow) : cmpA a b < 0 ↔ ltA a b = true := by
  have := cmpA_neg a b
  cases h : ltA a b with
  | true => simp [h] at this; simp; omega
  | false => simp [h] at this; simp; omega

theorem cmpA_eq (a b : Arrow) : cmpA a b = 0 ↔ a.fr = b.fr ∧ a.to = b.to := by
  simp only [cmpA, orI, cmpI]
  rcases Int.lt_trichotomy a.fr b.fr with h | h | h <;> rcases Int.lt_trichotomy a.to b.to with k | k | k <;> simp [h, k] <;> omega

def findA (xs : List Arrow) (a b : Int) : Option Arrow := xs.find? fun x => decide (x.fr = a ∧ x.to = b)

structure Hit (xs : List Arrow) (t : Arrow) (i : Nat) (f : Bool) : Prop where
  le : i ≤ xs.length
  yes : f = true → ∃ h : i < xs.length, xs[i].fr = t.fr ∧ xs[i].to = t.to
  no : f = false → ∀ j (h : j < xs.length), ¬ (xs[j].fr = t.fr ∧ xs[j].to = t.to)

theorem Search_spec {N : Int} {A : Option Addr} {xs : List Arrow} {c : Nat} {w : World} (hr : Reads w A (arrows xs)) (hok : Valid N xs) (hl : xs.length ≤ 4611686018427387904) (t : Arrow) :
    CallsV C.P 68 #[.slice A xs.length c, t.val, .func (.func 56) #[] #[]] w fun v w' => (∃ (i : Nat) (f : Bool), v = .tuple #[.int .i64 i, .bool f] ∧ Hit xs t i f) ∧ Ext w w' := by
  refine callsV_of C_ok (args := [_, _, _]) (plans := plans68) Try.func68 rfl Try.ntmps68 (by kernel_rfl) (Nat.le_of_ble_eq_true rfl) ?_
  intro g4 w1 h1
  have M1 := (Mem.start w).alloc h1
  have neg_le : ∀ {j k : Nat} (hj : j < xs.length) (hk : k < xs.length), j ≤ k → cmpA xs[k] t < 0 → cmpA xs[j] t < 0 := fun {j k} hj hk hjk hn => by
    rw [cmpA_lt] at *
    by_cases e : j = k
    · subst e; exact hn
    · exact ltA_trans (hok.lt (by omega) hk) hn
  refine loopE C_ok (fun (s : Nat × Nat) => [(0, .slice A xs.length c), (2, .func (.func 56) #[] #[]), (4, .pointer (some ⟨g4, 0, none⟩)), (8, .int .i64 xs.length), (9, .int .i64 s.1), (10, .int .i64 s.2)])
    (fun s w' => Mem w w' [(g4, .cells t.cells.toArray 43 (0, 0))] ∧ s.1 ≤ s.2 ∧ s.2 ≤ xs.length ∧ (∀ j (h : j < xs.length), j < s.1 → cmpA xs[j] t < 0) ∧ ∀ j (h : j < xs.length), s.2 ≤ j → ¬ cmpA xs[j] t < 0) (fun s => s.2 - s.1) (0, xs.length)
    ⟨rfl, rfl, rfl, rfl, rfl, rfl, trivial⟩ ⟨M1, Nat.zero_le _, Nat.le_refl _, fun j _ hj => absurd hj (Nat.not_lt_zero _), fun j h1 h2 => absurd h1 (Nat.not_lt.2 h2)⟩ ?_
  rintro ⟨i, j⟩ w2 ⟨M2, hij, hj, hlo, hhi⟩
  have hij : i ≤ j := hij
  have hj : j ≤ xs.length := hj
  refine brE_dec (fun hlt => ?_) (fun hge => ?_)
  · have hlt : i < j := by have : (i : Int) < j := hlt; omega
    have hm : (i + j) / 2 < xs.length := by omega
    have hm1 : i ≤ (i + j) / 2 := by omega
    have hm2 : (i + j) / 2 < j := by omega
    refine ⟨((i + j : Nat) : Int), by rw [fit ⟨by omega, by omega⟩]; omega, ?_⟩
    refine ⟨((i + j : Nat) : Int), IntWalk.u64_in _ ⟨by omega, by omega⟩, ?_⟩
    refine ⟨.int .u64 (((i + j) / 2 : Nat) : Int), fun w => ?_, ⟨by decide, by decide⟩, ?_⟩
    · rw [binOp_shr, shift_shr_u64 _ _ _ (by decide) (by decide)]
      simp
    refine ⟨(((i + j) / 2 : Nat) : Int), fit ⟨by omega, by omega⟩, ?_⟩
    generalize (i + j) / 2 = m at *
    obtain ⟨b, o, hA, hc⟩ := Reads.arrow hr hm
    refine ⟨m, b, o, rfl, hm, hA, ?_⟩
    refine ⟨xs[m].cells, rfl, M2.oldRd hc, ?_⟩
    refine ⟨t.cells, rfl, M2.rd 0 rfl, ?_⟩
    refine (compareArrows_spec xs[m] t _).mono ?_
    rintro v w3 ⟨rfl, e3⟩
    have M3 := M2.grow e3
    refine brE_dec (fun hn => ?_) (fun hn => ?_)
    · have hn : cmpA xs[m] t < 0 := hn
      refine ⟨((m + 1 : Nat) : Int), fit ⟨by omega, by omega⟩, ?_⟩
      exact ⟨(m + 1, j), ⟨rfl, rfl, rfl, rfl, rfl, rfl, trivial⟩, ⟨M3, hm2, hj, fun k hk hkm => neg_le hk hm (by have : k < m + 1 := hkm; omega) hn, hhi⟩, by show j - (m + 1) < j - i; omega⟩
    · have hn : ¬ cmpA xs[m] t < 0 := hn
      exact ⟨(i, m), ⟨rfl, rfl, rfl, rfl, rfl, rfl, trivial⟩, ⟨M3, hm1, by show m ≤ xs.length; omega, hlo, fun k hk hkm hk0 => hn (neg_le hm hk hkm hk0)⟩, by show m - i < j - i; omega⟩
  · have : i = j := by have : ¬ (i : Int) < j := hge; omega
    subst this
    have miss : (∀ h : i < xs.length, ¬ cmpA xs[i] t = 0) → Hit xs t i false := fun h0 => ⟨hj, (fun e => by cases e), fun _ k hk he => by
      have hc := (cmpA_eq xs[k] t).2 he
      rcases Nat.lt_trichotomy k i with h1 | h1 | h1
      · have := hlo k hk h1; omega
      · subst h1; exact h0 hk hc
      · have hik : i < xs.length := by omega
        have h2 := hhi i hik (Nat.le_refl _)
        have h3 := h0 hik
        have h4 : cmpA xs[i] t > 0 := by omega
        have h5 := hok.lt h1 hk
        rw [ltA_iff] at h5
        have h6 : ¬ ltA xs[i] t = true := fun hh => h2 ((cmpA_lt _ _).2 hh)
        rw [ltA_iff] at h6
        have h7 : ¬ (xs[i].fr = t.fr ∧ xs[i].to = t.to) := fun hh => h3 ((cmpA_eq _ _).2 hh)
        omega⟩
    refine brE_dec (fun hlt => ?_) (fun hge => ?_)
    · have hlt : i < xs.length := by have : (i : Int) < (xs.length : Nat) := hlt; omega
      obtain ⟨b, o, hA, hc⟩ := Reads.arrow hr hlt
      refine ⟨i, b, o, rfl, hlt, hA, ?_⟩
      refine ⟨xs[i].cells, rfl, M2.oldRd hc, ?_⟩
      refine ⟨t.cells, rfl, M2.rd 0 rfl, ?_⟩
      refine (compareArrows_spec xs[i] t _).mono ?_
      rintro v w3 ⟨rfl, e3⟩
      refine ⟨e3, ?_⟩
      refine ⟨⟨i, _, rfl, ?_⟩, (M2.grow e3).ext⟩
      by_cases h0 : cmpA xs[i] t = 0
      · rw [h0]
        exact ⟨hj, fun _ => ⟨hlt, (cmpA_eq _ _).1 h0⟩, (fun e => by cases e)⟩
      · rw [decide_eq_false h0]
        exact miss fun _ => h0
    · refine ⟨⟨i, _, rfl, ?_⟩, M2.ext⟩
      exact miss fun h => absurd h (by have : ¬ (i : Int) < (xs.length : Nat) := hge; omega)

def arrowS (N : Int) (xs : List Arrow) (a b : Int) : Option Arrow := if chk N xs = 0 then findA xs a b else none
def arrowZ : Arrow := ⟨0, 0, 0, 0⟩

theorem findA_of {N : Int} {xs : List Arrow} (hok : Valid N xs) {a b : Int} {i : Nat} (hi : i < xs.length) (h : xs[i].fr = a ∧ xs[i].to = b) : findA xs a b = some xs[i] := by
  unfold findA
  rw [List.find?_eq_some_iff_getElem]
  refine ⟨decide_eq_true h, i, hi, rfl, fun j hj => ?_⟩
  have := hok.lt hj hi
  rw [ltA_iff] at this
  simp only [Bool.not_eq_true', decide_eq_false_iff_not]
  omega
theorem findA_none {xs : List Arrow} {a b : Int} (h : ∀ j (h : j < xs.length), ¬ (xs[j].fr = a ∧ xs[j].to = b)) : findA xs a b = none := by
  unfold findA
  rw [List.find?_eq_none]
  intro x hx
  obtain ⟨j, hj, rfl⟩ := List.getElem_of_mem hx
  simpa using h j hj

def arrowVal (r : Option Arrow) : Value := .tuple #[(r.getD arrowZ).val, .bool r.isSome]

theorem Arrow_spec {N : Int} {A : Option Addr} {xs : List Arrow} {c : Nat} {w : World} (h : HRel w N A xs c) (hl : xs.length ≤ 4611686018427387904) (a b : Int) :
    CallsV C.P 29 #[relVal N A xs.length c, .int .i64 a, .int .i64 b] w fun v w' => v = arrowVal (arrowS N xs a b) ∧ Ext w w' := by
  refine callsV_of C_ok (args := [_, _, _]) (plans := []) Try.func29 rfl Try.ntmps29 (by kernel_rfl) (Nat.le_of_ble_eq_true rfl) ?_
  intro g3 w1 h1
  intro g6 w2 h2
  have M2 := ((Mem.start w).alloc h1).alloc h2
  refine ⟨[.int .i64 N, .slice A xs.length c], rfl, M2.rd 1 rfl, ?_⟩
  refine (Check_spec (h.ext M2.ext)).mono ?_
  rintro v w3 ⟨rfl, e3⟩
  have M3 := M2.grow e3
  refine brE_mk (fun hb => ?_) (fun hb => ?_)
  · have hv : chk N xs ≠ 0 := by simpa using hb
    refine ⟨rfl, _, _, M3.get 0 rfl, Nat.le_of_ble_eq_true rfl, rfl, ?_⟩
    intro w4 h4
    have M4 := M3.put 0 rfl h4
    refine ⟨_, rfl, M4.rd 0 rfl, ?_⟩
    exact ⟨by rw [arrowS, if_neg hv]; rfl, M4.ext⟩
  have hv : chk N xs = 0 := by simpa using hb
  have hok := valid_of_chk hv
  refine ⟨_, M3.cell 1 rfl rfl, ?_⟩
  refine (Search_spec (h.reads.ext M3.ext) hok hl ⟨a, b, 0, 0⟩).mono ?_
  rintro v w4 ⟨⟨i, f, rfl, hit⟩, e4⟩
  have M4 := M3.grow e4
  refine brE_mk (fun hf => ?_) (fun hf => ?_)
  · rw [Bool.not_eq_true'] at hf
    refine ⟨rfl, _, _, M4.get 0 rfl, Nat.le_of_ble_eq_true rfl, rfl, ?_⟩
    intro w5 h5
    have M5 := M4.put 0 rfl h5
    refine ⟨_, rfl, M5.rd 0 rfl, ?_⟩
    exact ⟨by rw [arrowS, if_pos hv, findA_none (hit.no hf)]; rfl, M5.ext⟩
  · rw [Bool.not_eq_false'] at hf
    obtain ⟨hi, hh⟩ := hit.yes hf
    obtain ⟨bb, o, hA, hc⟩ := Reads.arrow h.reads hi
    refine ⟨_, M4.cell 1 rfl rfl, ?_⟩
    refine ⟨i, bb, o, rfl, hi, hA, ?_⟩
    refine ⟨xs[i].cells, rfl, M4.oldRd hc, ?_⟩
    refine ⟨rfl, _, _, M4.get 0 rfl, Nat.le_of_ble_eq_true rfl, rfl, ?_⟩
    intro w5 h5
    have M5 := M4.put 0 rfl h5
    refine ⟨xs[i].cells, rfl, M5.rd 0 rfl, ?_⟩
    exact ⟨by rw [arrowS, if_pos hv, findA_of hok hi hh]; rfl, M5.ext⟩

theorem refArrow_spec {N : Int} {A : Option Addr} {xs : List Arrow} {c : Nat} {w : World} (h : HRel w N A xs c) (a b : Int) :
    CallsV C.P 30 #[relVal N A xs.length c, .int .i64 a, .int .i64 b] w fun v w' => v = arrowVal (arrowS N xs a b) ∧ Ext w w' := by
  have hcap := h.cap
  refine callsV_of C_ok (args := [_, _, _]) (plans := []) Try.func30 rfl Try.ntmps30 (by kernel_rfl) (Nat.le_of_ble_eq_true rfl) ?_
  intro g3 w1 h1
  intro g6 w2 h2
  have M2 := ((Mem.start w).alloc h1).alloc h2
  refine ⟨[.int .i64 N, .slice A xs.length c], rfl, M2.rd 1 rfl, ?_⟩
  refine (refCheck_spec (h.ext M2.ext)).mono ?_
  rintro v w3 ⟨rfl, e3⟩
  have M3 := M2.grow e3
  refine brE_mk (fun hb => ?_) (fun hb => ?_)
  · have hv : chk N xs ≠ 0 := by simpa using hb
    refine ⟨rfl, _, _, M3.get 0 rfl, Nat.le_of_ble_eq_true rfl, rfl, ?_⟩
    intro w4 h4
    have M4 := M3.put 0 rfl h4
    refine ⟨_, rfl, M4.rd 0 rfl, ?_⟩
    exact ⟨by rw [arrowS, if_neg hv]; rfl, M4.ext⟩
  have hv : chk N xs = 0 := by simpa using hb
  have hok := valid_of_chk hv
  refine loopE C_ok (fun (i : Nat) => [(1, .int .i64 a), (2, .int .i64 b), (3, .pointer (some ⟨g3, 0, none⟩)), (6, .pointer (some ⟨g6, 0, none⟩)), (8, .int .i64 i)])
    (fun i w' => w' = w3 ∧ i ≤ xs.length ∧ ∀ j (h : j < xs.length), j < i → ¬ (xs[j].fr = a ∧ xs[j].to = b)) (fun i => xs.length - i) 0 ⟨rfl, rfl, rfl, rfl, rfl, trivial⟩
    ⟨rfl, Nat.zero_le _, fun j _ hj => absurd hj (Nat.not_lt_zero _)⟩ ?_
  rintro i w4 ⟨rfl, hi, hall⟩
  refine ⟨_, M3.cell 1 rfl rfl, ?_⟩
  refine brE_dec (fun hlt => ?_) (fun hge => ?_)
  · have hlt : i < xs.length := by have : (i : Int) < (xs.length : Nat) := hlt; omega
    obtain ⟨bb, o, hA, hc⟩ := Reads.arrow h.reads hlt
    have hc := M3.oldRd hc
    have next : IntKind.i64.wrap ((i : Int) + 1) = ((i + 1 : Nat) : Int) := fit ⟨by omega, by omega⟩
    have go : ¬ (xs[i].fr = a ∧ xs[i].to = b) → ∀ j (h : j < xs.length), j < i + 1 → ¬ (xs[j].fr = a ∧ xs[j].to = b) := fun hn j hj hji => by
      rcases Nat.lt_or_ge j i with h | h
      · exact hall j hj h
      · obtain rfl : j = i := by omega
        exact hn
    refine ⟨_, M3.cell 1 rfl rfl, ?_⟩
    refine ⟨i, bb, o, rfl, hlt, hA, ?_⟩
    refine ⟨.int .i64 xs[i].fr, hc 0 _ rfl, ?_⟩
    refine brE_dec (fun ha => ?_) (fun ha => ?_)
    · have ha : xs[i].fr = a := ha
      refine ⟨_, M3.cell 1 rfl rfl, ?_⟩
      refine ⟨i, bb, o, rfl, hlt, hA, ?_⟩
      refine ⟨.int .i64 xs[i].to, hc 1 _ rfl, ?_⟩
      refine brE_dec (fun hb => ?_) (fun hb => ?_)
      · have hb : xs[i].to = b := hb
        refine ⟨_, M3.cell 1 rfl rfl, ?_⟩
        refine ⟨i, bb, o, rfl, hlt, hA, ?_⟩
        refine ⟨xs[i].cells, rfl, hc, ?_⟩
        refine ⟨rfl, _, _, M3.get 0 rfl, Nat.le_of_ble_eq_true rfl, rfl, ?_⟩
        intro w5 h5
        have M5 := M3.put 0 rfl h5
        refine ⟨xs[i].cells, rfl, M5.rd 0 rfl, ?_⟩
        exact ⟨by rw [arrowS, if_pos hv, findA_of hok hlt ⟨ha, hb⟩]; rfl, M5.ext⟩
      · refine ⟨_, next, ?_⟩
        exact ⟨i + 1, ⟨rfl, rfl, rfl, rfl, rfl, trivial⟩, ⟨rfl, hlt, go fun hh => hb hh.2⟩, by omega⟩
    · refine ⟨_, next, ?_⟩
      exact ⟨i + 1, ⟨rfl, rfl, rfl, rfl, rfl, trivial⟩, ⟨rfl, hlt, go fun hh => ha hh.1⟩, by omega⟩
  · have : i = xs.length := by have : ¬ (i : Int) < (xs.length : Nat) := hge; omega
    subst this
    refine ⟨rfl, _, _, M3.get 0 rfl, Nat.le_of_ble_eq_true rfl, rfl, ?_⟩
    intro w5 h5
    have M5 := M3.put 0 rfl h5
    refine ⟨_, rfl, M5.rd 0 rfl, ?_⟩
    exact ⟨by rw [arrowS, if_pos hv, findA_none fun j hj => hall j hj hj]; rfl, M5.ext⟩

/-! ### Arrows compared -/
theorem u43 : Try.prog.underlying 43 = some (.struct #[⟨ "From", 3, 0, false, "", "", 0⟩, ⟨ "To", 3, 1, false, "", "", 8⟩, ⟨ "Rule", 3, 2, false, "", "", 16⟩, ⟨ "Weight", 3, 3, false, "", "", 24⟩]) := by kernel_rfl

theorem eqIn43 (p q : Arrow) (w : World) : (Op.equalIn 10000 43 p.val q.val).run C.P w = .ok (decide (p = q)) w := by
  have hs : C.P.stoodInHeld 43 = false := by kernel_rfl
  have hf : Try.prog.fieldsOf 43 = #[⟨ "From", 3, 0, false, "", "", 0⟩, ⟨ "To", 3, 1, false, "", "", 8⟩, ⟨ "Rule", 3, 2, false, "", "", 16⟩, ⟨ "Weight", 3, 3, false, "", "", 24⟩] := by kernel_rfl
  have hu : C.P.underlying 43 = some (.struct (C.P.fieldsOf 43)) := by show Try.prog.underlying 43 = some (.struct (Try.prog.fieldsOf 43)); rw [hf]; exact u43
  have h3 : C.P.underlying 3 = some (.int .i64) := under3
  have hp : ∀ (i : Nat) (cs : Array Value) (v : Value), cs[i]? = some v → (part 3 cs i).run C.P w = .ok v w := by
    intro i cs v hv
    have := (C_ok.ti (t := 3) (ti := ty3) rfl).run_agg
    simp [part, this, ty3, TD.agg, hv]
  rw [Arrow.val, Arrow.val, run_equalIn_struct w 9999 43 _ _ hu hs]
  show ((Op.eqFields 9999 _ _ (Try.prog.fieldsOf 43).toList).run C.P w) = _
  rw [hf]
  rw [eqFields_run (f := fun x => if x.offset = 0 then decide (p.fr = q.fr) else if x.offset = 1 then decide (p.to = q.to) else if x.offset = 2 then decide (p.rule = q.rule) else decide (p.wt = q.wt))]
  · obtain ⟨a, b, c, d⟩ := p
    obtain ⟨e, f, g, k⟩ := q
    simp
  · intro f hf
    simp only [List.mem_cons, List.not_mem_nil, or_false] at hf
    rcases hf with rfl | rfl | rfl | rfl
    · exact ⟨by decide, .int .i64 p.fr, .int .i64 q.fr, hp 0 _ _ rfl, hp 0 _ _ rfl, eqInt_run h3 w 9998 .i64 p.fr q.fr⟩
    · exact ⟨by decide, .int .i64 p.to, .int .i64 q.to, hp 1 _ _ rfl, hp 1 _ _ rfl, eqInt_run h3 w 9998 .i64 p.to q.to⟩
    · exact ⟨by decide, .int .i64 p.rule, .int .i64 q.rule, hp 2 _ _ rfl, hp 2 _ _ rfl, eqInt_run h3 w 9998 .i64 p.rule q.rule⟩
    · exact ⟨by decide, .int .i64 p.wt, .int .i64 q.wt, hp 3 _ _ rfl, hp 3 _ _ rfl, eqInt_run h3 w 9998 .i64 p.wt q.wt⟩

theorem neq43 (x y : Operand) (p q : Arrow) : EqIs C.P .neq 43 x y p.val q.val (!decide (p = q)) := by
  intro w
  have hm : C.P.eqGuardType C.P.depth 43 = false := by kernel_rfl
  rw [Sem.run_bind, Arrow.val, Arrow.val, run_eqGuard_agg w .neq 43 x y _ _ hm]
  simp only [Result.andThen_ok]
  rw [run_neq_struct]
  have := eqIn43 p q w
  rw [Arrow.val, Arrow.val] at this
  rw [this]
  rfl

end Go.Proofs.Ytdfhfehlmonjjaa

namespace Go.Proofs.Ytdfhfehlmonjjaa
open Go.Eng Go.RowKit

theorem neqSame4 (x y : Operand) (a : Bool) : EqIs C.P .neq 4 x y (.bool a) (.bool a) false := by
  have := neqBool x y a a
  simpa using this
theorem eqSame4 (x y : Operand) (a : Bool) : EqIs C.P .eql 4 x y (.bool a) (.bool a) true := by
  intro w
  rw [Sem.run_bind]
  have hu : C.P.underlying 4 = some .bool := under4
  have : (eqGuard .eql 4 x y (.bool a) (.bool a)).run C.P w = .ok () w := by simp [eqGuard]
  rw [this]
  simp only [Result.andThen_ok]
  have h2 := run_equalIn_bool' w 9999 4 a a hu
  simp only [binOp]
  simp [Op.equal, Op.maxDepth] at h2 ⊢
  rw [h2]
  simp
theorem neqSame43 (x y : Operand) (p : Arrow) : EqIs C.P .neq 43 x y p.val p.val false := by
  have := neq43 x y p p
  simpa using this

theorem ChainPost.read {w w' : World} {r : Option (List Int)} {v : Value} (h : ChainPost w r v w') : ∃ A c, v = .tuple #[.slice A (r.getD []).length c, .bool r.isSome] ∧ Reads w' A (ints (r.getD [])) ∧ (r.getD []).length ≤ 9223372036854775807 := by
  obtain ⟨h, _⟩ := h
  cases r with
  | none => exact ⟨none, 0, h, .inl rfl, by simp⟩
  | some l =>
    obtain ⟨s, rfl, hn⟩ := h
    have := ownsRow_len hn
    obtain ⟨A, c, rfl, hr, _⟩ := hn.slice
    exact ⟨A, c, rfl, hr, this⟩

theorem RankArrows_spec {N : Int} {A B : Option Addr} {xs : List Arrow} {c d : Nat} {w : World} (h : HRel w N A xs c) (i j : Int) {l : List Int} (hr : Reads w B (ints l)) :
    CallsV C.P 9 #[relVal N A xs.length c, .int .i64 i, .int .i64 j, .slice B l.length d] w fun v w' => v = .bool true ∧ Ext w w' := by
  refine callsV_of C_ok (args := [_, _, _, _]) (plans := plans9) Try.func9 rfl Try.ntmps9 (by kernel_rfl) (Nat.le_of_ble_eq_true rfl) ?_
  intro g1 w1 h1
  have M1 := (Mem.start w).alloc h1
  refine ⟨[.int .i64 N, .slice A xs.length c], rfl, M1.rd 0 rfl, ?_⟩
  refine (huge_spec w1).mono ?_
  rintro v w2 ⟨rfl, e2⟩
  have M2 := M1.grow e2
  have stop : ∀ {w' : World}, Ext w w' → CallsV C.P 16 #[] w' fun v w'' => v = .bool true ∧ Ext w w'' := fun e => (stands_spec _).mono fun v w'' hh => ⟨hh.1, e.trans hh.2⟩
  refine brE_dec (fun _ => ?_) (fun h600 => ?_)
  · exact stop M2.ext
  have hx6 : xs.length ≤ 600 := by have : ¬ (xs.length : Int) > 600 := h600; omega
  refine brE_dec (fun _ => ?_) (fun h60 => ?_)
  · exact stop M2.ext
  have hl : l.length ≤ 60 := by have : ¬ (l.length : Int) > 60 := h60; omega
  refine ⟨[.int .i64 N, .slice A xs.length c], rfl, M2.rd 0 rfl, ?_⟩
  refine (Arrow_spec (h.ext M2.ext) (by omega) i j).mono ?_
  rintro v w3 ⟨rfl, e3⟩
  have M3 := M2.grow e3
  generalize hq : (arrowS N xs i j) = r at *
  intro g4 w4 h4
  have M4 := M3.alloc h4
  refine ⟨rfl, _, _, M4.get 0 rfl, Nat.le_of_ble_eq_true rfl, rfl, ?_⟩
  intro w5 h5
  have M5 : Mem w w5 [(g4, .cells (r.getD arrowZ).cells.toArray 43 (0, 0)), (g1, .cells #[.int .i64 N, .slice A xs.length c] 24 (0, 0))] := M4.put 0 rfl h5
  refine ⟨[.int .i64 N, .slice A xs.length c], rfl, M5.rd 1 rfl, ?_⟩
  refine (refArrow_spec (h.ext M5.ext) i j).mono ?_
  rintro v w6 ⟨rfl, e6⟩
  have M6 := M5.grow e6
  rw [hq]
  intro g7 w7 h7
  have M7 := M6.alloc h7
  refine ⟨rfl, _, _, M7.get 0 rfl, Nat.le_of_ble_eq_true rfl, rfl, ?_⟩
  intro w8 h8
  have M8 : Mem w w8 [(g7, .cells (r.getD arrowZ).cells.toArray 43 (0, 0)), (g4, .cells (r.getD arrowZ).cells.toArray 43 (0, 0)), (g1, .cells #[.int .i64 N, .slice A xs.length c] 24 (0, 0))] := M7.put 0 rfl h8
  refine ⟨[.int .i64 N, .slice A xs.length c], rfl, M8.rd 2 rfl, ?_⟩
  refine (Chain_spec (h.ext M8.ext) i j).mono ?_
  intro v w9 hc9
  obtain ⟨A9, c9, rfl, hr9, hl9⟩ := hc9.read
  have M9 := M8.grow hc9.2
  refine ⟨[.int .i64 N, .slice A xs.length c], rfl, M9.rd 2 rfl, ?_⟩
  refine (refChain_spec (h.ext M9.ext) i j).mono ?_
  intro v w10 hc10
  obtain ⟨A10, c10, rfl, hr10, _⟩ := hc10.read
  have M10 := M9.grow hc10.2
  refine ⟨(r.getD arrowZ).cells, rfl, M10.rd 1 rfl, ?_⟩
  refine ⟨(r.getD arrowZ).cells, rfl, M10.rd 0 rfl, ?_⟩
  refine ⟨false, neqSame43 _ _ _, ?_⟩
  refine ⟨false, neqSame4 _ _ _, ?_⟩
  refine ⟨false, neqSame4 _ _ _, ?_⟩
  refine (SameInts_spec (hr9.ext hc10.2) hr10 hl9).mono ?_
  rintro v w11 ⟨hv, e11⟩
  rw [decide_eq_true rfl] at hv
  subst hv
  have M11 := M10.grow e11
  refine (stands_spec w11).mono ?_
  rintro v w12 ⟨rfl, e12⟩
  have M12 := M11.grow e12
  refine ⟨[.int .i64 N, .slice A xs.length c], rfl, M12.rd 2 rfl, ?_⟩
  refine ⟨[.int .i64 N, .slice A xs.length c], rfl, M12.rd 2 rfl, ?_⟩
  refine (Standing_spec (h.ext M12.ext) i j).mono ?_
  rintro v w13 ⟨rfl, e13⟩
  refine ⟨e13, ?_⟩
  have M13 := M12.grow e13
  refine (refStanding_spec (h.ext M13.ext) i j).mono ?_
  rintro v w14 ⟨rfl, e14⟩
  have M14 := M13.grow e14
  refine brE_true (decide_eq_true rfl) ?_
  refine ⟨[.int .i64 N, .slice A xs.length c], rfl, M14.rd 2 rfl, ?_⟩
  refine ⟨[.int .i64 N, .slice A xs.length c], rfl, M14.rd 2 rfl, ?_⟩
  refine (CheckChain_spec (l := l) (h.ext M14.ext) i j (hr.ext M14.ext) (by omega)).mono ?_
  rintro v w15 ⟨rfl, e15⟩
  refine ⟨e15, ?_⟩
  have M15 := M14.grow e15
  refine (refCheckChain_spec (l := l) (h.ext M15.ext) i j (hr.ext M15.ext) (by omega)).mono ?_
  rintro v w16 ⟨rfl, e16⟩
  have M16 := M15.grow e16
  refine ⟨true, eqSame4 _ _ _, ?_⟩
  refine ⟨[.int .i64 N, .slice A xs.length c], rfl, M16.rd 2 rfl, ?_⟩
  refine ⟨[.int .i64 N, .slice A xs.length c], rfl, M16.rd 2 rfl, ?_⟩
  refine (Before_spec (h.ext M16.ext) i).mono ?_
  rintro v w17 ⟨hn17, e17⟩
  obtain ⟨A17, c17, rfl, hr17, _⟩ := hn17.slice
  refine ⟨e17, ?_⟩
  have M17 := M16.grow e17
  refine (refBefore_spec (h.ext M17.ext) i).mono ?_
  rintro v w18 ⟨hn18, e18⟩
  have hl18 := ownsRow_len hn18
  obtain ⟨A18, c18, rfl, hr18, _⟩ := hn18.slice
  have M18 := M17.grow e18
  refine (SameInts_spec (hr17.ext e18) hr18 hl18).mono ?_
  rintro v w19 ⟨hv, e19⟩
  rw [decide_eq_true rfl] at hv
  subst hv
  exact ⟨rfl, (M18.grow e19).ext⟩

end Go.Proofs.Ytdfhfehlmonjjaa

namespace Go.Proofs.Ytdfhfehlmonjjaa
open Go.Eng Go.RowKit

theorem Circles1_spec (A : Option Addr) (n c : Nat) (w : World) : CallsV C.P 76 #[.slice A n c] w fun v w' => v = .bool (decide (n < 2)) ∧ w' = w := by
  refine callsV_of C_ok (args := [_]) (plans := []) Try.func76 rfl Try.ntmps76 (by kernel_rfl) (Nat.le_of_ble_eq_true rfl) ?_
  refine ⟨?_, rfl⟩
  congr 1
  rw [decide_eq_decide]
  omega

/-- Those that are kept, of the first 'j'. -/
def keepL (L : List (List Int)) (j : Nat) : List (List Int) := (L.take j).filter fun l => !decide (l.length < 2)
def keepU (us : List Value) (L : List (List Int)) (j : Nat) : List Value := (((us.zip L).take j).filter fun p => !decide (p.2.length < 2)).map Prod.fst

theorem keep_succ {us : List Value} {L : List (List Int)} {j : Nat} (hu : us.length = L.length) (hj : j < L.length) :
    keepL L (j + 1) = (if L[j].length < 2 then keepL L j else keepL L j ++ [L[j]]) ∧ keepU us L (j + 1) = (if L[j].length < 2 then keepU us L j else keepU us L j ++ [us[j]'(by omega)]) := by
  have hz : j < (us.zip L).length := by simp; omega
  unfold keepL keepU
  rw [List.take_succ_eq_append_getElem hj, List.take_succ_eq_append_getElem hz, List.filter_append, List.filter_append, List.map_append]
  by_cases h : L[j].length < 2 <;> simp [h]

theorem keepU_length (us : List Value) (L : List (List Int)) (j : Nat) : (keepU us L j).length ≤ j := by
  unfold keepU
  rw [List.length_map]
  exact Nat.le_trans (List.length_filter_le _ _) (by simp; omega)

theorem keep_same {us : List Value} {L : List (List Int)} (hu : us.length = L.length) : ∀ j, (keepU us L j).length = (keepL L j).length := by
  intro j
  induction j with
  | zero => simp [keepU, keepL]
  | succ j ih =>
    by_cases hj : j < L.length
    · have h := keep_succ hu hj
      rw [h.1, h.2]
      split
      · exact ih
      · simp [ih]
    · have e1 : keepL L (j + 1) = keepL L j := by
        unfold keepL; rw [List.take_of_length_le (by omega), List.take_of_length_le (by omega)]
      have e2 : keepU us L (j + 1) = keepU us L j := by
        unfold keepU; rw [List.take_of_length_le (by simp; omega), List.take_of_length_le (by simp; omega)]
      rw [e1, e2]; exact ih

theorem AllRows.keep {w : World} {B : Nat} {us : List Value} {L : List (List Int)} (h : AllRows w B us L) : ∀ j, AllRows w B (keepU us L j) (keepL L j) := by
  intro j
  induction j with
  | zero => exact .nil
  | succ j ih =>
    have hl := h.length
    by_cases hj : j < L.length
    · have hk := keep_succ hl hj
      rw [hk.1, hk.2]
      split
      · exact ih
      · obtain ⟨u, hu, ho⟩ := h.at hj
        have : us[j]'(by omega) = u := by
          have := (List.getElem?_eq_some_iff.1 hu).2
          exact this
        rw [this]
        exact ih.snoc ho
    · have e1 : keepL L (j + 1) = keepL L j := by
        unfold keepL; rw [List.take_of_length_le (by omega), List.take_of_length_le (by omega)]
      have e2 : keepU us L (j + 1) = keepU us L j := by
        unfold keepU; rw [List.take_of_length_le (by simp; omega), List.take_of_length_le (by simp; omega)]
      rw [e1, e2]; exact ih

theorem keepL_all (L : List (List Int)) : keepL L L.length = L.filter fun l => !decide (l.length < 2) := by
  unfold keepL; rw [List.take_length]

theorem Index2_spec {w : World} {A : Option Addr} {c : Nat} {L : List (List Int)} {us : List Value} (hr : RList w A L us) (hl : L.length ≤ 4611686018427387904) :
    CallsV C.P 89 #[.slice A L.length c, .func (.func 76) #[] #[]] w fun v w' => ((v = .int .i64 (-1) ∧ ∀ l ∈ L, ¬ l.length < 2) ∨ ∃ i : Nat, v = .int .i64 (i : Nat) ∧ ∃ h : i < L.length, L[i].length < 2 ∧ ∀ j (hj : j < L.length), j < i → ¬ L[j].length < 2) ∧ w' = w := by
  refine callsV_of C_ok (args := [_, _]) (plans := []) Try.func89 rfl Try.ntmps89 (by kernel_rfl) (Nat.le_of_ble_eq_true rfl) ?_
  refine loopE C_ok (fun (i : Nat) => [(0, .slice A L.length c), (1, .func (.func 76) #[] #[]), (7, .int .i64 L.length), (8, .int .i64 i)])
    (fun i w' => w' = w ∧ i ≤ L.length ∧ ∀ j (hj : j < L.length), j < i → ¬ L[j].length < 2) (fun i => L.length - i) 0 ⟨rfl, rfl, rfl, rfl, trivial⟩
    ⟨rfl, Nat.zero_le _, fun j _ hj => absurd hj (Nat.not_lt_zero _)⟩ ?_
  rintro i w1 ⟨rfl, hi, hall⟩
  refine brE_dec (fun hlt => ?_) (fun hge => ?_)
  · have hlt : i < L.length := by have : (i : Int) < (L.length : Nat) := hlt; omega
    obtain ⟨A', c', hu, _⟩ := hr.row i hlt
    rcases hr.reads with h0 | ⟨b, o, hA, hrd⟩
    · subst h0; simp at hu
    refine ⟨i, b, o, rfl, hlt, hA, ?_⟩
    refine ⟨_, by have := hrd i _ hu; simpa using this, ?_⟩
    refine (Circles1_spec A' L[i].length c' w1).mono ?_
    rintro v w2 ⟨rfl, rfl⟩
    refine brE_dec (fun h2 => ?_) (fun h2 => ?_)
    · exact ⟨.inr ⟨i, rfl, hlt, h2, hall⟩, rfl⟩
    · refine ⟨((i + 1 : Nat) : Int), fit ⟨by omega, by omega⟩, ?_⟩
      refine ⟨i + 1, ⟨rfl, rfl, rfl, rfl, trivial⟩, ⟨rfl, hlt, fun j hj hji => ?_⟩, by omega⟩
      rcases Nat.lt_or_ge j i with h | h
      · exact hall j hj h
      · obtain rfl : j = i := by omega
        exact h2
  · have : i = L.length := by have : ¬ (i : Int) < (L.length : Nat) := hge; omega
    subst this
    refine ⟨.inl ⟨rfl, fun l hl => ?_⟩, rfl⟩
    obtain ⟨j, hj, rfl⟩ := List.getElem_of_mem hl
    exact hall j hj hj

theorem Only.trans {t : Nat} {a b c : World} (h : Only t a b) (k : Only t b c) : Only t a c := fun q cs t' fr hq hne => k q cs t' fr (h q cs t' fr hq hne) hne

theorem put_below {B g : Nat} {o : Obj} {w w' : World} (h : Put w g o w') (hg : B ≤ g) : Below B w w' := below_put (Below.refl _ _) h hg

theorem splice_take_at {cs vs : List Value} {i : Nat} (h : i ≤ cs.length) : (splice cs i vs).take i = cs.take i := by
  unfold splice
  rw [List.append_assoc, List.take_append_of_le_length (by simp; omega), List.take_take, Nat.min_self]

theorem Delete2_spec {B : Nat} {w : World} {v : Value} {L : List (List Int)} (hv : Lists B w v L) (hB : B ≤ w.heap.size) (hl : L.length ≤ 4611686018427387904) :
    CallsV C.P 75 #[v, .func (.func 76) #[] #[]] w fun v' w' => Lists B w' v' (L.filter fun l => !decide (l.length < 2)) ∧ Below B w w' := by
  obtain ⟨us, ho, hrows⟩ := hv
  have hul := hrows.length
  obtain ⟨A, cap, us', rfl, hR⟩ := (show Lists B w v L from ⟨us, ho, hrows⟩).read
  refine callsV_of C_ok (args := [_, _]) (plans := []) Try.func75 rfl Try.ntmps75 (by kernel_rfl) (Nat.le_of_ble_eq_true rfl) ?_
  refine (Index2_spec hR hl).mono ?_
  rintro v w1 ⟨hi | ⟨i0, rfl, hi0, hsm, hfirst⟩, rfl⟩
  · obtain ⟨rfl, hall⟩ := hi
    have e : (L.filter fun l => !decide (l.length < 2)) = L := List.filter_eq_self.2 fun l hl => by simpa using hall l hl
    rw [e]
    exact ⟨⟨us, ho, hrows⟩, Below.refl _ _⟩
  refine ⟨((i0 + 1 : Nat) : Int), fit ⟨by omega, by omega⟩, ?_⟩
  have hA : ∃ g, A = some ⟨g, 0, none⟩ := by
    obtain ⟨_, ⟨hv, h0⟩ | ⟨g, cap', cur, hv, _⟩⟩ := ho
    · simp at hv; omega
    · simp at hv; exact ⟨g, hv.1⟩
  obtain ⟨g, rfl⟩ := hA
  have kp0 : keepL L (i0 + 1) = L.take i0 ∧ keepU us L (i0 + 1) = us.take i0 := by
    have h := keep_succ hul hi0
    rw [if_pos hsm, if_pos hsm] at h
    rw [h.1, h.2]
    have key : ∀ m, m ≤ i0 → keepL L m = L.take m ∧ keepU us L m = us.take m := by
      intro m
      induction m with
      | zero => intro _; simp [keepL, keepU]
      | succ m ih =>
        intro hm
        have h1 := ih (by omega)
        have hmL : m < L.length := by omega
        have h2 := keep_succ hul hmL
        rw [if_neg (hfirst m hmL (by omega)), if_neg (hfirst m hmL (by omega))] at h2
        rw [h2.1, h2.2, h1.1, h1.2, List.take_succ_eq_append_getElem hmL, List.take_succ_eq_append_getElem (by omega : m < us.length)]
        exact ⟨rfl, rfl⟩
    exact key i0 (Nat.le_refl _)
  refine loopE C_ok (fun (s : Nat × Nat × List Value) => [(0, .slice (some ⟨g, 0, none⟩) L.length cap), (1, .func (.func 76) #[] #[]), (5, .int .i64 s.2.1), (6, .int .i64 s.1)])
    (fun s w' => s.2.1 = (keepL L s.1).length ∧ s.2.1 < s.1 ∧ s.1 ≤ L.length ∧ w'.ownsRow B 30 1 (.slice (some ⟨g, 0, none⟩) L.length cap) L.length s.2.2 ∧ s.2.2.take s.2.1 = keepU us L s.1 ∧ (∀ k, s.1 ≤ k → s.2.2[k]? = us[k]?) ∧ Only 30 w1 w' ∧ Below B w1 w')
    (fun s => L.length - s.1) (i0 + 1, i0, us) ⟨rfl, rfl, rfl, rfl, trivial⟩
    ⟨by show i0 = (keepL L (i0 + 1)).length; rw [kp0.1, List.length_take]; omega, Nat.lt_succ_self _, hi0, ho, kp0.2.symm, fun _ _ => rfl, only_ext _ (Ext.refl _), Below.refl _ _⟩ ?_
  rintro ⟨j, i, ds⟩ w2 ⟨hi, hij, hj, ho2, htake, hrest, o2, b2⟩
  have hi : i = (keepL L j).length := hi
  have hij : i < j := hij
  have hj : j ≤ L.length := hj
  have ho2 : w2.ownsRow B 30 1 (.slice (some ⟨g, 0, none⟩) L.length cap) L.length ds := ho2
  have htake : ds.take i = keepU us L j := htake
  have hrest : ∀ k, j ≤ k → ds[k]? = us[k]? := hrest
  obtain ⟨cur, hg, hgB, hcl, hccap, hncap, hdl, hct, hput⟩ := ownsRow_open ho2
  refine brE_dec (fun hlt => ?_) (fun hge => ?_)
  · have hlt : j < L.length := by have : (j : Int) < (L.length : Nat) := hlt; omega
    obtain ⟨u, hu, hou⟩ := hrows.at hlt
    obtain ⟨A', c', rfl, _, _⟩ := reads_of_owns hou
    have hcj : w2.cell? ⟨g, 0 + j * 1, none⟩ = some (.slice A' L[j].length c') := by
      have h1 : ds[j]? = some (.slice A' L[j].length c') := (hrest j (Nat.le_refl _)).trans hu
      rw [← hct] at h1
      rw [List.getElem?_take, if_pos (by omega)] at h1
      have := (Rd.of_block hg) j _ h1
      simpa using this
    have next : IntKind.i64.wrap ((j : Int) + 1) = ((j + 1 : Nat) : Int) := fit ⟨by omega, by omega⟩
    have hk := keep_succ hul hlt
    refine ⟨j, g, 0, rfl, hlt, rfl, ?_⟩
    refine ⟨_, hcj, ?_⟩
    refine (Circles1_spec A' L[j].length c' w2).mono ?_
    rintro v w3 ⟨rfl, rfl⟩
    refine brE_mk (fun h2 => ?_) (fun h2 => ?_)
    · have h2 : ¬ L[j].length < 2 := by simpa using h2
      rw [if_neg h2, if_neg h2] at hk
      refine ⟨i, g, 0, rfl, (by omega : i < L.length), rfl, ?_⟩
      refine ⟨rfl, _, _, hg, by show 0 + i * 1 + 1 ≤ cur.length; omega, rfl, ?_⟩
      intro w4 h4
      have h4 : Put w3 g (.cells (splice cur (0 + i * 1) [.slice A' L[j].length c']).toArray 30 (0, 0)) w4 := h4
      have e0 : 0 + i * 1 = i := by omega
      have ho4 := hput (0 + i * 1) [.slice A' L[j].length c'] w4 (by show 0 + i * 1 + 1 ≤ _; omega) h4
      rw [e0, splice_one (by omega)] at ho4
      refine ⟨((i + 1 : Nat) : Int), fit ⟨by omega, by omega⟩, ?_⟩
      refine ⟨_, next, ?_⟩
      refine ⟨(j + 1, i + 1, ds.set i (.slice A' L[j].length c')), ⟨rfl, rfl, rfl, rfl, trivial⟩, ⟨?_, by show i + 1 < j + 1; omega, hlt, ho4, ?_, ?_, Only.trans o2 (only_put h4 hg), below_put b2 h4 hgB⟩, by show L.length - (j + 1) < L.length - j; omega⟩
      · show i + 1 = (keepL L (j + 1)).length
        rw [hk.1, List.length_append, ← hi]; rfl
      · show (ds.set i (.slice A' L[j].length c')).take (i + 1) = keepU us L (j + 1)
        have hil : i < (ds.set i (.slice A' L[j].length c')).length := by rw [List.length_set]; omega
        rw [hk.2, List.take_succ_eq_append_getElem hil, List.take_set_of_le (Nat.le_refl _), htake]
        congr 1
        simp
        exact ((List.getElem?_eq_some_iff.1 hu).2).symm
      · intro k hk1
        show (ds.set i (.slice A' L[j].length c'))[k]? = us[k]?
        have hk1 : j + 1 ≤ k := hk1
        rw [List.getElem?_set_ne (by omega)]
        exact hrest k (by omega)
    · have h2 : L[j].length < 2 := by simpa using h2
      rw [if_pos h2, if_pos h2] at hk
      refine ⟨_, next, ?_⟩
      exact ⟨(j + 1, i, ds), ⟨rfl, rfl, rfl, rfl, trivial⟩, ⟨by show i = (keepL L (j + 1)).length; rw [hk.1]; exact hi, by show i < j + 1; omega, hlt, ho2, by show ds.take i = keepU us L (j + 1); rw [hk.2]; exact htake, fun k hk1 => hrest k (by have : j + 1 ≤ k := hk1; omega), o2, b2⟩, by show L.length - (j + 1) < L.length - j; omega⟩
  · have : j = L.length := by have : ¬ (j : Int) < (L.length : Nat) := hge; omega
    subst this
    refine ⟨i, L.length, rfl, rfl, by omega, by omega, ?_⟩
    have hA : (if cap = i then (some (⟨g, 0, none⟩ : Addr)) else (some (⟨g, 0, none⟩ : Addr)).map (·.add (i * 1))) = some ⟨g, 0 + i * 1, none⟩ := by
      rw [if_neg (by omega)]
      simp [add_spot]
    refine clearRow (esz := 1) C_ok rfl rfl rfl rfl rfl rfl rfl (by decide) hA (by omega) hg (by omega) ?_
    intro zs w3 hzs h3
    have ho3 := hput (0 + i * 1) zs w3 (by rw [hzs]; omega) h3
    refine ⟨0, i, rfl, rfl, Nat.zero_le _, by omega, ?_⟩
    have e : (if cap = 0 then (some ⟨g, 0, none⟩ : Option Addr) else (some (⟨g, 0, none⟩ : Addr)).map (·.add (0 * 1))) = some ⟨g, 0, none⟩ := by
      split <;> rfl
    have hcut := ownsRow_cut ho3 (k := i) (by omega)
    have e0 : 0 + i * 1 = i := by omega
    rw [e0, Nat.mul_one, splice_take_at (by omega), htake] at hcut
    have hrows3 : AllRows w3 B us L := (hrows.only o2 (by decide)).only (only_put h3 hg) (by decide)
    refine ⟨?_, below_put b2 h3 hgB⟩
    rw [← keepL_all]
    refine ⟨keepU us L L.length, ?_, hrows3.keep _⟩
    show w3.ownsRow B 30 1 (.slice (if cap = 0 then (some ⟨g, 0, none⟩ : Option Addr) else (some (⟨g, 0, none⟩ : Addr)).map (·.add (0 * 1))) i cap) (keepL L L.length).length _
    rw [e, ← hi]
    exact hcut

noncomputable def circlesV (N : Int) (xs : List Arrow) : List (List Int) := (compsV N xs).filter fun l => !decide (l.length < 2)

theorem Circles_spec {N : Int} {A : Option Addr} {xs : List Arrow} {c : Nat} {w : World} (h : HRel w N A xs c) :
    CallsV C.P 39 #[relVal N A xs.length c] w fun v w' => Lists w.heap.size w' v (circlesV N xs) ∧ Ext w w' := by
  refine callsV_of C_ok (args := [_]) (plans := []) Try.func39 rfl Try.ntmps39 (by kernel_rfl) (Nat.le_of_ble_eq_true rfl) ?_
  intro g1 w1 h1
  have M1 := (Mem.start w).alloc h1
  refine ⟨[.int .i64 N, .slice A xs.length c], rfl, M1.rd 0 rfl, ?_⟩
  refine (Components_spec (h.ext M1.ext)).mono ?_
  rintro v w2 ⟨hl, e2⟩
  have M2 := M1.grow e2
  have hpr := (compsV_props (N := N) (xs := xs)).1
  refine (Delete2_spec (hl.base M1.ext.size) M2.ext.size (by omega)).mono ?_
  rintro v' w3 ⟨hl3, b3⟩
  exact ⟨hl3, Below.trans M2.ext b3⟩

end Go.Proofs.Ytdfhfehlmonjjaa

namespace Go.Proofs.Ytdfhfehlmonjjaa
open Go.Eng Go.RowKit

theorem valid_of {N : Int} {xs : List Arrow} (hlo : 0 ≤ N) (hhi : N ≤ 24) (hg : ∀ x ∈ xs, goodA N x = true) (hs : xs.Pairwise fun a b => ltA a b = true) : Valid N xs := by
  refine ⟨hlo, hhi, List.all_eq_true.2 fun i hi => ?_⟩
  have hi : i < xs.length := List.mem_range.1 hi
  have hp := List.pairwise_iff_getElem.1 hs
  unfold okAt
  rw [List.getElem?_eq_getElem hi]
  simp only [hg _ (List.getElem_mem hi), Bool.true_and]
  cases i with
  | zero => rfl
  | succ j =>
    have hj : j < xs.length := by omega
    show (match xs[j]? with | some y => ltA y xs[j + 1] | none => false) = true
    rw [List.getElem?_eq_getElem hj]
    exact hp j (j + 1) hj hi (Nat.lt_succ_self _)

theorem Valid.goodAll {N : Int} {xs : List Arrow} (h : Valid N xs) : ∀ x ∈ xs, goodA N x = true := fun x hx => by
  obtain ⟨i, hi, rfl⟩ := List.getElem_of_mem hx
  exact h.good hi
theorem Valid.sorted {N : Int} {xs : List Arrow} (h : Valid N xs) : xs.Pairwise fun a b => ltA a b = true := List.pairwise_iff_getElem.2 fun _ _ _ hj hij => h.lt hij hj
theorem Valid.filter {N : Int} {xs : List Arrow} (h : Valid N xs) (p : Arrow → Bool) : Valid N (xs.filter p) :=
  valid_of h.lo h.hi (fun x hx => h.goodAll x ((List.mem_filter.1 hx).1)) (h.sorted.filter p)

theorem toM_sub {xs ys : List Arrow} (h : ∀ x ∈ ys, x ∈ xs) {a b : Nat} (hm : toM ys a b = true) : toM xs a b = true := by
  unfold toM at *
  obtain ⟨x, hx, hd⟩ := List.any_eq_true.1 hm
  exact List.any_eq_true.2 ⟨x, h x hx, hd⟩
theorem reach_sub {T S : Nat → Nat → Bool} (h : ∀ a b, T a b = true → S a b = true) {a b : Nat} (hr : reach T a b = true) : reach S a b = true := by
  rw [reach_iff] at *
  induction hr with
  | one h1 => exact .one (h _ _ h1)
  | step _ h1 ih => exact .step ih (h _ _ h1)
theorem reach_up {T : Nat → Nat → Bool} (h : ∀ a b, T a b = true → a < b) {a b : Nat} (hr : reach T a b = true) : a < b := by
  rw [reach_iff] at hr
  induction hr with
  | one h1 => exact h _ _ h1
  | step _ h1 ih => exact Nat.lt_trans ih (h _ _ h1)

theorem waive_mem {xs : List Arrow} {ps : List (Int × Int)} {x : Arrow} : x ∈ waiveL xs ps ↔ x ∈ xs ∧ (x.fr, x.to) ∉ ps := by
  unfold waiveL
  rw [List.mem_filter]
  simp

theorem waive_arrow {N : Int} {xs : List Arrow} {ps : List (Int × Int)} (h : Valid N xs) {i : Nat} (hi : i < xs.length) :
    arrowS N (waiveL xs ps) xs[i].fr xs[i].to = if (xs[i].fr, xs[i].to) ∈ ps then none else some xs[i] := by
  have hw : Valid N (waiveL xs ps) := h.filter _
  rw [arrowS, if_pos hw.chk]
  by_cases hp : (xs[i].fr, xs[i].to) ∈ ps
  · rw [if_pos hp]
    refine findA_none fun j hj hh => ?_
    have := (waive_mem.1 (List.getElem_mem hj)).2
    rw [hh.1, hh.2] at this
    exact this hp
  · rw [if_neg hp]
    have hm : xs[i] ∈ waiveL xs ps := waive_mem.2 ⟨List.getElem_mem hi, hp⟩
    obtain ⟨j, hj, e⟩ := List.getElem_of_mem hm
    have := findA_of hw hj (a := xs[i].fr) (b := xs[i].to) (by rw [e]; exact ⟨rfl, rfl⟩)
    rw [this, e]

def backL (xs : List Arrow) : List (Int × Int) := (xs.filter fun x => decide (x.fr > x.to)).map fun x => (x.fr, x.to)
theorem backL_take {xs : List Arrow} {i : Nat} (hi : i < xs.length) : backL (xs.take (i + 1)) = if xs[i].fr > xs[i].to then backL (xs.take i) ++ [(xs[i].fr, xs[i].to)] else backL (xs.take i) := by
  unfold backL
  rw [List.take_succ_eq_append_getElem hi, List.filter_append, List.map_append]
  by_cases h : xs[i].fr > xs[i].to <;> simp [h]
theorem backL_length (xs : List Arrow) : (backL xs).length ≤ xs.length := by
  unfold backL; rw [List.length_map]; exact List.length_filter_le _ _

theorem back_up {N : Int} {xs : List Arrow} (h : Valid N xs) {a b : Nat} (hm : toM (waiveL xs (backL xs)) a b = true) : a < b := by
  unfold toM at hm
  obtain ⟨x, hx, hd⟩ := List.any_eq_true.1 hm
  have hd := of_decide_eq_true hd
  obtain ⟨hx1, hx2⟩ := waive_mem.1 hx
  have hg := goodA_spec (h.goodAll x hx1)
  by_cases hgt : x.fr > x.to
  · exfalso
    refine hx2 (List.mem_map.2 ⟨x, List.mem_filter.2 ⟨hx1, decide_eq_true hgt⟩, rfl⟩)
  · omega

theorem short_of {l : List Nat} {a : Nat} (hn : l.Nodup) (h : ∀ x ∈ l, x = a) : l.length < 2 := by
  match l, hn, h with
  | [], _, _ => simp
  | [_], _, _ => simp
  | x :: y :: r, hn, h =>
    have e1 := h x (by simp)
    have e2 := h y (by simp)
    subst e1 e2
    simp at hn

theorem circles_none {N : Int} {xs : List Arrow} (h : Valid N xs) (hup : ∀ a b, toM xs a b = true → a < b) : circlesV N xs = [] := by
  obtain ⟨n, rfl⟩ := Int.eq_ofNat_of_zero_le h.lo
  have hn : n ≤ 24 := by have := h.hi; omega
  have P := pre_reach hn h.inside
  unfold circlesV compsV
  rw [if_pos h.chk, List.filter_eq_nil_iff]
  intro l hl
  obtain ⟨a, ha, rfl⟩ := P.from_ hl
  have : (members (compS n (reach (toM xs)) a)).length < 2 := by
    unfold members
    rw [List.length_map]
    refine short_of (a := a) (List.Pairwise.filter _ List.nodup_range) fun b hb => ?_
    obtain ⟨_, hc⟩ := List.mem_filter.1 hb
    rcases (compS_iff.1 hc).2 with e | ⟨h1, h2⟩
    · exact e.symm
    · have := reach_up hup h1
      have := reach_up hup h2
      omega
  simpa using this

theorem contrary_sub {N : Int} {xs : List Arrow} {ps : List (Int × Int)} (h : Valid N xs) {a b : Int} (hs : standS N (waiveL xs ps) a b = 3) : standS N xs a b = 3 := by
  have hw : Valid N (waiveL xs ps) := h.filter _
  unfold standS at *
  rw [if_pos hw.chk] at hs
  rw [if_pos h.chk]
  split at hs
  · rename_i hin
    rw [if_pos hin]
    obtain ⟨h1, h2, h3⟩ := standR_three.1 hs
    have hsub : ∀ p q, toM (waiveL xs ps) p q = true → toM xs p q = true := fun p q => toM_sub fun x hx => (waive_mem.1 hx).1
    exact standR_three.2 ⟨h1, reach_sub hsub h2, reach_sub hsub h3⟩
  · cases hs

theorem eqUnlike4 (x y : Operand) {a b : Bool} (h : (a == b) = false) : EqIs C.P .eql 4 x y (.bool a) (.bool b) false := by
  intro w
  rw [Sem.run_bind]
  have hu : C.P.underlying 4 = some .bool := under4
  have : (eqGuard .eql 4 x y (.bool a) (.bool b)).run C.P w = .ok () w := by simp [eqGuard]
  rw [this]
  simp only [Result.andThen_ok]
  have h2 := run_equalIn_bool' (P := C.P) w 9999 4 a b hu
  simp only [binOp]
  simp [Op.equal, Op.maxDepth] at h2 ⊢
  rw [h2]
  cases a <;> cases b <;> simp at h ⊢

theorem Reads.pr {w : World} {A : Option Addr} {ps : List (Int × Int)} (h : Reads w A (prCells ps)) {i : Nat} (hi : i < ps.length) : ∃ b o, A = some ⟨b, o, none⟩ ∧ w.cell? ⟨b, o + i * 2, none⟩ = some (.int .i64 ps[i].1) ∧ w.cell? ⟨b, o + i * 2 + 1, none⟩ = some (.int .i64 ps[i].2) := by
  rcases h with h | ⟨b, o, hA, hr⟩
  · have := congrArg List.length h
    rw [prCells_length] at this
    have : ps.length * 2 = 0 := this
    omega
  · have key : ∀ (l : List (Int × Int)) (i : Nat) (hi : i < l.length), (prCells l)[i * 2]? = some (.int .i64 l[i].1) ∧ (prCells l)[i * 2 + 1]? = some (.int .i64 l[i].2) := by
      intro l
      induction l with
      | nil => intro i hi; simp at hi
      | cons p l ih =>
        intro i hi
        cases i with
        | zero => exact ⟨rfl, rfl⟩
        | succ i =>
          have := ih i (by simpa using hi)
          have e1 : (i + 1) * 2 = i * 2 + 1 + 1 := by omega
          rw [e1]
          exact this
    obtain ⟨k1, k2⟩ := key ps i hi
    exact ⟨b, o, hA, hr _ _ k1, hr _ _ k2⟩

theorem Has_spec {w : World} {A : Option Addr} {c : Nat} {ps : List (Int × Int)} (hr : Reads w A (prCells ps)) (hl : ps.length ≤ 9223372036854775807) (a b : Int) :
    CallsV C.P 38 #[.slice A ps.length c, .int .i64 a, .int .i64 b] w fun v w' => v = .bool (decide ((a, b) ∈ ps)) ∧ w' = w := by
  refine callsV_of C_ok (args := [_, _, _]) (plans := []) Try.func38 rfl Try.ntmps38 (by kernel_rfl) (Nat.le_of_ble_eq_true rfl) ?_
  refine loopE C_ok (fun (i : Nat) => [(0, .slice A ps.length c), (1, .int .i64 a), (2, .int .i64 b), (7, .int .i64 i)])
    (fun i w' => w' = w ∧ i ≤ ps.length ∧ ∀ j (h : j < ps.length), j < i → ps[j] ≠ (a, b)) (fun i => ps.length - i) 0 ⟨rfl, rfl, rfl, rfl, trivial⟩
    ⟨rfl, Nat.zero_le _, fun j _ hj => absurd hj (Nat.not_lt_zero _)⟩ ?_
  rintro i w1 ⟨rfl, hi, hall⟩
  refine brE_dec (fun hlt => ?_) (fun hge => ?_)
  · have hlt : i < ps.length := by have : (i : Int) < (ps.length : Nat) := hlt; omega
    obtain ⟨bb, o, hA, c1, c2⟩ := Reads.pr hr hlt
    have next : IntKind.i64.wrap ((i : Int) + 1) = ((i + 1 : Nat) : Int) := fit ⟨by omega, by omega⟩
    have go : ps[i] ≠ (a, b) → ∀ j (h : j < ps.length), j < i + 1 → ps[j] ≠ (a, b) := fun hn j hj hji => by
      rcases Nat.lt_or_ge j i with h | h
      · exact hall j hj h
      · obtain rfl : j = i := by omega
        exact hn
    refine ⟨i, bb, o, rfl, hlt, hA, ?_⟩
    refine ⟨_, c1, ?_⟩
    refine brE_dec (fun h1 => ?_) (fun h1 => ?_)
    · have h1 : ps[i].1 = a := h1
      refine ⟨i, bb, o, rfl, hlt, hA, ?_⟩
      refine ⟨_, c2, ?_⟩
      refine brE_dec (fun h2 => ?_) (fun h2 => ?_)
      · have h2 : ps[i].2 = b := h2
        refine ⟨?_, rfl⟩
        have : (a, b) ∈ ps := by
          have := List.getElem_mem hlt
          rw [show ps[i] = (a, b) from Prod.ext h1 h2] at this
          exact this
        rw [decide_eq_true this]
      · refine ⟨_, next, ?_⟩
        exact ⟨i + 1, ⟨rfl, rfl, rfl, rfl, trivial⟩, ⟨rfl, hlt, go fun e => h2 (by show ps[i].2 = b; rw [e])⟩, by omega⟩
    · refine ⟨_, next, ?_⟩
      exact ⟨i + 1, ⟨rfl, rfl, rfl, rfl, trivial⟩, ⟨rfl, hlt, go fun e => h1 (by show ps[i].1 = a; rw [e])⟩, by omega⟩
  · have : i = ps.length := by have : ¬ (i : Int) < (ps.length : Nat) := hge; omega
    subst this
    refine ⟨?_, rfl⟩
    have : (a, b) ∉ ps := fun hm => by
      obtain ⟨j, hj, e⟩ := List.getElem_of_mem hm
      exact hall j hj hj e
    rw [decide_eq_false this]

end Go.Proofs.Ytdfhfehlmonjjaa

namespace Go.Proofs.Ytdfhfehlmonjjaa
open Go.Eng Go.RowKit

theorem NewRel.hrel' {B : Nat} {w : World} {N : Int} {xs ys : List Arrow} {A A' : Option Addr} {c c' : Nat} (h : HRel w N A xs c) (hs : ∀ x ∈ ys, x ∈ xs) (hl : ys.length ≤ xs.length) {w' : World} (ho : w'.ownsRow B 43 4 (.slice A' ys.length c') ys.length (arrows ys)) : HRel w' N A' ys c' := by
  have hcap := h.cap
  obtain ⟨A2, c2, e, hr, hc⟩ := reads_of_owns ho
  cases e
  exact ⟨h.num, fun x hx => h.nums x (hs x hx), hr, hc, by omega⟩

theorem RankWaives_spec {N : Int} {A B : Option Addr} {xs : List Arrow} {c d : Nat} {ps : List (Int × Int)} {w : World} (h : HRel w N A xs c) (hr : Reads w B (prCells ps)) (hp : ∀ p ∈ ps, In64 p.1 ∧ In64 p.2) :
    CallsV C.P 10 #[relVal N A xs.length c, .slice B ps.length d] w fun v w' => v = .bool true ∧ Ext w w' := by
  refine callsV_of C_ok (args := [_, _]) (plans := []) Try.func10 rfl Try.ntmps10 (by kernel_rfl) (Nat.le_of_ble_eq_true rfl) ?_
  intro g2 w1 h1
  have M1 := (Mem.start w).alloc h1
  refine ⟨[.int .i64 N, .slice A xs.length c], rfl, M1.rd 0 rfl, ?_⟩
  refine (huge_spec w1).mono ?_
  rintro v w2 ⟨rfl, e2⟩
  have M2 := M1.grow e2
  have stop : ∀ {w' : World}, Ext w w' → CallsV C.P 16 #[] w' fun v w'' => v = .bool true ∧ Ext w w'' := fun e => (stands_spec _).mono fun v w'' hh => ⟨hh.1, e.trans hh.2⟩
  refine brE_dec (fun _ => ?_) (fun h600 => ?_)
  · exact stop M2.ext
  have hx6 : xs.length ≤ 600 := by have : ¬ (xs.length : Int) > 600 := h600; omega
  refine brE_dec (fun _ => ?_) (fun h60 => ?_)
  · exact stop M2.ext
  have hpl : ps.length ≤ 60 := by have : ¬ (ps.length : Int) > 60 := h60; omega
  refine ⟨[.int .i64 N, .slice A xs.length c], rfl, M2.rd 0 rfl, ?_⟩
  refine (Check_spec (h.ext M2.ext)).mono ?_
  rintro v w3 ⟨rfl, e3⟩
  have M3 := M2.grow e3
  refine brE_mk (fun hb => ?_) (fun hb => ?_)
  · exact stop M3.ext
  have hv : chk N xs = 0 := by simpa using hb
  have hok := valid_of_chk hv
  have hhi := hok.hi
  obtain ⟨n, rfl⟩ := Int.eq_ofNat_of_zero_le hok.lo
  have hn : n ≤ 24 := by omega
  have hwl := waiveL_length xs ps
  refine ⟨[.int .i64 n, .slice A xs.length c], rfl, M3.rd 0 rfl, ?_⟩
  refine (Waive_spec (h.ext M3.ext) (by omega) hp (hr.ext M3.ext) (by omega)).mono ?_
  rintro v w4 ⟨⟨u, hv4, hu4⟩, e4⟩
  rw [if_pos hv, if_pos hv] at hu4
  obtain ⟨A4, c4, rfl, ho4⟩ := hu4
  subst hv4
  have M4 := M3.grow e4
  intro g5 w5 h5
  have M5 := M4.alloc h5
  refine ⟨rfl, _, _, M5.get 0 rfl, Nat.le_of_ble_eq_true rfl, rfl, ?_⟩
  intro w6 h6
  have h6 : Put w5 g5 (.cells #[.int .i64 n, .slice A4 (waiveL xs ps).length c4] 24 (0, 0)) w6 := h6
  have M6 : Mem w w6 [(g5, .cells #[.int .i64 n, .slice A4 (waiveL xs ps).length c4] 24 (0, 0)), (g2, .cells #[.int .i64 n, .slice A xs.length c] 24 (0, 0))] := M5.put 0 rfl h6
  have e46 : Ext w4 w6 := h6.ext_of h5.ext (by rw [h5.new]; exact Nat.le_refl _)
  have ho6 : w6.ownsRow w.heap.size 43 4 (.slice A4 (waiveL xs ps).length c4) (waiveL xs ps).length (arrows (waiveL xs ps)) := ownsRow_ext (ownsRow_base ho4 M3.ext.size) e46
  have hsub : ∀ x ∈ waiveL xs ps, x ∈ xs := fun x hx => (waive_mem.1 hx).1
  refine brE_false (by rw [hv]; rfl) ?_
  refine ⟨_, M6.cell 0 rfl rfl, ?_⟩
  refine ⟨_, M6.cell 1 rfl rfl, ?_⟩
  refine brE_false (by simp) ?_
  refine loopE C_ok (fun (s : Nat × Value) => [(1, .slice B ps.length d), (2, .pointer (some ⟨g2, 0, none⟩)), (5, .pointer (some ⟨g5, 0, none⟩)), (7, s.2), (8, .int .i64 s.1)])
    (fun s w' => s.1 ≤ xs.length ∧ Ext w w' ∧ w'.heap[g5]? = some (.cells #[.int .i64 n, .slice A4 (waiveL xs ps).length c4] 24 (0, 0)) ∧ w'.heap[g2]? = some (.cells #[.int .i64 n, .slice A xs.length c] 24 (0, 0)) ∧
      w'.ownsRow w.heap.size 43 4 (.slice A4 (waiveL xs ps).length c4) (waiveL xs ps).length (arrows (waiveL xs ps)) ∧ Prs w.heap.size w' s.2 (backL (xs.take s.1))) (fun s => xs.length - s.1) (0, .slice none 0 0)
    ⟨rfl, rfl, rfl, rfl, rfl, trivial⟩ ⟨Nat.zero_le _, M6.ext, M6.get 0 rfl, M6.get 1 rfl, ho6, prs_nil _ _⟩ ?_
  rintro ⟨i, v⟩ w7 ⟨hi, E7, hg5, hg2, ho7, hb7⟩
  have hi : i ≤ xs.length := hi
  have hb7 : Prs w.heap.size w7 v (backL (xs.take i)) := hb7
  refine ⟨_, cell_of_block hg2 rfl, ?_⟩
  refine brE_dec (fun hlt => ?_) (fun hge => ?_)
  · have hlt : i < xs.length := by have : (i : Int) < (xs.length : Nat) := hlt; omega
    obtain ⟨b, o, hA, hc⟩ := Reads.arrow h.reads hlt
    have next : IntKind.i64.wrap ((i : Int) + 1) = ((i + 1 : Nat) : Int) := fit ⟨by omega, by omega⟩
    refine ⟨_, cell_of_block hg2 rfl, ?_⟩
    refine ⟨i, b, o, rfl, hlt, hA, ?_⟩
    refine ⟨xs[i].cells, rfl, hc.ext E7, ?_⟩
    intro g9 w8 h8
    refine ⟨rfl, _, _, h8.here, Nat.le_of_ble_eq_true rfl, rfl, ?_⟩
    intro w9 h9
    have h9 : Put w8 g9 (.cells xs[i].cells.toArray 43 (0, 0)) w9 := h9
    have e79 : Ext w7 w9 := h9.ext_of h8.ext (by rw [h8.new]; exact Nat.le_refl _)
    have ho9 := ownsRow_ext ho7 e79
    refine ⟨[.int .i64 n, .slice A4 (waiveL xs ps).length c4], rfl, Rd.of_block (e79.heap hg5), ?_⟩
    refine ⟨_, cell_of_block h9.here rfl, ?_⟩
    refine ⟨_, cell_of_block h9.here rfl, ?_⟩
    refine (Arrow_spec (NewRel.hrel' h hsub hwl ho9) (by omega) xs[i].fr xs[i].to).mono ?_
    rintro v10 w10 ⟨rfl, e10⟩
    rw [waive_arrow hok hlt]
    have hq : (if (xs[i].fr, xs[i].to) ∈ ps then none else some xs[i] : Option Arrow).isSome = !decide ((xs[i].fr, xs[i].to) ∈ ps) := by split <;> simp_all
    have hs : ∀ y, (if (xs[i].fr, xs[i].to) ∈ ps then none else some xs[i] : Option Arrow) = some y → y = xs[i] := fun y => by split <;> simp_all
    generalize (if (xs[i].fr, xs[i].to) ∈ ps then none else some xs[i] : Option Arrow) = r at *
    intro g11 w11 h11
    refine ⟨rfl, _, _, h11.here, Nat.le_of_ble_eq_true rfl, rfl, ?_⟩
    intro w12 h12
    have h12 : Put w11 g11 (.cells (r.getD arrowZ).cells.toArray 43 (0, 0)) w12 := h12
    have e1012 : Ext w10 w12 := h12.ext_of h11.ext (by rw [h11.new]; exact Nat.le_refl _)
    have e12 := (e79.trans e10).trans e1012
    have hg9 := e1012.heap (e10.heap h9.here)
    refine ⟨_, cell_of_block hg9 rfl, ?_⟩
    refine ⟨_, cell_of_block hg9 rfl, ?_⟩
    refine (Has_spec (hr.ext (E7.trans e12)) (by omega) xs[i].fr xs[i].to).mono ?_
    rintro v13 w13 ⟨rfl, rfl⟩
    refine ⟨false, eqUnlike4 _ _ (by rw [hq]; cases decide ((xs[i].fr, xs[i].to) ∈ ps) <;> rfl), ?_⟩
    have hlen := backL_length (xs.take i)
    have hlen2 : (xs.take i).length ≤ xs.length := by rw [List.length_take]; omega
    have hbt := backL_take hlt
    have ho12 := ownsRow_ext ho7 e12
    refine brE_mk (fun hsm => ?yes) (fun hsm => ?no)
    case' yes =>
      obtain ⟨y, hy⟩ := Option.isSome_iff_exists.1 hsm
      have := hs y hy
      subst hy this
      refine ⟨xs[i].cells, rfl, Rd.of_block h12.here, ?_⟩
      refine ⟨xs[i].cells, rfl, Rd.of_block hg9, ?_⟩
      refine ⟨false, neqSame43 _ _ _, ?_⟩
    all_goals
      refine ⟨_, cell_of_block hg9 rfl, ?_⟩
      refine ⟨_, cell_of_block hg9 rfl, ?_⟩
      refine brE_dec (fun hgt => ?_) (fun hgt => ?_)
      · have hgt : xs[i].fr > xs[i].to := hgt
        rw [if_pos hgt] at hbt
        refine ⟨_, cell_of_block hg9 rfl, ?_⟩
        refine ⟨_, cell_of_block hg9 rfl, ?_⟩
        intro g14 w14 h14
        have e14 := e12.trans h14.ext
        have hb14 : w14.ownsRow w.heap.size 58 2 v (backL (xs.take i)).length (prCells (backL (xs.take i))) := ownsRow_ext hb7 e14
        refine ⟨rfl, rfl, rfl, w.heap.size, _, _, [.int .i64 xs[i].fr, .int .i64 xs[i].to], hb14, (E7.trans e14).size, Nat.le_of_ble_eq_true rfl, rfl, rfl, .inr ⟨g14, 0, rfl, Rd.of_block h14.here⟩, rfl, rfl, by omega, by simp only [maxLen]; omega, ?_⟩
        intro v15 w15 ho15 hg15 _
        have o15 := only_app hb14 hg15
        refine ⟨_, next, ?_⟩
        refine ⟨(i + 1, v15), ⟨rfl, rfl, rfl, rfl, rfl, trivial⟩, ⟨hlt, app_ext (E7.trans e14) hb14 hg15, o15 _ _ _ _ (e14.heap hg5) (by decide), o15 _ _ _ _ (e14.heap hg2) (by decide), ownsRow_only (ownsRow_ext ho7 e14) o15 (by decide), ?_⟩, by show xs.length - (i + 1) < xs.length - i; omega⟩
        show Prs _ _ _ (backL (xs.take (i + 1)))
        rw [hbt]
        unfold Prs
        rw [prCells_append, List.length_append]
        exact ho15
      · have hgt : ¬ xs[i].fr > xs[i].to := hgt
        rw [if_neg hgt] at hbt
        refine ⟨_, next, ?_⟩
        refine ⟨(i + 1, v), ⟨rfl, rfl, rfl, rfl, rfl, trivial⟩, ⟨hlt, E7.trans e12, e12.heap hg5, e12.heap hg2, ho12, ?_⟩, by show xs.length - (i + 1) < xs.length - i; omega⟩
        show Prs _ _ _ (backL (xs.take (i + 1)))
        rw [hbt]
        exact hb7.ext e12
  · have : i = xs.length := by have : ¬ (i : Int) < (xs.length : Nat) := hge; omega
    subst this
    rw [List.take_length] at hb7
    have hbl := backL_length xs
    obtain ⟨A7, c7, rfl, hr7, _⟩ := reads_of_owns hb7
    have hbw := waiveL_length xs (backL xs)
    have hpb : ∀ p ∈ backL xs, In64 p.1 ∧ In64 p.2 := fun p hp => by
      obtain ⟨x, hx, rfl⟩ := List.mem_map.1 hp
      have := h.nums x (List.mem_filter.1 hx).1
      exact ⟨this.1, this.2.1⟩
    have okw : Valid n (waiveL xs ps) := hok.filter _
    have okb : Valid n (waiveL xs (backL xs)) := hok.filter _
    refine ⟨[.int .i64 n, .slice A xs.length c], rfl, Rd.of_block hg2, ?_⟩
    refine (Waive_spec (h.ext E7) (by omega) hpb hr7 (by omega)).mono ?_
    rintro v w8 ⟨⟨u, hv8, hu8⟩, e8⟩
    rw [if_pos hv, if_pos hv] at hu8
    obtain ⟨A8, c8, rfl, ho8⟩ := hu8
    subst hv8
    intro g12 w9 h9
    refine ⟨rfl, _, _, h9.here, Nat.le_of_ble_eq_true rfl, rfl, ?_⟩
    intro w10 h10
    have h10 : Put w9 g12 (.cells #[.int .i64 n, .slice A8 (waiveL xs (backL xs)).length c8] 24 (0, 0)) w10 := h10
    have e810 : Ext w8 w10 := h10.ext_of h9.ext (by rw [h9.new]; exact Nat.le_refl _)
    have e710 := e8.trans e810
    refine brE_false (by rw [hv]; rfl) ?_
    refine ⟨_, cell_of_block (e710.heap hg5) rfl, ?_⟩
    refine ⟨_, cell_of_block (e710.heap hg2) rfl, ?_⟩
    refine brE_false (decide_eq_false (by omega)) ?_
    refine ⟨[.int .i64 n, .slice A8 (waiveL xs (backL xs)).length c8], rfl, Rd.of_block h10.here, ?_⟩
    refine (Circles_spec (NewRel.hrel' h (fun x hx => (waive_mem.1 hx).1) hbw (ownsRow_ext ho8 e810))).mono ?_
    rintro v11 w11 ⟨hl11, e11⟩
    rw [circles_none okb fun a b => back_up hok] at hl11
    obtain ⟨A11, c11, us11, rfl, _⟩ := hl11.read
    have e711 := e710.trans e11
    have hx7 : HRel w11 n A4 (waiveL xs ps) c4 := NewRel.hrel' h hsub hwl (ownsRow_ext ho7 e711)
    have hr11 := h.ext (E7.trans e711)
    have hg5 := e711.heap hg5
    have hg2 := e711.heap hg2
    have E11 := E7.trans e711
    clear ho7 e46 ho4 ho6 hb7
    refine loopE C_ok (fun (a : Nat) => [(2, .pointer (some ⟨g2, 0, none⟩)), (5, .pointer (some ⟨g5, 0, none⟩)), (14, .int .i64 a)])
      (fun a w' => a ≤ n ∧ Ext w11 w') (fun a => n - a) 0 ⟨rfl, rfl, rfl, trivial⟩ ⟨Nat.zero_le _, Ext.refl _⟩ ?_
    rintro a w12 ⟨ha, E12⟩
    refine ⟨_, cell_of_block (E12.heap hg2) rfl, ?_⟩
    refine brE_dec (fun hlt => ?_) (fun hge => ?_)
    · have hlt : a < n := by have : (a : Int) < n := hlt; omega
      refine loopE C_ok (fun (b : Nat) => [(2, .pointer (some ⟨g2, 0, none⟩)), (5, .pointer (some ⟨g5, 0, none⟩)), (14, .int .i64 a), (15, .int .i64 b)])
        (fun b w' => b ≤ a ∧ Ext w11 w') (fun b => a - b) 0 ⟨rfl, rfl, rfl, rfl, trivial⟩ ⟨Nat.zero_le _, E12⟩ ?_
      rintro b w13 ⟨hb, E13⟩
      refine brE_dec (fun hltb => ?_) (fun hgeb => ?_)
      · have hltb : b < a := by have : (b : Int) < a := hltb; omega
        have next : IntKind.i64.wrap ((b : Int) + 1) = ((b + 1 : Nat) : Int) := fit ⟨by omega, by omega⟩
        refine ⟨[.int .i64 n, .slice A4 (waiveL xs ps).length c4], rfl, Rd.of_block (E13.heap hg5), ?_⟩
        refine (Standing_spec (hx7.ext E13) a b).mono ?_
        rintro v14 w14 ⟨rfl, e14⟩
        have E14 := E13.trans e14
        refine brE_dec (fun h3 => ?_) (fun h3 => ?_)
        · have h3 := contrary_sub hok h3
          refine ⟨[.int .i64 n, .slice A xs.length c], rfl, Rd.of_block (E14.heap hg2), ?_⟩
          refine (Standing_spec (hr11.ext E14) a b).mono ?_
          rintro v15 w15 ⟨rfl, e15⟩
          refine brE_false (by rw [h3]; rfl) ?_
          refine ⟨_, next, ?_⟩
          exact ⟨b + 1, ⟨rfl, rfl, rfl, rfl, trivial⟩, ⟨hltb, E14.trans e15⟩, by omega⟩
        · refine ⟨_, next, ?_⟩
          exact ⟨b + 1, ⟨rfl, rfl, rfl, rfl, trivial⟩, ⟨hltb, E14⟩, by omega⟩
      · refine ⟨((a + 1 : Nat) : Int), fit ⟨by omega, by omega⟩, ?_⟩
        exact ⟨a + 1, ⟨rfl, rfl, rfl, trivial⟩, ⟨hlt, E13⟩, by omega⟩
    · exact stop (E11.trans E12)

end Go.Proofs.Ytdfhfehlmonjjaa
