/- The law's function: RankWhole. -/
import Derived.Test.YtdfhfehlmonjjaaR23
namespace Go.Proofs.Ytdfhfehlmonjjaa
open Go.Eng Go.RowKit

theorem natsN_at {n i : Nat} (f : Nat → Nat) (h : i < (natsN n f).length) : (natsN n f)[i] = ((f i : Nat) : Int) := by simp [natsN]
theorem natsN_congr {n : Nat} {f g : Nat → Nat} (h : ∀ k < n, f k = g k) : natsN n f = natsN n g := by
  unfold natsN
  exact List.map_congr_left fun k hk => by rw [h k (List.mem_range.1 hk)]

/-- What stands in 'at' while guest 'a' is looked for and has been found 'c' times. -/
noncomputable def stA (n : Nat) (R : Nat → Nat → Bool) (a c : Nat) : Nat → Nat := fun k => if k < a then ix n R k else if k = a ∧ 0 < c then ix n R a else 0

theorem stA_zero {n : Nat} {R : Nat → Nat → Bool} : stA n R 0 0 = fun _ => 0 := by
  funext k; unfold stA; rw [if_neg (by omega), if_neg (by omega)]
theorem stA_next {n : Nat} {R : Nat → Nat → Bool} {a : Nat} : stA n R a 1 = stA n R (a + 1) 0 := by
  funext k
  unfold stA
  by_cases h1 : k < a
  · rw [if_pos h1, if_pos (by omega)]
  · rw [if_neg h1]
    by_cases h2 : k = a
    · subst h2; rw [if_pos ⟨rfl, by omega⟩, if_pos (by omega)]
    · rw [if_neg (by omega), if_neg (by omega), if_neg (by omega)]
theorem stA_found {n : Nat} {R : Nat → Nat → Bool} {a c i : Nat} (h : ix n R a = i) : (fun k => if k = a then i else stA n R a c k) = stA n R a (c + 1) := by
  funext k
  unfold stA
  by_cases h2 : k = a
  · subst h2; rw [if_pos rfl, if_neg (by omega), if_pos ⟨rfl, by omega⟩, h]
  · rw [if_neg h2]
    by_cases h1 : k < a
    · rw [if_pos h1, if_pos h1]
    · rw [if_neg h1, if_neg h1, if_neg (by omega), if_neg (by omega)]

theorem RankWhole_spec {N : Int} {A : Option Addr} {xs : List Arrow} {c : Nat} {w : World} (h : HRel w N A xs c) :
    CallsV C.P 7 #[relVal N A xs.length c] w fun v w' => v = .bool true ∧ Ext w w' := by
  have hxl := h.cap
  refine callsV_of C_ok (args := [_]) (plans := plans7) Try.func7 rfl Try.ntmps7 (by kernel_rfl) (Nat.le_of_ble_eq_true rfl) ?_
  intro g1 w1 h1
  have M1 := (Mem.start w).alloc h1
  refine ⟨[.int .i64 N, .slice A xs.length c], rfl, M1.rd 0 rfl, ?_⟩
  refine (huge_spec w1).mono ?_
  rintro v w2 ⟨rfl, e2⟩
  have M2 := M1.grow e2
  have stop : ∀ {w' : World}, Ext w w' → CallsV C.P 16 #[] w' fun v w'' => v = .bool true ∧ Ext w w'' := fun e => (stands_spec _).mono fun v w'' hh => ⟨hh.1, e.trans hh.2⟩
  refine brE_mk (fun hh => ?_) (fun hh => ?_)
  · exact stop M2.ext
  refine ⟨[.int .i64 N, .slice A xs.length c], rfl, M2.rd 0 rfl, ?_⟩
  refine (Check_spec (h.ext M2.ext)).mono ?_
  rintro v w3 ⟨rfl, e3⟩
  have M3 := M2.grow e3
  refine brE_mk (fun hb => ?_) (fun hb => ?_)
  · exact stop M3.ext
  have hv : chk N xs = 0 := by simpa using hb
  have hok := valid_of_chk hv
  have hlo := hok.lo
  have hhi := hok.hi
  obtain ⟨n, rfl⟩ := Int.eq_ofNat_of_zero_le hlo
  have hn : n ≤ 24 := by omega
  have P := pre_reach hn hok.inside
  have hc0 : compsV n xs = compsL n (reach (toM xs)) := by rw [compsV, if_pos hv]; rfl
  have hl0 : levelsV n xs = natsN n (levelsL n (reach (toM xs))) := by rw [levelsV, if_pos hv]; rfl
  refine ⟨[.int .i64 n, .slice A xs.length c], rfl, M3.rd 0 rfl, ?_⟩
  refine (Components_spec (h.ext M3.ext)).mono ?_
  rintro v w4 ⟨hl4, e4⟩
  rw [hc0] at hl4
  obtain ⟨A4, c4, us4, rfl, hr4⟩ := hl4.read
  have M4 := M3.grow e4
  refine ⟨[.int .i64 n, .slice A xs.length c], rfl, M4.rd 0 rfl, ?_⟩
  refine (Levels_spec (h.ext M4.ext)).mono ?_
  rintro v w5 ⟨hl5, e5⟩
  rw [hl0] at hl5
  obtain ⟨A5, c5, rfl, hr5, _⟩ := hl5.slice
  have M5 := M4.grow e5
  have hr45 := hr4.ext e5
  have hlvlen := natsN_length n (levelsL n (reach (toM xs)))
  refine ⟨_, M5.cell 0 rfl rfl, ?_⟩
  refine brE_mk (fun hb => ?_) (fun _ => ?_)
  · exfalso
    have : ¬ ((natsN n (levelsL n (reach (toM xs)))).length : Int) = (n : Int) := by simpa using hb
    exact this (by rw [hlvlen])
  refine ⟨_, M5.cell 0 rfl rfl, ?_⟩
  refine ⟨n, n, rfl, rfl, Nat.le_refl _, by omega, by omega, rfl, rfl, rfl, rfl, ?_⟩
  intro go w6 h6
  have h6 : Alloc w5 go (.cells (ints (natsN n fun _ => 0)).toArray 3 (0, 0)) w6 := by rw [← zeros_natsN]; exact h6
  have hbox5 := M5.get 0 rfl
  have hpr := compsL_props (R := reach (toM xs)) hn
  have hfl := flat_le hpr.2.1
  have hfl24 : (compsL n (reach (toM xs))).length * 24 ≤ 24 * 24 := Nat.mul_le_mul_right _ hpr.1
  have hcount : ∀ a < n, (compsL n (reach (toM xs))).flatten.count ((a : Nat) : Int) = 1 := fun a ha => P.count_one ha
  have hix : ∀ a < n, ∀ i (hi : i < (compsL n (reach (toM xs))).length), (a : Int) ∈ (compsL n (reach (toM xs)))[i] → ix n (reach (toM xs)) a = i := fun a ha i hi hm => P.ix_eq ha hi hm
  have hE5 := M5.ext
  have harr : ∀ p q, toM xs p q = true → p < n ∧ q < n ∧ ix n (reach (toM xs)) p ≤ ix n (reach (toM xs)) q ∧ (ix n (reach (toM xs)) p = ix n (reach (toM xs)) q → levelsL n (reach (toM xs)) p = levelsL n (reach (toM xs)) q) ∧ (ix n (reach (toM xs)) p < ix n (reach (toM xs)) q → levelsL n (reach (toM xs)) p < levelsL n (reach (toM xs)) q) := fun p q hpq => by
    have hr : reach (toM xs) p q = true := reach_iff.2 (.one hpq)
    have h2 := P.inside _ _ hr
    have h3 := P.arrow hr
    exact ⟨h2.1, h2.2, h3.1, h3.2.1, h3.2.2⟩
  have hgood : ∀ i (hi : i < xs.length), ∃ p q : Nat, xs[i].fr = (p : Int) ∧ xs[i].to = (q : Int) ∧ toM xs p q = true := fun i hi => by
    have hg := goodA_spec (hok.good hi)
    obtain ⟨p, hp⟩ := Int.eq_ofNat_of_zero_le hg.1
    obtain ⟨q, hq⟩ := Int.eq_ofNat_of_zero_le hg.2.2.1
    refine ⟨p, q, hp, hq, ?_⟩
    unfold toM
    exact List.any_eq_true.2 ⟨xs[i], List.getElem_mem _, decide_eq_true ⟨hp, hq⟩⟩
  clear hl4 hl5 hc0 hl0
  generalize reach (toM xs) = R at *
  generalize levelsL n R = lv at *
  generalize compsL n R = L at *
  refine loopE C_ok (fun (a : Nat) => [(1, .pointer (some ⟨g1, 0, none⟩)), (3, .slice A4 L.length c4), (4, .slice A5 (natsN n lv).length c5), (5, .slice (some ⟨go, 0, none⟩) n n), (6, .int .i64 a)])
    (fun a w' => a ≤ n ∧ Mem w5 w' [(go, .cells (ints (natsN n (stA n R a 0))).toArray 3 (0, 0))]) (fun a => n - a) 0 ⟨rfl, rfl, rfl, rfl, rfl, trivial⟩
    ⟨Nat.zero_le _, by rw [stA_zero]; exact (Mem.start w5).alloc h6⟩ ?_
  rintro a w7 ⟨ha, M7⟩
  refine ⟨_, cell_of_block (M7.ext.heap hbox5) rfl, ?_⟩
  refine brE_dec (fun hlt => ?_) (fun hge => ?_)
  · have hlt : a < n := by omega
    refine loopE C_ok (fun (i : Nat) => [(1, .pointer (some ⟨g1, 0, none⟩)), (3, .slice A4 L.length c4), (4, .slice A5 (natsN n lv).length c5), (5, .slice (some ⟨go, 0, none⟩) n n), (6, .int .i64 a), (7, .int .i64 ((L.take i).flatten.count (a : Int) : Nat)), (8, .int .i64 i)])
      (fun i w' => i ≤ L.length ∧ Mem w5 w' [(go, .cells (ints (natsN n (stA n R a ((L.take i).flatten.count (a : Int))))).toArray 3 (0, 0))]) (fun i => L.length - i) 0 ⟨rfl, rfl, rfl, rfl, rfl, rfl, rfl, trivial⟩
      ⟨Nat.zero_le _, M7⟩ ?_
    rintro i w8 ⟨hi, M8⟩
    refine brE_dec (fun hlt2 => ?_) (fun hge2 => ?_)
    · have hlt2 : i < L.length := by omega
      have hlen24 := hpr.2.1 L[i] (List.getElem_mem _)
      have hcl : ∀ k, ((L.take i).flatten ++ L[i].take k).count (a : Int) ≤ 1000 := fun k => by
        have h1 := List.count_le_length (a := (a : Int)) (l := (L.take i).flatten ++ L[i].take k)
        have h2 := flat_take_le hpr.2.1 i
        rw [List.length_append, List.length_take] at h1
        omega
      obtain ⟨A', c', hu, hrow⟩ := hr45.row i hlt2
      rcases hr45.reads with h0 | ⟨b, o, hA, hrd⟩
      · rw [h0] at hu; simp at hu
      refine loopE C_ok (fun (k : Nat) => [(1, .pointer (some ⟨g1, 0, none⟩)), (3, .slice A4 L.length c4), (4, .slice A5 (natsN n lv).length c5), (5, .slice (some ⟨go, 0, none⟩) n n), (6, .int .i64 a), (7, .int .i64 (((L.take i).flatten ++ L[i].take k).count (a : Int) : Nat)), (8, .int .i64 i), (9, .int .i64 k)])
        (fun k w' => k ≤ L[i].length ∧ Mem w5 w' [(go, .cells (ints (natsN n (stA n R a (((L.take i).flatten ++ L[i].take k).count (a : Int))))).toArray 3 (0, 0))]) (fun k => L[i].length - k) 0 ⟨rfl, rfl, rfl, rfl, rfl, by rw [List.take_zero, List.append_nil]; rfl, rfl, rfl, trivial⟩
        ⟨Nat.zero_le _, by rw [List.take_zero, List.append_nil]; exact M8⟩ ?_
      rintro k w9 ⟨hk, M9⟩
      refine ⟨i, b, o, rfl, hlt2, hA, ?_⟩
      refine ⟨_, by have := (hrd.ext M9.ext) i _ hu; simpa using this, ?_⟩
      refine brE_dec (fun hlt3 => ?_) (fun hge3 => ?_)
      · have hlt3 : k < L[i].length := by omega
        obtain ⟨b1, o1, hA1, hc1⟩ := Reads.int (hrow.ext M9.ext) hlt3
        have next : IntKind.i64.wrap ((k : Int) + 1) = ((k + 1 : Nat) : Int) := fit ⟨by omega, by omega⟩
        refine ⟨i, b, o, rfl, hlt2, hA, ?_⟩
        refine ⟨_, by have := (hrd.ext M9.ext) i _ hu; simpa using this, ?_⟩
        refine ⟨k, b1, o1, rfl, hlt3, hA1, ?_⟩
        refine ⟨_, by simpa using hc1, ?_⟩
        have hck := hcl k
        have hsucc : ((L.take i).flatten ++ L[i].take (k + 1)).count (a : Int) = ((L.take i).flatten ++ L[i].take k).count (a : Int) + if L[i][k] = (a : Int) then 1 else 0 := by
          rw [List.take_succ_eq_append_getElem hlt3, ← List.append_assoc, List.count_append (l₂ := [L[i][k]]), List.count_singleton]
          by_cases e : L[i][k] = (a : Int) <;> simp [e]
        refine brE_dec (fun he => ?_) (fun he => ?_)
        · have he : L[i][k] = (a : Int) := he
          rw [if_pos he] at hsucc
          have hxa := hix a hlt i hlt2 (by rw [← he]; exact List.getElem_mem _)
          refine ⟨((((L.take i).flatten ++ L[i].take (k + 1)).count (a : Int) : Nat) : Int), by rw [hsucc, fit ⟨by omega, by omega⟩]; omega, ?_⟩
          refine ⟨a, go, 0, rfl, hlt, rfl, ?_⟩
          refine ⟨rfl, _, _, M9.get 0 rfl, by rw [ints_length, natsN_length]; show 0 + a * 1 + 1 ≤ n; omega, rfl, ?_⟩
          intro w10 h10
          have e10 : splice (ints (natsN n (stA n R a (((L.take i).flatten ++ L[i].take k).count (a : Int))))) (0 + a * 1) [.int .i64 i] = ints (natsN n (stA n R a (((L.take i).flatten ++ L[i].take (k + 1)).count (a : Int)))) := by
            rw [hsucc, ← stA_found hxa]
            have := natsN_set hlt (stA n R a (((L.take i).flatten ++ L[i].take k).count (a : Int))) i
            simpa using this
          have h10 : Put w9 go (.cells (ints (natsN n (stA n R a (((L.take i).flatten ++ L[i].take (k + 1)).count (a : Int))))).toArray 3 (0, 0)) w10 := by rw [← e10]; exact h10
          refine ⟨_, next, ?_⟩
          exact ⟨k + 1, ⟨rfl, rfl, rfl, rfl, rfl, rfl, rfl, rfl, trivial⟩, ⟨hlt3, M9.put 0 rfl h10⟩, by omega⟩
        · have he : ¬ L[i][k] = (a : Int) := he
          rw [if_neg he, Nat.add_zero] at hsucc
          refine ⟨_, next, ?_⟩
          exact ⟨k + 1, ⟨rfl, rfl, rfl, rfl, rfl, by rw [hsucc]; rfl, rfl, rfl, trivial⟩, ⟨hlt3, by rw [hsucc]; exact M9⟩, by omega⟩
      · have : k = L[i].length := by omega
        subst this
        have e : (L.take i).flatten ++ L[i].take L[i].length = (L.take (i + 1)).flatten := by rw [List.take_length, flat_take hlt2]
        rw [e] at M9
        refine ⟨((i + 1 : Nat) : Int), fit ⟨by omega, by omega⟩, ?_⟩
        exact ⟨i + 1, ⟨rfl, rfl, rfl, rfl, rfl, by rw [← e]; rfl, rfl, trivial⟩, ⟨hlt2, M9⟩, by omega⟩
    · have : i = L.length := by omega
      subst this
      have hone : (L.take L.length).flatten.count (a : Int) = 1 := by rw [List.take_length]; exact hcount a hlt
      rw [hone] at M8
      refine brE_mk (fun hb => ?_) (fun _ => ?_)
      · exfalso
        have : ¬ (((L.take L.length).flatten.count (a : Int) : Nat) : Int) = 1 := by simpa using hb
        exact this (by rw [hone]; rfl)
      rw [stA_next] at M8
      refine ⟨((a + 1 : Nat) : Int), fit ⟨by omega, by omega⟩, ?_⟩
      exact ⟨a + 1, ⟨rfl, rfl, rfl, rfl, rfl, trivial⟩, ⟨hlt, M8⟩, by omega⟩
  · have : a = n := by omega
    subst this
    have ei : natsN a (stA a R a 0) = natsN a (ix a R) := natsN_congr fun k hk => by unfold stA; rw [if_pos hk]
    rw [ei] at M7
    refine loopE C_ok (fun (i : Nat) => [(1, .pointer (some ⟨g1, 0, none⟩)), (4, .slice A5 (natsN a lv).length c5), (5, .slice (some ⟨go, 0, none⟩) a a), (10, .int .i64 i)])
      (fun i w' => i ≤ xs.length ∧ Mem w5 w' [(go, .cells (ints (natsN a (ix a R))).toArray 3 (0, 0))]) (fun i => xs.length - i) 0 ⟨rfl, rfl, rfl, rfl, trivial⟩ ⟨Nat.zero_le _, M7⟩ ?_
    rintro i w8 ⟨hi, M8⟩
    have hb8 := M8.ext.heap hbox5
    refine ⟨_, cell_of_block hb8 rfl, ?_⟩
    refine brE_dec (fun hlt => ?_) (fun hge => ?_)
    · have hlt : i < xs.length := by omega
      obtain ⟨p, q, hp, hq, hpq⟩ := hgood i hlt
      obtain ⟨hpn, hqn, hle, heq, hlt'⟩ := harr p q hpq
      obtain ⟨b, o, hA, hrd⟩ := Reads.arrow (h.reads.ext hE5) hlt
      refine ⟨_, cell_of_block hb8 rfl, ?_⟩
      refine ⟨i, b, o, rfl, hlt, hA, ?_⟩
      refine ⟨xs[i].cells, rfl, M8.oldRd hrd, ?_⟩
      intro g11 w9 h9
      have M9 := M8.alloc h9
      refine ⟨rfl, _, _, M9.get 0 rfl, Nat.le_of_ble_eq_true rfl, rfl, ?_⟩
      intro w10 h10
      have M10 : Mem w5 w10 [(g11, .cells xs[i].cells.toArray 43 (0, 0)), (go, .cells (ints (natsN a (ix a R))).toArray 3 (0, 0))] := M9.put 0 rfl h10
      have cf : w10.cell? ⟨g11, 0, none⟩ = some (.int .i64 (p : Int)) := by rw [← hp]; exact M10.cell 0 rfl rfl
      have ct : w10.cell? ⟨g11, 1, none⟩ = some (.int .i64 (q : Int)) := by rw [← hq]; exact M10.cell 0 rfl rfl
      have atp : w10.cell? ⟨go, 0 + p * 1, none⟩ = some (.int .i64 (ix a R p : Nat)) := by have := M10.rd 1 rfl p _ (natsN_get hpn (ix a R)); simpa using this
      have atq : w10.cell? ⟨go, 0 + q * 1, none⟩ = some (.int .i64 (ix a R q : Nat)) := by have := M10.rd 1 rfl q _ (natsN_get hqn (ix a R)); simpa using this
      obtain ⟨bp, op, hAp, hcp⟩ := Reads.int (hr5.ext M10.ext) (i := p) (by rw [natsN_length]; exact hpn)
      obtain ⟨bq, oq, hAq, hcq⟩ := Reads.int (hr5.ext M10.ext) (i := q) (by rw [natsN_length]; exact hqn)
      rw [natsN_at] at hcp hcq
      have hpl : p < (natsN a lv).length := by rw [natsN_length]; exact hpn
      have hql : q < (natsN a lv).length := by rw [natsN_length]; exact hqn
      have next : IntKind.i64.wrap ((i : Int) + 1) = ((i + 1 : Nat) : Int) := fit ⟨by omega, by omega⟩
      have go1 : i + 1 ≤ xs.length ∧ Mem w5 w10 [(go, .cells (ints (natsN a (ix a R))).toArray 3 (0, 0))] := ⟨hlt, M10.tail⟩
      refine ⟨_, cf, ?_⟩
      refine ⟨p, go, 0, rfl, hpn, rfl, ?_⟩
      refine ⟨_, atp, ?_⟩
      refine ⟨_, ct, ?_⟩
      refine ⟨q, go, 0, rfl, hqn, rfl, ?_⟩
      refine ⟨_, atq, ?_⟩
      refine brE_dec (fun hgt => ?_) (fun _ => ?_)
      · have : ((ix a R p : Nat) : Int) > (ix a R q : Nat) := hgt
        omega
      refine ⟨_, cf, ?_⟩
      refine ⟨p, go, 0, rfl, hpn, rfl, ?_⟩
      refine ⟨_, atp, ?_⟩
      refine ⟨_, ct, ?_⟩
      refine ⟨q, go, 0, rfl, hqn, rfl, ?_⟩
      refine ⟨_, atq, ?_⟩
      refine brE_dec (fun he => ?_) (fun he => ?_)
      · have he : ix a R p = ix a R q := by have : ((ix a R p : Nat) : Int) = (ix a R q : Nat) := he; omega
        have hl := heq he
        refine ⟨_, cf, ?_⟩
        refine ⟨p, bp, op, rfl, hpl, hAp, ?_⟩
        refine ⟨_, by simpa using hcp, ?_⟩
        refine ⟨_, ct, ?_⟩
        refine ⟨q, bq, oq, rfl, hql, hAq, ?_⟩
        refine ⟨_, by simpa using hcq, ?_⟩
        refine brE_mk (fun hb => ?_) (fun _ => ?_)
        · exfalso
          have : ¬ ((lv p : Nat) : Int) = (lv q : Nat) := by simpa using hb
          exact this (by rw [hl])
        refine ⟨_, cf, ?_⟩
        refine ⟨p, go, 0, rfl, hpn, rfl, ?_⟩
        refine ⟨_, atp, ?_⟩
        refine ⟨_, ct, ?_⟩
        refine ⟨q, go, 0, rfl, hqn, rfl, ?_⟩
        refine ⟨_, atq, ?_⟩
        refine brE_dec (fun hb => ?_) (fun _ => ?_)
        · have : ((ix a R p : Nat) : Int) < (ix a R q : Nat) := hb
          omega
        refine ⟨_, next, ?_⟩
        exact ⟨i + 1, ⟨rfl, rfl, rfl, rfl, trivial⟩, go1, by omega⟩
      · have he : ¬ ix a R p = ix a R q := by
          intro e
          have he : ¬ ((ix a R p : Nat) : Int) = (ix a R q : Nat) := he
          exact he (by rw [e])
        have hl := hlt' (by omega)
        refine ⟨_, cf, ?_⟩
        refine ⟨p, go, 0, rfl, hpn, rfl, ?_⟩
        refine ⟨_, atp, ?_⟩
        refine ⟨_, ct, ?_⟩
        refine ⟨q, go, 0, rfl, hqn, rfl, ?_⟩
        refine ⟨_, atq, ?_⟩
        refine brE_dec (fun _ => ?_) (fun hb => ?_)
        · refine ⟨_, cf, ?_⟩
          refine ⟨p, bp, op, rfl, hpl, hAp, ?_⟩
          refine ⟨_, by simpa using hcp, ?_⟩
          refine ⟨_, ct, ?_⟩
          refine ⟨q, bq, oq, rfl, hql, hAq, ?_⟩
          refine ⟨_, by simpa using hcq, ?_⟩
          refine brE_dec (fun hb => ?_) (fun _ => ?_)
          · have : ((lv p : Nat) : Int) ≥ (lv q : Nat) := hb
            omega
          refine ⟨_, next, ?_⟩
          exact ⟨i + 1, ⟨rfl, rfl, rfl, rfl, trivial⟩, go1, by omega⟩
        · have : ¬ ((ix a R p : Nat) : Int) < (ix a R q : Nat) := hb
          omega
    · exact stop (hE5.trans M8.ext)

end Go.Proofs.Ytdfhfehlmonjjaa
