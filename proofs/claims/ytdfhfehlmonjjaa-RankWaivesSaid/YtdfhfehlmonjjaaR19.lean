/- The laws' functions: RankTransitive, RankChains. -/
import Derived.Test.YtdfhfehlmonjjaaR18
namespace Go.Proofs.Ytdfhfehlmonjjaa
open Go.Eng Go.RowKit

theorem standR_one {R : Nat → Nat → Bool} {a b : Nat} : standR R a b = 1 ↔ a ≠ b ∧ R a b = true ∧ R b a = false := by
  unfold standR
  by_cases h : a = b
  · simp [h]
  · cases R a b <;> cases R b a <;> simp [h]

theorem standS_one {N : Int} {xs : List Arrow} {a b : Int} : standS N xs a b = 1 ↔ chk N xs = 0 ∧ inR N a = true ∧ inR N b = true ∧ standR (reach (toM xs)) a.toNat b.toNat = 1 := by
  unfold standS
  by_cases h : chk N xs = 0
  · rw [if_pos h]
    by_cases h2 : (inR N a && inR N b) = true
    · rw [if_pos h2]
      rw [Bool.and_eq_true] at h2
      simp only [h, h2.1, h2.2, true_and]
    · rw [if_neg h2]
      rw [Bool.and_eq_true] at h2
      constructor
      · intro e; cases e
      · rintro ⟨_, h3, h4, _⟩; exact absurd ⟨h3, h4⟩ h2
  · rw [if_neg h]
    constructor
    · intro e; cases e
    · rintro ⟨h3, _⟩; exact absurd h3 h

theorem standS_trans {N : Int} {xs : List Arrow} {a b c : Int} (h : standS N xs a b = 1) (k : standS N xs b c = 1) : standS N xs a c = 1 := by
  obtain ⟨h0, ha, hb, h1⟩ := standS_one.1 h
  obtain ⟨_, _, hc, k1⟩ := standS_one.1 k
  obtain ⟨hne, hab, hba⟩ := standR_one.1 h1
  obtain ⟨kne, kbc, kcb⟩ := standR_one.1 k1
  refine standS_one.2 ⟨h0, ha, hc, standR_one.2 ⟨?_, ?_, ?_⟩⟩
  · intro e
    rw [← e] at kcb
    rw [hab] at kcb; cases kcb
  · rw [reach_iff] at *
    exact hab.trans kbc
  · rw [reach_false] at *
    intro hca
    exact kcb (hca.trans (reach_iff.1 hab))

theorem RankTransitive_spec {N : Int} {A : Option Addr} {xs : List Arrow} {c : Nat} {w : World} (h : HRel w N A xs c) (i j k : Int) :
    CallsV C.P 4 #[relVal N A xs.length c, .int .i64 i, .int .i64 j, .int .i64 k] w fun v w' => v = .bool true ∧ Ext w w' := by
  refine callsV_of C_ok (args := [_, _, _, _]) (plans := []) Try.func4 rfl Try.ntmps4 (by kernel_rfl) (Nat.le_of_ble_eq_true rfl) ?_
  intro g1 w1 h1
  have M1 := (Mem.start w).alloc h1
  refine ⟨[.int .i64 N, .slice A xs.length c], rfl, M1.rd 0 rfl, ?_⟩
  refine (huge_spec w1).mono ?_
  rintro v w2 ⟨rfl, e2⟩
  have M2 := M1.grow e2
  have stop : ∀ {w' : World}, Ext w w' → CallsV C.P 16 #[] w' fun v w'' => v = .bool true ∧ Ext w w'' := fun e => (stands_spec _).mono fun v w'' hh => ⟨hh.1, e.trans hh.2⟩
  refine brE_mk (fun _ => ?_) (fun _ => ?_)
  · exact stop M2.ext
  refine ⟨[.int .i64 N, .slice A xs.length c], rfl, M2.rd 0 rfl, ?_⟩
  refine (Standing_spec (h.ext M2.ext) i j).mono ?_
  rintro v w3 ⟨rfl, e3⟩
  have M3 := M2.grow e3
  refine brE_dec (fun s1 => ?_) (fun _ => ?_)
  · refine ⟨[.int .i64 N, .slice A xs.length c], rfl, M3.rd 0 rfl, ?_⟩
    refine (Standing_spec (h.ext M3.ext) j k).mono ?_
    rintro v w4 ⟨rfl, e4⟩
    have M4 := M3.grow e4
    refine brE_dec (fun s2 => ?_) (fun _ => ?_)
    · refine ⟨[.int .i64 N, .slice A xs.length c], rfl, M4.rd 0 rfl, ?_⟩
      refine (Standing_spec (h.ext M4.ext) i k).mono ?_
      rintro v w5 ⟨hv5, e5⟩
      rw [standS_trans s1 s2] at hv5
      subst hv5
      exact stop (M4.grow e5).ext
    · exact stop M4.ext
  · exact stop M3.ext

/-! ### chains, plain -/
theorem follow_ok {n : Nat} {T : Nat → Nat → Bool} (hT : Inside n T) (hn : n ≤ 24) {b : Nat} : ∀ (k x : Nat), dist T b x = k + 1 →
    (follow T (dist T b) x k).length = k ∧ (∀ z ∈ follow T (dist T b) x k, ∃ m : Nat, z = (m : Int) ∧ m < n) ∧ linksB T ((x : Int) :: (follow T (dist T b) x k ++ [(b : Int)])) = true
  | 0, x, h => by
    refine ⟨rfl, fun z hz => by simp [follow] at hz, ?_⟩
    simp [follow, linksB]
    exact dist_one.1 h
  | k + 1, x, h => by
    obtain ⟨_, y0, hty0, hy0⟩ := (dist_next (by omega : 2 ≤ k + 1 + 1)).1 h
    have hy24 : y0 < 24 := by have := hT _ _ hty0; omega
    obtain ⟨i, hi, ei⟩ := members_mem hy24 hty0
    rw [follow]
    cases hf : (members (T x)).find? fun y => decide (dist T b y.toNat = k + 1) with
    | none =>
      rw [List.find?_eq_none] at hf
      have := hf _ (List.getElem_mem hi)
      rw [ei] at this
      simp at this
      omega
    | some y =>
      have hp := List.find?_some hf
      have hm := List.mem_of_find?_eq_some hf
      obtain ⟨j, hj, ej⟩ := List.getElem_of_mem hm
      obtain ⟨m, em, hm24, htm⟩ := members_get hj
      rw [ej] at em
      subst em
      simp at hp
      have ih := follow_ok hT hn k m hp
      refine ⟨by simp [ih.1], ?_, ?_⟩
      · intro z hz
        rcases List.mem_cons.1 hz with rfl | hz
        · exact ⟨m, rfl, (hT _ _ htm).2⟩
        · exact ih.2.1 z hz
      · simp only [Int.toNat_natCast] at ih ⊢
        rw [List.cons_append, linksB, Bool.and_eq_true]
        exact ⟨by simpa using htm, ih.2.2⟩

theorem chainL_length {n : Nat} {T : Nat → Nat → Bool} (hT : Inside n T) (hn : n ≤ 24) {a b : Nat} (h : Path T a b) : (chainL T a b).length = dist T b a + 1 := by
  have h0 : dist T b a ≠ 0 := fun e => dist_zero.1 e h
  obtain ⟨k, hk⟩ : ∃ k, dist T b a = k + 1 := ⟨dist T b a - 1, by omega⟩
  have := (follow_ok hT hn k a hk).1
  rw [chainL, hk]
  simp [this]

theorem chain_checks {N : Int} {xs : List Arrow} {a b : Int} {l : List Int} (h : chainS N xs a b = some l) : checkS N xs a b l = true := by
  unfold chainS at h
  split at h
  · rename_i hc
    obtain ⟨hv, hin, hr⟩ := hc
    have hok := valid_of_chk hv
    have hin' := Bool.and_eq_true_iff.1 hin
    obtain ⟨p, rfl, hp⟩ := inR_nat hin'.1
    obtain ⟨q, rfl, hq⟩ := inR_nat hin'.2
    simp only [Int.toNat_natCast, Option.some.injEq] at h hr
    have hpath := reach_iff.1 hr
    have h0 : dist (toM xs) q p ≠ 0 := fun e => dist_zero.1 e hpath
    obtain ⟨k, hk⟩ : ∃ k, dist (toM xs) q p = k + 1 := ⟨dist (toM xs) q p - 1, by omega⟩
    have hhi := hok.hi
    have hlo := hok.lo
    obtain ⟨h1, h2, h3⟩ := follow_ok hok.inside (by omega) k p hk
    have e : l = (p : Int) :: (follow (toM xs) (dist (toM xs) q) p k ++ [(q : Int)]) := by rw [← h, chainL, hk]; rfl
    subst e
    unfold checkS chainOk
    rw [h3, hv]
    have hall : ((p : Int) :: (follow (toM xs) (dist (toM xs) q) p k ++ [(q : Int)])).all (inR N) = true := by
      rw [List.all_eq_true]
      intro z hz
      simp only [List.mem_cons, List.mem_append, List.not_mem_nil, or_false] at hz
      rcases hz with rfl | hz | rfl
      · exact hin'.1
      · obtain ⟨m, rfl, hm⟩ := h2 z hz
        simp; omega
      · exact hin'.2
    rw [hall, hin'.1, hin'.2]
    have hlast : ((p : Int) :: (follow (toM xs) (dist (toM xs) q) p k ++ [(q : Int)])).getLast? = some (q : Int) := by
      rw [← List.cons_append, List.getLast?_append]; simp
    rw [hlast]
    simp
  · cases h

theorem links_walk {T : Nat → Nat → Bool} {b : Int} : ∀ {l : List Int} {x : Int}, linksB T (x :: l) = true → (x :: l).getLast? = some b → walk T b.toNat l.length x.toNat
  | [], x, _, h => by
    have h : x = b := by simpa using h
    subst h; rfl
  | y :: r, x, hl, h => by
    rw [linksB, Bool.and_eq_true] at hl
    rw [List.getLast?_cons_cons] at h
    exact ⟨y.toNat, hl.1, links_walk hl.2 h⟩

theorem check_chain {N : Int} {xs : List Arrow} {a b : Int} {l : List Int} (h : checkS N xs a b l = true) : ∃ m, chainS N xs a b = some m ∧ m.length ≤ l.length := by
  unfold checkS chainOk at h
  simp only [Bool.and_eq_true, decide_eq_true_eq, Bool.not_eq_true', decide_eq_false_iff_not] at h
  obtain ⟨hv, ⟨⟨⟨⟨⟨ha, hb⟩, _⟩, h2⟩, hhead⟩, hlast⟩, hlinks⟩ := h
  have hok := valid_of_chk hv
  have hhi := hok.hi
  have hlo := hok.lo
  match l, h2, hhead, hlast, hlinks with
  | [_], h2, _, _, _ => exact absurd (by simp) h2
  | x :: y :: r, _, hhead, hlast, hlinks =>
    have hx : x = a := by simpa using hhead
    subst hx
    have hw := links_walk hlinks hlast
    have hw : walk (toM xs) b.toNat (r.length + 1) x.toNat := hw
    have hpath := walk_path hw
    have hin : (inR N x && inR N b) = true := by
      rw [Bool.and_eq_true]; exact ⟨decide_eq_true ha, decide_eq_true hb⟩
    refine ⟨chainL (toM xs) x.toNat b.toNat, ?_, ?_⟩
    · rw [chainS, if_pos ⟨hv, hin, reach_iff.2 hpath⟩]
    · rw [chainL_length hok.inside (by omega) hpath]
      obtain ⟨j, hj, hjk⟩ := isDist_of_walk (by omega) hw
      rw [dist_eq hj]
      simp; omega

theorem check_nil (N : Int) (xs : List Arrow) (a b : Int) : checkS N xs a b [] = false := by simp [checkS, chainOk]

theorem ownsRow_len {w : World} {base e size n : Nat} {v : Value} {us : List Value} (h : w.ownsRow base e size v n us) : n ≤ 9223372036854775807 := by
  obtain ⟨_, ⟨_, rfl⟩ | ⟨_, cap, _, _, _, _, h1, h2, _⟩⟩ := h
  · omega
  · simp only [maxLen] at h2; omega

theorem RankChains_spec {N : Int} {A B : Option Addr} {xs : List Arrow} {c d : Nat} {w : World} (h : HRel w N A xs c) (i j : Int) {l : List Int} (hr : Reads w B (ints l)) :
    CallsV C.P 5 #[relVal N A xs.length c, .int .i64 i, .int .i64 j, .slice B l.length d] w fun v w' => v = .bool true ∧ Ext w w' := by
  refine callsV_of C_ok (args := [_, _, _, _]) (plans := []) Try.func5 rfl Try.ntmps5 (by kernel_rfl) (Nat.le_of_ble_eq_true rfl) ?_
  intro g1 w1 h1
  have M1 := (Mem.start w).alloc h1
  refine ⟨[.int .i64 N, .slice A xs.length c], rfl, M1.rd 0 rfl, ?_⟩
  refine (huge_spec w1).mono ?_
  rintro v w2 ⟨rfl, e2⟩
  have M2 := M1.grow e2
  have stop : ∀ {w' : World}, Ext w w' → CallsV C.P 16 #[] w' fun v w'' => v = .bool true ∧ Ext w w'' := fun e => (stands_spec _).mono fun v w'' hh => ⟨hh.1, e.trans hh.2⟩
  refine brE_mk (fun _ => ?_) (fun _ => ?_)
  · exact stop M2.ext
  refine brE_dec (fun _ => ?_) (fun h60 => ?_)
  · exact stop M2.ext
  have hl : l.length ≤ 60 := by have : ¬ (l.length : Int) > 60 := h60; omega
  refine ⟨[.int .i64 N, .slice A xs.length c], rfl, M2.rd 0 rfl, ?_⟩
  refine (Chain_spec (h.ext M2.ext) i j).mono ?_
  rintro v w3 hc
  cases hs : chainS N xs i j with
  | none =>
    rw [hs] at hc
    obtain ⟨rfl, e3⟩ := hc
    have M3 := M2.grow e3
    refine ⟨[.int .i64 N, .slice A xs.length c], rfl, M3.rd 0 rfl, ?_⟩
    refine (CheckChain_spec (l := []) (h.ext M3.ext) i j (.inl rfl) (by simp)).mono ?_
    rintro v w4 ⟨hv, e4⟩
    rw [check_nil] at hv
    subst hv
    have M4 := M3.grow e4
    refine ⟨_, neqBool _ _ _ _, ?_⟩
    refine ⟨[.int .i64 N, .slice A xs.length c], rfl, M4.rd 0 rfl, ?_⟩
    refine (CheckChain_spec (l := l) (h.ext M4.ext) i j (hr.ext M4.ext) (by omega)).mono ?_
    rintro v w5 ⟨hv, e5⟩
    have hno : checkS N xs i j l = false := by
      cases hk : checkS N xs i j l with
      | false => rfl
      | true =>
        obtain ⟨m, hm, _⟩ := check_chain hk
        rw [hs] at hm; cases hm
    rw [hno] at hv
    subst hv
    have M5 := M4.grow e5
    refine (stands_spec w5).mono ?_
    rintro v w6 ⟨rfl, e6⟩
    exact ⟨rfl, M5.ext.trans e6⟩
  | some m =>
    rw [hs] at hc
    obtain ⟨⟨s, rfl, hm⟩, e3⟩ := hc
    have M3 := M2.grow e3
    obtain ⟨Am, cm, rfl, hrm, _⟩ := hm.slice
    have hok : checkS N xs i j m = true := chain_checks hs
    refine ⟨[.int .i64 N, .slice A xs.length c], rfl, M3.rd 0 rfl, ?_⟩
    refine (CheckChain_spec (l := m) (h.ext M3.ext) i j hrm ?_).mono ?_
    · exact ownsRow_len hm
    rintro v w4 ⟨hv, e4⟩
    rw [hok] at hv
    subst hv
    have M4 := M3.grow e4
    refine ⟨_, neqBool _ _ _ _, ?_⟩
    refine ⟨[.int .i64 N, .slice A xs.length c], rfl, M4.rd 0 rfl, ?_⟩
    refine (CheckChain_spec (l := l) (h.ext M4.ext) i j (hr.ext M4.ext) (by omega)).mono ?_
    rintro v w5 ⟨rfl, e5⟩
    have M5 := M4.grow e5
    have fin : CallsV C.P 16 #[] w5 fun v w'' => v = .bool true ∧ Ext w w'' := stop M5.ext
    refine brE_mk (fun hk => ?_) (fun hk => ?_)
    · obtain ⟨m', hm', hle⟩ := check_chain hk
      rw [hs] at hm'
      cases hm'
      refine brE_dec (fun hlt => ?_) (fun _ => ?_)
      · have : (l.length : Int) < m.length := hlt
        omega
      · refine fin.mono ?_
        rintro v w6 ⟨rfl, e6⟩
        exact ⟨rfl, e6⟩
    · refine fin.mono ?_
      rintro v w6 ⟨rfl, e6⟩
      exact ⟨rfl, e6⟩

end Go.Proofs.Ytdfhfehlmonjjaa
