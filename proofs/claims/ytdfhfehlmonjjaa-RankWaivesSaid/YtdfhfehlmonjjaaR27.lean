/- A relation checked by the reference; the law's function: RankChecks. -/
import Derived.Test.YtdfhfehlmonjjaaR26
namespace Go.Proofs.Ytdfhfehlmonjjaa
open Go.Eng Go.RowKit

theorem goodA_no {N : Int} {x : Arrow} (h : ¬ (0 ≤ x.fr ∧ x.fr ≤ N - 1 ∧ 0 ≤ x.to ∧ x.to ≤ N - 1 ∧ x.fr ≠ x.to ∧ 0 ≤ x.rule ∧ x.rule ≤ 23 ∧ 1 ≤ x.wt ∧ x.wt ≤ 1000)) : goodA N x = false := by
  cases hg : goodA N x with
  | false => rfl
  | true => exact absurd (goodA_spec hg) h
theorem goodA_yes {N : Int} {x : Arrow} (h : 0 ≤ x.fr ∧ x.fr ≤ N - 1 ∧ 0 ≤ x.to ∧ x.to ≤ N - 1 ∧ x.fr ≠ x.to ∧ 0 ≤ x.rule ∧ x.rule ≤ 23 ∧ 1 ≤ x.wt ∧ x.wt ≤ 1000) : goodA N x = true := by
  obtain ⟨a, b, c, d, e, f, g, i, j⟩ := h
  simp [goodA, a, b, c, d, e, f, g, i, j]

theorem refCheck_spec {N : Int} {A : Option Addr} {xs : List Arrow} {c : Nat} {w : World} (h : HRel w N A xs c) : CallsV C.P 28 #[relVal N A xs.length c] w fun v w' => v = .int .i64 (chk N xs) ∧ Ext w w' := by
  have hcap := h.cap
  refine callsV_of C_ok (args := [_]) (plans := []) Try.func28 rfl Try.ntmps28 (by kernel_rfl) (Nat.le_of_ble_eq_true rfl) ?_
  intro g1 w1 h1
  have M1 := (Mem.start w).alloc h1
  refine ⟨_, M1.cell 0 rfl rfl, ?_⟩
  refine brE_dec (fun hN => ?_) (fun hN => ?_)
  · exact ⟨by rw [chk_big hN], M1.ext⟩
  refine ⟨_, M1.cell 0 rfl rfl, ?_⟩
  refine brE_dec (fun hN0 => ?_) (fun hN0 => ?_)
  · exact ⟨by rw [chk_neg hN hN0], M1.ext⟩
  have hN' : ¬ N > 24 := hN
  have hN0' : ¬ N < 0 := hN0
  refine loopE C_ok (fun i : Nat => [(1, .pointer (some ⟨g1, 0, none⟩)), (3, .int .i64 i)])
    (fun i w' => Mem w w' [(g1, .cells #[.int .i64 N, .slice A xs.length c] 24 (0, 0))] ∧ i ≤ xs.length ∧ ∀ j < i, okAt N xs j = true) (fun i => xs.length - i) 0 ⟨rfl, rfl, trivial⟩ ⟨M1, Nat.zero_le _, by simp⟩ ?_
  rintro i w2 ⟨M2, hi, hall⟩
  refine ⟨_, M2.cell 0 rfl rfl, ?_⟩
  refine brE_dec (fun hlt => ?_) (fun hge => ?_)
  · have hlt : i < xs.length := by omega
    obtain ⟨b, o, hA, hr⟩ := Reads.arrow h.reads hlt
    refine ⟨_, M2.cell 0 rfl rfl, ?_⟩
    refine ⟨i, b, o, rfl, hlt, hA, ?_⟩
    refine ⟨xs[i].cells, rfl, M2.oldRd hr, ?_⟩
    intro g3 w3 h3
    have M3 := M2.alloc h3
    refine ⟨rfl, _, _, M3.get 0 rfl, Nat.le_of_ble_eq_true rfl, rfl, ?_⟩
    intro w4 h4
    have M4 : Mem w w4 [(g3, .cells xs[i].cells.toArray 43 (0, 0)), (g1, .cells #[.int .i64 N, .slice A xs.length c] 24 (0, 0))] := M3.put 0 rfl h4
    have bad : ∀ {w' : World}, Ext w w' → goodA N xs[i] = false → (Value.int IntKind.i64 1 = .int .i64 (chk N xs)) ∧ Ext w w' := fun he hb =>
      ⟨by rw [chk_bad hN hN0 hlt (by unfold okAt; simp [hlt, hb])], he⟩
    refine ⟨_, M4.cell 0 rfl rfl, ?_⟩
    refine brE_dec (fun c1 => ?_) (fun c1 => ?_)
    · have c1 : xs[i].fr < 0 := c1
      exact bad M4.ext (goodA_no fun hh => by omega)
    have c1 : ¬ xs[i].fr < 0 := c1
    refine ⟨_, M4.cell 0 rfl rfl, ?_⟩
    refine ⟨_, M4.cell 1 rfl rfl, ?_⟩
    refine brE_dec (fun c2 => ?_) (fun c2 => ?_)
    · have c2 : xs[i].fr ≥ N := c2
      exact bad M4.ext (goodA_no fun hh => by omega)
    have c2 : ¬ xs[i].fr ≥ N := c2
    refine ⟨_, M4.cell 0 rfl rfl, ?_⟩
    refine brE_dec (fun c3 => ?_) (fun c3 => ?_)
    · have c3 : xs[i].to < 0 := c3
      exact bad M4.ext (goodA_no fun hh => by omega)
    have c3 : ¬ xs[i].to < 0 := c3
    refine ⟨_, M4.cell 0 rfl rfl, ?_⟩
    refine ⟨_, M4.cell 1 rfl rfl, ?_⟩
    refine brE_dec (fun c4 => ?_) (fun c4 => ?_)
    · have c4 : xs[i].to ≥ N := c4
      exact bad M4.ext (goodA_no fun hh => by omega)
    have c4 : ¬ xs[i].to ≥ N := c4
    refine ⟨_, M4.cell 0 rfl rfl, ?_⟩
    refine ⟨_, M4.cell 0 rfl rfl, ?_⟩
    refine brE_dec (fun c5 => ?_) (fun c5 => ?_)
    · have c5 : xs[i].fr = xs[i].to := c5
      exact bad M4.ext (goodA_no fun hh => by omega)
    have c5 : ¬ xs[i].fr = xs[i].to := c5
    refine ⟨_, M4.cell 0 rfl rfl, ?_⟩
    refine brE_dec (fun c6 => ?_) (fun c6 => ?_)
    · have c6 : xs[i].rule < 0 := c6
      exact bad M4.ext (goodA_no fun hh => by omega)
    have c6 : ¬ xs[i].rule < 0 := c6
    refine ⟨_, M4.cell 0 rfl rfl, ?_⟩
    refine brE_dec (fun c7 => ?_) (fun c7 => ?_)
    · have c7 : xs[i].rule > 23 := c7
      exact bad M4.ext (goodA_no fun hh => by omega)
    have c7 : ¬ xs[i].rule > 23 := c7
    refine ⟨_, M4.cell 0 rfl rfl, ?_⟩
    refine brE_dec (fun c8 => ?_) (fun c8 => ?_)
    · have c8 : xs[i].wt < 1 := c8
      exact bad M4.ext (goodA_no fun hh => by omega)
    have c8 : ¬ xs[i].wt < 1 := c8
    refine ⟨_, M4.cell 0 rfl rfl, ?_⟩
    refine brE_dec (fun c9 => ?_) (fun c9 => ?_)
    · have c9 : xs[i].wt > 1000 := c9
      exact bad M4.ext (goodA_no fun hh => by omega)
    have c9 : ¬ xs[i].wt > 1000 := c9
    have hgood : goodA N xs[i] = true := goodA_yes (by omega)
    refine brE_dec (fun hi0 => ?_) (fun hi0 => ?_)
    · obtain ⟨j, rfl⟩ : ∃ j, i = j + 1 := ⟨i - 1, by omega⟩
      have hj : j < xs.length := by omega
      obtain ⟨b', o', hA', hr'⟩ := Reads.arrow h.reads hj
      have worse : ∀ {w' : World}, Ext w w' → ltA xs[j] xs[j + 1] = false → (Value.int IntKind.i64 1 = .int .i64 (chk N xs)) ∧ Ext w w' := fun he hb =>
        ⟨by rw [chk_bad hN hN0 hlt (by unfold okAt; simp [hlt, hj, hb])], he⟩
      refine ⟨_, M4.cell 1 rfl rfl, ?_⟩
      refine ⟨(j : Int), by rw [fit ⟨by omega, by omega⟩]; omega, ?_⟩
      refine ⟨j, b', o', rfl, hj, hA', ?_⟩
      refine ⟨xs[j].cells, rfl, M4.oldRd hr', ?_⟩
      intro g5 w5 h5
      have M5 := M4.alloc h5
      refine ⟨rfl, _, _, M5.get 0 rfl, Nat.le_of_ble_eq_true rfl, rfl, ?_⟩
      intro w6 h6
      have M6 : Mem w w6 [(g5, .cells xs[j].cells.toArray 43 (0, 0)), (g3, .cells xs[j + 1].cells.toArray 43 (0, 0)), (g1, .cells #[.int .i64 N, .slice A xs.length c] 24 (0, 0))] := M5.put 0 rfl h6
      have go1 : ltA xs[j] xs[j + 1] = true → Mem w w6 [(g1, .cells #[.int .i64 N, .slice A xs.length c] 24 (0, 0))] ∧ j + 1 + 1 ≤ xs.length ∧ ∀ k < j + 1 + 1, okAt N xs k = true := fun hl2 => ⟨M6.tail.tail, hlt, fun k hk => by
        rcases Nat.lt_or_ge k (j + 1) with h | h
        · exact hall k h
        · obtain rfl : k = j + 1 := by omega
          unfold okAt; simp [hlt, hj, hgood, hl2]⟩
      have next : IntKind.i64.wrap (((j + 1 : Nat) : Int) + 1) = ((j + 1 + 1 : Nat) : Int) := fit ⟨by omega, by omega⟩
      refine ⟨_, M6.cell 0 rfl rfl, ?_⟩
      refine ⟨_, M6.cell 1 rfl rfl, ?_⟩
      refine brE_dec (fun d1 => ?_) (fun d1 => ?_)
      · have d1 : xs[j].fr > xs[j + 1].fr := d1
        exact worse M6.ext (by unfold ltA; rw [decide_eq_false]; omega)
      have d1 : ¬ xs[j].fr > xs[j + 1].fr := d1
      refine ⟨_, M6.cell 0 rfl rfl, ?_⟩
      refine ⟨_, M6.cell 1 rfl rfl, ?_⟩
      refine brE_dec (fun d2 => ?_) (fun d2 => ?_)
      · have d2 : xs[j].fr = xs[j + 1].fr := d2
        refine ⟨_, M6.cell 0 rfl rfl, ?_⟩
        refine ⟨_, M6.cell 1 rfl rfl, ?_⟩
        refine brE_dec (fun d3 => ?_) (fun d3 => ?_)
        · have d3 : xs[j].to ≥ xs[j + 1].to := d3
          exact worse M6.ext (by unfold ltA; rw [decide_eq_false]; omega)
        · have d3 : ¬ xs[j].to ≥ xs[j + 1].to := d3
          refine ⟨_, next, ?_⟩
          exact ⟨j + 1 + 1, ⟨rfl, rfl, trivial⟩, go1 (by unfold ltA; rw [decide_eq_true]; omega), by omega⟩
      · have d2 : ¬ xs[j].fr = xs[j + 1].fr := d2
        refine ⟨_, next, ?_⟩
        exact ⟨j + 1 + 1, ⟨rfl, rfl, trivial⟩, go1 (by unfold ltA; rw [decide_eq_true]; omega), by omega⟩
    · obtain rfl : i = 0 := by omega
      refine ⟨((0 + 1 : Nat) : Int), fit ⟨by omega, by omega⟩, ?_⟩
      refine ⟨0 + 1, ⟨rfl, rfl, trivial⟩, ⟨M4.tail, hlt, fun k hk => ?_⟩, by omega⟩
      obtain rfl : k = 0 := by omega
      unfold okAt; simp [hlt, hgood]
  · have : i = xs.length := by omega
    subst this
    exact ⟨by rw [chk_ok hN hN0 hall], M2.ext⟩

theorem RankChecks_spec {s : Scn} {B : Option Addr} {gs : List (Int × Int)} {d : Nat} {N : Int} {A : Option Addr} {xs : List Arrow} {c : Nat} {w : World} (hg : Reads w B (prCells gs)) (h : HRel w N A xs c) :
    CallsV C.P 8 #[s.val, .slice B gs.length d, relVal N A xs.length c] w fun v w' => v = .bool true ∧ Ext w w' := by
  refine callsV_of C_ok (args := [_, _, _]) (plans := plans8) Try.func8 rfl Try.ntmps8 (by kernel_rfl) (Nat.le_of_ble_eq_true rfl) ?_
  intro g3 w1 h1
  intro g5 w2 h2
  have M2 := ((Mem.start w).alloc h1).alloc h2
  refine ⟨[.int .i64 N, .slice A xs.length c], rfl, M2.rd 0 rfl, ?_⟩
  refine (huge_spec w2).mono ?_
  rintro v w3 ⟨rfl, e3⟩
  have M3 := M2.grow e3
  have stop : ∀ {w' : World}, Ext w w' → CallsV C.P 16 #[] w' fun v w'' => v = .bool true ∧ Ext w w'' := fun e => (stands_spec _).mono fun v w'' hh => ⟨hh.1, e.trans hh.2⟩
  refine brE_mk (fun _ => ?_) (fun _ => ?_)
  · exact stop M3.ext
  refine brE_mk (fun _ => ?_) (fun _ => ?_)
  · exact stop M3.ext
  refine (stands_spec w3).mono ?_
  rintro v w4 ⟨rfl, e4⟩
  have M4 := M3.grow e4
  refine ⟨s.cells, rfl, M4.rd 1 rfl, ?_⟩
  refine ⟨s.cells, rfl, M4.rd 1 rfl, ?_⟩
  refine (CheckScene_spec s w4).mono ?_
  rintro v w5 ⟨rfl, e5⟩
  refine ⟨e5, ?_⟩
  have M5 := M4.grow e5
  refine (refScene_spec s w5).mono ?_
  rintro v w6 ⟨rfl, e6⟩
  have M6 := M5.grow e6
  refine brE_true (by simp) ?_
  refine (CheckGuests_spec (hg.ext M6.ext)).mono ?_
  rintro v w7 ⟨rfl, e7⟩
  refine ⟨e7, ?_⟩
  have M7 := M6.grow e7
  refine (refGuests_spec (hg.ext M7.ext)).mono ?_
  rintro v w8 ⟨rfl, e8⟩
  have M8 := M7.grow e8
  refine brE_true (by simp) ?_
  refine ⟨[.int .i64 N, .slice A xs.length c], rfl, M8.rd 0 rfl, ?_⟩
  refine ⟨[.int .i64 N, .slice A xs.length c], rfl, M8.rd 0 rfl, ?_⟩
  refine (Check_spec (h.ext M8.ext)).mono ?_
  rintro v w9 ⟨rfl, e9⟩
  refine ⟨e9, ?_⟩
  have M9 := M8.grow e9
  refine (refCheck_spec (h.ext M9.ext)).mono ?_
  rintro v w10 ⟨rfl, e10⟩
  exact ⟨by simp, (M9.grow e10).ext⟩

end Go.Proofs.Ytdfhfehlmonjjaa
