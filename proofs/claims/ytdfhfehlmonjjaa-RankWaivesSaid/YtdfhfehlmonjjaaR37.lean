/- The law's function: RankWaives. -/
import Derived.Test.YtdfhfehlmonjjaaR36
namespace Go.Proofs.Ytdfhfehlmonjjaa
open Go.Eng Go.RowKit

theorem NewRel.hrel' {B : Nat} {w : World} {N : Int} {xs ys : List Arrow} {A A' : Option Addr} {c c' : Nat} (h : HRel w N A xs c) (hs : ∀ x ∈ ys, x ∈ xs) (hl : ys.length ≤ xs.length) {w' : World} (ho : w'.ownsRow B 43 4 (.slice A' ys.length c') ys.length (arrows ys)) : HRel w' N A' ys c' := by
  have hcap := h.cap
  obtain ⟨A2, c2, e, hr, hc⟩ := reads_of_owns ho
  cases e
  exact ⟨h.num, fun x hx => h.nums x (hs x hx), hr, hc, by omega⟩

theorem RankWaives_spec {N : Int} {A B : Option Addr} {xs : List Arrow} {c d : Nat} {ps : List (Int × Int)} {w : World} (h : HRel w N A xs c) (hr : Reads w B (prCells ps)) (hp : ∀ p ∈ ps, In64 p.1 ∧ In64 p.2) :
    CallsV C.P 10 #[relVal N A xs.length c, .slice B ps.length d] w fun v w' => v = .bool true ∧ Ext w w' := by
  refine callsV_of C_ok (args := [_, _]) (plans := []) Try.func10 rfl Try.ntmps10 (by kernel_rfl) (Nat.le_of_ble_eq_true rfl) ?_
  intro g2 w1 h1
  have M1 := (Mem.start w).alloc h1
  refine ⟨[.int .i64 N, .slice A xs.length c], rfl, M1.rd 0 rfl, ?_⟩
  refine (huge_spec w1).mono ?_
  rintro v w2 ⟨rfl, e2⟩
  have M2 := M1.grow e2
  have stop : ∀ {w' : World}, Ext w w' → CallsV C.P 16 #[] w' fun v w'' => v = .bool true ∧ Ext w w'' := fun e => (stands_spec _).mono fun v w'' hh => ⟨hh.1, e.trans hh.2⟩
  refine brE_dec (fun _ => ?_) (fun h600 => ?_)
  · exact stop M2.ext
  have hx6 : xs.length ≤ 600 := by have : ¬ (xs.length : Int) > 600 := h600; omega
  refine brE_dec (fun _ => ?_) (fun h60 => ?_)
  · exact stop M2.ext
  have hpl : ps.length ≤ 60 := by have : ¬ (ps.length : Int) > 60 := h60; omega
  refine ⟨[.int .i64 N, .slice A xs.length c], rfl, M2.rd 0 rfl, ?_⟩
  refine (Check_spec (h.ext M2.ext)).mono ?_
  rintro v w3 ⟨rfl, e3⟩
  have M3 := M2.grow e3
  refine brE_mk (fun hb => ?_) (fun hb => ?_)
  · exact stop M3.ext
  have hv : chk N xs = 0 := by simpa using hb
  have hok := valid_of_chk hv
  have hhi := hok.hi
  obtain ⟨n, rfl⟩ := Int.eq_ofNat_of_zero_le hok.lo
  have hn : n ≤ 24 := by omega
  have hwl := waiveL_length xs ps
  refine ⟨[.int .i64 n, .slice A xs.length c], rfl, M3.rd 0 rfl, ?_⟩
  refine (Waive_spec (h.ext M3.ext) (by omega) hp (hr.ext M3.ext) (by omega)).mono ?_
  rintro v w4 ⟨⟨u, hv4, hu4⟩, e4⟩
  rw [if_pos hv, if_pos hv] at hu4
  obtain ⟨A4, c4, rfl, ho4⟩ := hu4
  subst hv4
  have M4 := M3.grow e4
  intro g5 w5 h5
  have M5 := M4.alloc h5
  refine ⟨rfl, _, _, M5.get 0 rfl, Nat.le_of_ble_eq_true rfl, rfl, ?_⟩
  intro w6 h6
  have h6 : Put w5 g5 (.cells #[.int .i64 n, .slice A4 (waiveL xs ps).length c4] 24 (0, 0)) w6 := h6
  have M6 : Mem w w6 [(g5, .cells #[.int .i64 n, .slice A4 (waiveL xs ps).length c4] 24 (0, 0)), (g2, .cells #[.int .i64 n, .slice A xs.length c] 24 (0, 0))] := M5.put 0 rfl h6
  have e46 : Ext w4 w6 := h6.ext_of h5.ext (by rw [h5.new]; exact Nat.le_refl _)
  have ho6 : w6.ownsRow w.heap.size 43 4 (.slice A4 (waiveL xs ps).length c4) (waiveL xs ps).length (arrows (waiveL xs ps)) := ownsRow_ext (ownsRow_base ho4 M3.ext.size) e46
  have hsub : ∀ x ∈ waiveL xs ps, x ∈ xs := fun x hx => (waive_mem.1 hx).1
  refine brE_false (by rw [hv]; rfl) ?_
  refine ⟨_, M6.cell 0 rfl rfl, ?_⟩
  refine ⟨_, M6.cell 1 rfl rfl, ?_⟩
  refine brE_false (by simp) ?_
  refine loopE C_ok (fun (s : Nat × Value) => [(1, .slice B ps.length d), (2, .pointer (some ⟨g2, 0, none⟩)), (5, .pointer (some ⟨g5, 0, none⟩)), (7, s.2), (8, .int .i64 s.1)])
    (fun s w' => s.1 ≤ xs.length ∧ Ext w w' ∧ w'.heap[g5]? = some (.cells #[.int .i64 n, .slice A4 (waiveL xs ps).length c4] 24 (0, 0)) ∧ w'.heap[g2]? = some (.cells #[.int .i64 n, .slice A xs.length c] 24 (0, 0)) ∧
      w'.ownsRow w.heap.size 43 4 (.slice A4 (waiveL xs ps).length c4) (waiveL xs ps).length (arrows (waiveL xs ps)) ∧ Prs w.heap.size w' s.2 (backL (xs.take s.1))) (fun s => xs.length - s.1) (0, .slice none 0 0)
    ⟨rfl, rfl, rfl, rfl, rfl, trivial⟩ ⟨Nat.zero_le _, M6.ext, M6.get 0 rfl, M6.get 1 rfl, ho6, prs_nil _ _⟩ ?_
  rintro ⟨i, v⟩ w7 ⟨hi, E7, hg5, hg2, ho7, hb7⟩
  have hi : i ≤ xs.length := hi
  have hb7 : Prs w.heap.size w7 v (backL (xs.take i)) := hb7
  refine ⟨_, cell_of_block hg2 rfl, ?_⟩
  refine brE_dec (fun hlt => ?_) (fun hge => ?_)
  · have hlt : i < xs.length := by have : (i : Int) < (xs.length : Nat) := hlt; omega
    obtain ⟨b, o, hA, hc⟩ := Reads.arrow h.reads hlt
    have next : IntKind.i64.wrap ((i : Int) + 1) = ((i + 1 : Nat) : Int) := fit ⟨by omega, by omega⟩
    refine ⟨_, cell_of_block hg2 rfl, ?_⟩
    refine ⟨i, b, o, rfl, hlt, hA, ?_⟩
    refine ⟨xs[i].cells, rfl, hc.ext E7, ?_⟩
    intro g9 w8 h8
    refine ⟨rfl, _, _, h8.here, Nat.le_of_ble_eq_true rfl, rfl, ?_⟩
    intro w9 h9
    have h9 : Put w8 g9 (.cells xs[i].cells.toArray 43 (0, 0)) w9 := h9
    have e79 : Ext w7 w9 := h9.ext_of h8.ext (by rw [h8.new]; exact Nat.le_refl _)
    have ho9 := ownsRow_ext ho7 e79
    refine ⟨[.int .i64 n, .slice A4 (waiveL xs ps).length c4], rfl, Rd.of_block (e79.heap hg5), ?_⟩
    refine ⟨_, cell_of_block h9.here rfl, ?_⟩
    refine ⟨_, cell_of_block h9.here rfl, ?_⟩
    refine (Arrow_spec (NewRel.hrel' h hsub hwl ho9) (by omega) xs[i].fr xs[i].to).mono ?_
    rintro v10 w10 ⟨rfl, e10⟩
    rw [waive_arrow hok hlt]
    have hq : (if (xs[i].fr, xs[i].to) ∈ ps then none else some xs[i] : Option Arrow).isSome = !decide ((xs[i].fr, xs[i].to) ∈ ps) := by split <;> simp_all
    have hs : ∀ y, (if (xs[i].fr, xs[i].to) ∈ ps then none else some xs[i] : Option Arrow) = some y → y = xs[i] := fun y => by split <;> simp_all
    generalize (if (xs[i].fr, xs[i].to) ∈ ps then none else some xs[i] : Option Arrow) = r at *
    intro g11 w11 h11
    refine ⟨rfl, _, _, h11.here, Nat.le_of_ble_eq_true rfl, rfl, ?_⟩
    intro w12 h12
    have h12 : Put w11 g11 (.cells (r.getD arrowZ).cells.toArray 43 (0, 0)) w12 := h12
    have e1012 : Ext w10 w12 := h12.ext_of h11.ext (by rw [h11.new]; exact Nat.le_refl _)
    have e12 := (e79.trans e10).trans e1012
    have hg9 := e1012.heap (e10.heap h9.here)
    refine ⟨_, cell_of_block hg9 rfl, ?_⟩
    refine ⟨_, cell_of_block hg9 rfl, ?_⟩
    refine (Has_spec (hr.ext (E7.trans e12)) (by omega) xs[i].fr xs[i].to).mono ?_
    rintro v13 w13 ⟨rfl, rfl⟩
    refine ⟨false, eqUnlike4 _ _ (by rw [hq]; cases decide ((xs[i].fr, xs[i].to) ∈ ps) <;> rfl), ?_⟩
    have hlen := backL_length (xs.take i)
    have hlen2 : (xs.take i).length ≤ xs.length := by rw [List.length_take]; omega
    have hbt := backL_take hlt
    have ho12 := ownsRow_ext ho7 e12
    refine brE_mk (fun hsm => ?yes) (fun hsm => ?no)
    case' yes =>
      obtain ⟨y, hy⟩ := Option.isSome_iff_exists.1 hsm
      have := hs y hy
      subst hy this
      refine ⟨xs[i].cells, rfl, Rd.of_block h12.here, ?_⟩
      refine ⟨xs[i].cells, rfl, Rd.of_block hg9, ?_⟩
      refine ⟨false, neqSame43 _ _ _, ?_⟩
    all_goals
      refine ⟨_, cell_of_block hg9 rfl, ?_⟩
      refine ⟨_, cell_of_block hg9 rfl, ?_⟩
      refine brE_dec (fun hgt => ?_) (fun hgt => ?_)
      · have hgt : xs[i].fr > xs[i].to := hgt
        rw [if_pos hgt] at hbt
        refine ⟨_, cell_of_block hg9 rfl, ?_⟩
        refine ⟨_, cell_of_block hg9 rfl, ?_⟩
        intro g14 w14 h14
        have e14 := e12.trans h14.ext
        have hb14 : w14.ownsRow w.heap.size 58 2 v (backL (xs.take i)).length (prCells (backL (xs.take i))) := ownsRow_ext hb7 e14
        refine ⟨rfl, rfl, rfl, w.heap.size, _, _, [.int .i64 xs[i].fr, .int .i64 xs[i].to], hb14, (E7.trans e14).size, Nat.le_of_ble_eq_true rfl, rfl, rfl, .inr ⟨g14, 0, rfl, Rd.of_block h14.here⟩, rfl, rfl, by omega, by simp only [maxLen]; omega, ?_⟩
        intro v15 w15 ho15 hg15 _
        have o15 := only_app hb14 hg15
        refine ⟨_, next, ?_⟩
        refine ⟨(i + 1, v15), ⟨rfl, rfl, rfl, rfl, rfl, trivial⟩, ⟨hlt, app_ext (E7.trans e14) hb14 hg15, o15 _ _ _ _ (e14.heap hg5) (by decide), o15 _ _ _ _ (e14.heap hg2) (by decide), ownsRow_only (ownsRow_ext ho7 e14) o15 (by decide), ?_⟩, by show xs.length - (i + 1) < xs.length - i; omega⟩
        show Prs _ _ _ (backL (xs.take (i + 1)))
        rw [hbt]
        unfold Prs
        rw [prCells_append, List.length_append]
        exact ho15
      · have hgt : ¬ xs[i].fr > xs[i].to := hgt
        rw [if_neg hgt] at hbt
        refine ⟨_, next, ?_⟩
        refine ⟨(i + 1, v), ⟨rfl, rfl, rfl, rfl, rfl, trivial⟩, ⟨hlt, E7.trans e12, e12.heap hg5, e12.heap hg2, ho12, ?_⟩, by show xs.length - (i + 1) < xs.length - i; omega⟩
        show Prs _ _ _ (backL (xs.take (i + 1)))
        rw [hbt]
        exact hb7.ext e12
  · have : i = xs.length := by have : ¬ (i : Int) < (xs.length : Nat) := hge; omega
    subst this
    rw [List.take_length] at hb7
    have hbl := backL_length xs
    obtain ⟨A7, c7, rfl, hr7, _⟩ := reads_of_owns hb7
    have hbw := waiveL_length xs (backL xs)
    have hpb : ∀ p ∈ backL xs, In64 p.1 ∧ In64 p.2 := fun p hp => by
      obtain ⟨x, hx, rfl⟩ := List.mem_map.1 hp
      have := h.nums x (List.mem_filter.1 hx).1
      exact ⟨this.1, this.2.1⟩
    have okw : Valid n (waiveL xs ps) := hok.filter _
    have okb : Valid n (waiveL xs (backL xs)) := hok.filter _
    refine ⟨[.int .i64 n, .slice A xs.length c], rfl, Rd.of_block hg2, ?_⟩
    refine (Waive_spec (h.ext E7) (by omega) hpb hr7 (by omega)).mono ?_
    rintro v w8 ⟨⟨u, hv8, hu8⟩, e8⟩
    rw [if_pos hv, if_pos hv] at hu8
    obtain ⟨A8, c8, rfl, ho8⟩ := hu8
    subst hv8
    intro g12 w9 h9
    refine ⟨rfl, _, _, h9.here, Nat.le_of_ble_eq_true rfl, rfl, ?_⟩
    intro w10 h10
    have h10 : Put w9 g12 (.cells #[.int .i64 n, .slice A8 (waiveL xs (backL xs)).length c8] 24 (0, 0)) w10 := h10
    have e810 : Ext w8 w10 := h10.ext_of h9.ext (by rw [h9.new]; exact Nat.le_refl _)
    have e710 := e8.trans e810
    refine brE_false (by rw [hv]; rfl) ?_
    refine ⟨_, cell_of_block (e710.heap hg5) rfl, ?_⟩
    refine ⟨_, cell_of_block (e710.heap hg2) rfl, ?_⟩
    refine brE_false (decide_eq_false (by omega)) ?_
    refine ⟨[.int .i64 n, .slice A8 (waiveL xs (backL xs)).length c8], rfl, Rd.of_block h10.here, ?_⟩
    refine (Circles_spec (NewRel.hrel' h (fun x hx => (waive_mem.1 hx).1) hbw (ownsRow_ext ho8 e810))).mono ?_
    rintro v11 w11 ⟨hl11, e11⟩
    rw [circles_none okb fun a b => back_up hok] at hl11
    obtain ⟨A11, c11, us11, rfl, _⟩ := hl11.read
    have e711 := e710.trans e11
    have hx7 : HRel w11 n A4 (waiveL xs ps) c4 := NewRel.hrel' h hsub hwl (ownsRow_ext ho7 e711)
    have hr11 := h.ext (E7.trans e711)
    have hg5 := e711.heap hg5
    have hg2 := e711.heap hg2
    have E11 := E7.trans e711
    clear ho7 e46 ho4 ho6 hb7
    refine loopE C_ok (fun (a : Nat) => [(2, .pointer (some ⟨g2, 0, none⟩)), (5, .pointer (some ⟨g5, 0, none⟩)), (14, .int .i64 a)])
      (fun a w' => a ≤ n ∧ Ext w11 w') (fun a => n - a) 0 ⟨rfl, rfl, rfl, trivial⟩ ⟨Nat.zero_le _, Ext.refl _⟩ ?_
    rintro a w12 ⟨ha, E12⟩
    refine ⟨_, cell_of_block (E12.heap hg2) rfl, ?_⟩
    refine brE_dec (fun hlt => ?_) (fun hge => ?_)
    · have hlt : a < n := by have : (a : Int) < n := hlt; omega
      refine loopE C_ok (fun (b : Nat) => [(2, .pointer (some ⟨g2, 0, none⟩)), (5, .pointer (some ⟨g5, 0, none⟩)), (14, .int .i64 a), (15, .int .i64 b)])
        (fun b w' => b ≤ a ∧ Ext w11 w') (fun b => a - b) 0 ⟨rfl, rfl, rfl, rfl, trivial⟩ ⟨Nat.zero_le _, E12⟩ ?_
      rintro b w13 ⟨hb, E13⟩
      refine brE_dec (fun hltb => ?_) (fun hgeb => ?_)
      · have hltb : b < a := by have : (b : Int) < a := hltb; omega
        have next : IntKind.i64.wrap ((b : Int) + 1) = ((b + 1 : Nat) : Int) := fit ⟨by omega, by omega⟩
        refine ⟨[.int .i64 n, .slice A4 (waiveL xs ps).length c4], rfl, Rd.of_block (E13.heap hg5), ?_⟩
        refine (Standing_spec (hx7.ext E13) a b).mono ?_
        rintro v14 w14 ⟨rfl, e14⟩
        have E14 := E13.trans e14
        refine brE_dec (fun h3 => ?_) (fun h3 => ?_)
        · have h3 := contrary_sub hok h3
          refine ⟨[.int .i64 n, .slice A xs.length c], rfl, Rd.of_block (E14.heap hg2), ?_⟩
          refine (Standing_spec (hr11.ext E14) a b).mono ?_
          rintro v15 w15 ⟨rfl, e15⟩
          refine brE_false (by rw [h3]; rfl) ?_
          refine ⟨_, next, ?_⟩
          exact ⟨b + 1, ⟨rfl, rfl, rfl, rfl, trivial⟩, ⟨hltb, E14.trans e15⟩, by omega⟩
        · refine ⟨_, next, ?_⟩
          exact ⟨b + 1, ⟨rfl, rfl, rfl, rfl, trivial⟩, ⟨hltb, E14⟩, by omega⟩
      · refine ⟨((a + 1 : Nat) : Int), fit ⟨by omega, by omega⟩, ?_⟩
        exact ⟨a + 1, ⟨rfl, rfl, rfl, trivial⟩, ⟨hlt, E13⟩, by omega⟩
    · exact stop (E11.trans E12)

end Go.Proofs.Ytdfhfehlmonjjaa
