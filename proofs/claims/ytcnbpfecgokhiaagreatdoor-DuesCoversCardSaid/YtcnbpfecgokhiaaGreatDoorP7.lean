/- Proved: for every list of facts, operations, waiver, guests and day the law DuesCovers returns true, and its arguments read behind the call as they did before; what the library's variables hold is tied to the program's text. No further condition. -/
import Derived.Test.YtcnbpfecgokhiaaGreatDoorDYc
import Derived.Test.YtcnbpfecgokhiaaGreatDoorDYa
import Derived.Test.YtcnbpfecgokhiaaGreatDoorDTc
import Derived.Test.YtcnbpfecgokhiaaGreatDoorDKa
set_option linter.unusedVariables false
set_option linter.unusedSimpArgs false
set_option linter.unnecessarySimpa false
set_option linter.unusedSectionVars false
namespace Go.Proofs.YtcnbpfecgokhiaaGreatDoor
open Go.Eng Go.RowKit

theorem hasP_spec {w : World} {A : Option Addr} {l : List IPair} {c : Nat} (h : HL IPair.cells w A l c) (p : IPair) :
    CallsV C.P 34 #[.slice A l.length c, p.val] w fun v w' => v = .bool (l.any fun q => decide (q = p)) ∧ Ext w w' := by
  have hcap := h.cap
  refine callsV_of C_ok (args := [_, _]) (plans := plans34) Tryz.func34 rfl Tryz.ntmps34 (by kernel_rfl) (Nat.le_of_ble_eq_true rfl) ?_
  intro g3 w1 h1
  have M1 : Mem w w1 [(g3, .cells p.cells.toArray 67 (0, 0))] := (Mem.start w).alloc h1
  refine loopE C_ok (fun (i : Nat) => [(0, .slice A l.length c), (3, .pointer (some ⟨g3, 0, none⟩)), (5, .int .i64 (i : Nat))]) (fun i w' => i ≤ l.length ∧ (∀ j (hj : j < l.length), j < i → ¬ l[j] = p) ∧ w' = w1) (fun i => l.length - i) 0 ⟨rfl, rfl, rfl, trivial⟩ ⟨Nat.zero_le _, fun j _ hj => absurd hj (Nat.not_lt_zero _), rfl⟩ ?_
  rintro i w2 ⟨hi, hall, rfl⟩
  refine brE_dec (fun hlt => ?_) (fun hge => ?_)
  · have hlt : i < l.length := by have : (i : Int) < (l.length : Nat) := hlt; omega
    obtain ⟨b, o, hA, hr⟩ := (h.ext M1.ext).at IPair.len (by omega) hlt
    refine ⟨i, b, o, rfl, hlt, hA, ?_⟩
    refine ⟨l[i].cells, rfl, hr, ?_⟩
    refine ⟨p.cells, rfl, M1.rd 0 rfl, ?_⟩
    refine ⟨_, eqP _ _ l[i] p, ?_⟩
    refine brE_dec (fun c1 => ?_) (fun c1 => ?_)
    · exact ⟨congrArg _ (List.any_eq_true.2 ⟨_, List.getElem_mem hlt, decide_eq_true c1⟩).symm, M1.ext⟩
    refine ⟨((i + 1 : Nat) : Int), fit ⟨by omega, by omega⟩, ?_⟩
    refine ⟨i + 1, ⟨rfl, rfl, rfl, trivial⟩, ⟨hlt, fun j hj hji => ?_, rfl⟩, by show l.length - (i + 1) < l.length - i; omega⟩
    rcases Nat.lt_or_ge j i with h | h
    · exact hall j hj h
    · obtain rfl : j = i := by omega
      exact c1
  · have hi : i = l.length := by have : ¬ (i : Int) < (l.length : Nat) := hge; omega
    refine ⟨congrArg _ ?_, M1.ext⟩
    symm
    rw [List.any_eq_false]
    intro q hq
    obtain ⟨j, hj, rfl⟩ := List.getElem_of_mem hq
    simpa using hall j hj (by omega)

set_option maxRecDepth 100000 in
set_option maxHeartbeats 2000000 in
theorem DuesCovers_spec {w : World} {A B G : Option Addr} {f : List Fact} {s : List Opn} {g : List Guest} {c d cg : Nat} (hf0 : HF w A f c) (hs0 : HL Opn.cells w B s d) (hn : ∀ o ∈ s, o.Nums) (T : TabP w) {x : Waiv} (hx : x.Nums) (hg0 : HL Guest.cells w G g cg) (day : Int) :
    CallsV C.P 7 #[.slice A f.length c, .slice B s.length d, x.val, .slice G g.length cg, .int .i64 day] w fun v w' => v = .bool true ∧ Ext w w' := by
  have hgcap := hg0.cap
  refine callsV_of C_ok (args := [_, _, _, _, _]) (plans := plans7) Tryz.func7 rfl Tryz.ntmps7 (by kernel_rfl) (Nat.le_of_ble_eq_true rfl) ?_
  intro g7 w1 a1
  have M1 : Mem w w1 [(g7, .cells x.cells.toArray 35 (0, 0))] := (Mem.start w).alloc a1
  have hx1 := M1.get 0 rfl
  have hf := hf0.ext M1.ext
  have hs := hs0.ext M1.ext
  have hg := hg0.ext M1.ext
  have T1 := tabP_ext T M1.ext
  have ew := M1.ext
  clear M1 a1
  refine (few_spec hf hs.cap).mono ?_
  rintro v w2 ⟨⟨bf, rfl, hb⟩, rfl⟩
  refine brE_mk (fun c1 => ?_) (fun c1 => ?_)
  · refine (grants_spec w2 T1).mono ?_
    rintro v w3 ⟨rfl, e3⟩
    exact ⟨rfl, ew.trans e3⟩
  obtain ⟨hfl, hsl⟩ := hb (by simpa using c1)
  refine brE_dec (fun c2 => ?_) (fun c2 => ?_)
  · refine (grants_spec w2 T1).mono ?_
    rintro v w3 ⟨rfl, e3⟩
    exact ⟨rfl, ew.trans e3⟩
  have hgl : g.length ≤ 24 := by have : ¬ ((g.length : Nat) : Int) > 24 := c2; omega
  refine (built_spec hf (by omega) hs (by omega) hn).mono ?_
  rintro v w3 ⟨l, rfl, n3⟩
  have hlen := (acc_built f s).2
  have hacc := (acc_built f s).1
  generalize builtL f s = es at *
  refine (Pairs_spec n3.is (by omega) (hg.ext n3.ext) day).mono ?_
  rintro v w4 ⟨h4, e4⟩
  obtain ⟨A4, c4, rfl, hr4⟩ := h4.hl
  have n4 := n3.then e4
  refine ⟨x.cells, rfl, Rd.of_block (n4.ext.heap hx1), ?_⟩
  have hab : ∀ b o, A4 = some ⟨b, o, none⟩ → (pairsAt es g day).flatMap IPair.cells ≠ [] → ¬ l.has b := fun b o hA hne hb => by
    obtain ⟨_, hv | ⟨g', cap', cur', hv, _, hg', _⟩⟩ := h4
    · exact hne (by rw [List.length_eq_zero_iff.1 hv.2]; rfl)
    · cases hv
      cases hA
      rcases hb with hb | hb | hb
      · rw [hb, n4.is.block] at hg'; simp at hg'
      · obtain ⟨_, cur, e⟩ := owns_at n4.is.row hb
        rw [e] at hg'; simp at hg'
      · exact n4.is.st.off hg' (by decide) (by decide) (by decide) hb
  refine (Grant_spec n4.is (by omega) (hf.ext n4.ext) (by omega) hx).mono ?_
  rintro v w5 ⟨rfl, hgo⟩
  have hr5 : HL IPair.cells w5 A4 (pairsAt es g day) c4 := by
    obtain ⟨l', _, _, hk, _⟩ := hgo
    refine ⟨?_, hr4.len, hr4.cap⟩
    rcases hr4.reads with h | ⟨b, o, hA, h⟩
    · exact .inl h
    · by_cases h0 : (pairsAt es g day).flatMap IPair.cells = []
      · exact .inl h0
      · exact .inr ⟨b, o, hA, hk.rd (D := fun k => ¬ l.has k) (hab b o hA h0) h⟩
  obtain ⟨l5, hl5, n5⟩ := n4.go hgo
  have hal := add_length (doF f es (grantE es x)) es (grantE es x)
  have P5 := Pairs_spec n5.is (by omega) (hg.ext n5.ext) day
  rw [ptr_eq hl5] at P5
  refine P5.mono ?_
  rintro v w6 ⟨h6, e6'⟩
  obtain ⟨A6, c6, rfl, hr6⟩ := h6.hl
  have n6 := n5.then e6'
  have hr5 := hr5.ext e6'
  have hb5 : pairsAt es g day = pairsL (waiversAt es day) g := if_neg (by omega)
  have hb6 : pairsAt (addL (doF f es (grantE es x)) es (grantE es x)) g day = pairsL (waiversAt (addL (doF f es (grantE es x)) es (grantE es x)) day) g := if_neg (by omega)
  have hsub : ∀ p ∈ pairsAt es g day, p ∈ pairsAt (addL (doF f es (grantE es x)) es (grantE es x)) g day := fun p hp => by
    rw [hb5] at hp
    rw [hb6]
    exact pairs_sub (grant_sub hacc) p hp
  have hsame : doF f es (grantE es x) ≠ 0 → addL (doF f es (grantE es x)) es (grantE es x) = es := fun h => if_neg h
  have hcov : doF f es (grantE es x) = 0 → x.under = 0 → x.over = 0 → x.since ≤ day → day < x.til → ∀ u o : Guest, u.state = x.giver → o.state = x.taker → coversAt (addL (doF f es (grantE es x)) es (grantE es x)) u o day = true := fun h hu ho hs ht u o h1 h2 => grant_covers hacc h hu ho hs ht h1 h2
  have hhas : ∀ {a b : Nat} (ha : a < g.length) (hb : b < g.length), (pairsAt (addL (doF f es (grantE es x)) es (grantE es x)) g day).any (fun q => decide (q = ⟨(a : Nat), (b : Nat)⟩)) = coversAt (addL (doF f es (grantE es x)) es (grantE es x)) g[a] g[b] day := fun ha hb => by
    rw [hb6, pairs_has ha hb]; rfl
  have hpl : (pairsAt es g day).length ≤ 24 * 24 := by
    rw [hb5]
    exact Nat.le_trans (pairsTo_len (waiversAt es day) g g.length) (Nat.mul_le_mul hgl hgl)
  generalize hes' : addL (doF f es (grantE es x)) es (grantE es x) = es' at *
  have l5ptr := ptr_eq hl5
  clear hgo n5 n4 n3 h4 h6 hab P5
  -- no pair is missing
  refine loopE C_ok (fun (i : Nat) => [(3, .slice G g.length cg), (4, .int .i64 day), (7, .pointer (some ⟨g7, 0, none⟩)), (11, l.ptr), (12, .slice A4 (pairsAt es g day).length c4), (14, .int .i64 (doF f es (grantE es x))), (15, .slice A6 (pairsAt es' g day).length c6), (16, .int .i64 (i : Nat))])
    (fun i w' => i ≤ (pairsAt es g day).length ∧ Ext w6 w') (fun i => (pairsAt es g day).length - i) 0 ⟨rfl, rfl, rfl, rfl, rfl, rfl, rfl, rfl, trivial⟩ ⟨Nat.zero_le _, Ext.refl _⟩ ?_
  rintro i w7 ⟨hi, e7⟩
  refine brE_dec (fun hlt => ?_) (fun hge => ?_)
  · have hlt : i < (pairsAt es g day).length := by have : (i : Int) < ((pairsAt es g day).length : Nat) := hlt; omega
    obtain ⟨b1, o1, hA1, hr1⟩ := (hr5.ext e7).at IPair.len (by omega) hlt
    refine ⟨i, b1, o1, rfl, hlt, hA1, ?_⟩
    refine ⟨(pairsAt es g day)[i].cells, rfl, hr1, ?_⟩
    refine (hasP_spec (hr6.ext e7) (pairsAt es g day)[i]).mono ?_
    rintro v w8 ⟨rfl, e8⟩
    refine brE_false (by rw [List.any_eq_true.2 ⟨_, hsub _ (List.getElem_mem hlt), decide_eq_true rfl⟩]; rfl) ?_
    refine ⟨((i + 1 : Nat) : Int), fit ⟨by omega, by omega⟩, ?_⟩
    exact ⟨i + 1, ⟨rfl, rfl, rfl, rfl, rfl, rfl, rfl, rfl, trivial⟩, ⟨hlt, e7.trans e8⟩, by show (pairsAt es g day).length - (i + 1) < (pairsAt es g day).length - i; omega⟩
  clear hge hi
  refine loopE C_ok (fun (i : Nat) => [(3, .slice G g.length cg), (4, .int .i64 day), (7, .pointer (some ⟨g7, 0, none⟩)), (11, l.ptr), (12, .slice A4 (pairsAt es g day).length c4), (14, .int .i64 (doF f es (grantE es x))), (15, .slice A6 (pairsAt es' g day).length c6), (17, .int .i64 (i : Nat))])
    (fun i w' => i ≤ g.length ∧ Ext w6 w') (fun i => g.length - i) 0 ⟨rfl, rfl, rfl, rfl, rfl, rfl, rfl, rfl, trivial⟩ ⟨Nat.zero_le _, e7⟩ ?_
  rintro i w5 ⟨hi, e5⟩
  refine brE_dec (fun hlt => ?_) (fun hge => ?_)
  · have hlt : i < g.length := by have : (i : Int) < (g.length : Nat) := hlt; omega
    refine loopE C_ok (fun (j : Nat) => [(3, .slice G g.length cg), (4, .int .i64 day), (7, .pointer (some ⟨g7, 0, none⟩)), (11, l.ptr), (12, .slice A4 (pairsAt es g day).length c4), (14, .int .i64 (doF f es (grantE es x))), (15, .slice A6 (pairsAt es' g day).length c6), (17, .int .i64 (i : Nat)), (18, .int .i64 (j : Nat)), (3, .slice G g.length cg)])
      (fun j w' => j ≤ g.length ∧ Ext w6 w') (fun j => g.length - j) 0 ⟨rfl, rfl, rfl, rfl, rfl, rfl, rfl, rfl, rfl, rfl, trivial⟩ ⟨Nat.zero_le _, e5⟩ ?_
    rintro j w3 ⟨hj, e6⟩
    refine brE_dec (fun hlt2 => ?_) (fun hge2 => ?_)
    · have hlt2 : j < g.length := by have : (j : Int) < (g.length : Nat) := hlt2; omega
      have next : IntKind.i64.wrap ((j : Int) + 1) = ((j + 1 : Nat) : Int) := fit ⟨by omega, by omega⟩
      have n7 := n6.then e6
      obtain ⟨b1, o1, hA1, hr1⟩ := (hg.ext n7.ext).at Guest.len (by omega) hlt
      obtain ⟨b2, o2, hA2, hr2⟩ := (hg.ext n7.ext).at Guest.len (by omega) hlt2
      refine ⟨i, b1, o1, rfl, hlt, hA1, ?_⟩
      refine ⟨g[i].cells, rfl, hr1, ?_⟩
      refine ⟨j, b2, o2, rfl, hlt2, hA2, ?_⟩
      refine ⟨g[j].cells, rfl, hr2, ?_⟩
      have C7 := Covers_spec n7.is (by omega) g[i] g[j] day
      rw [l5ptr] at C7
      refine C7.mono ?_
      rintro v w8 ⟨rfl, e78⟩
      refine (hasP_spec (hr6.ext (e6.trans e78)) ⟨(i : Nat), (j : Nat)⟩).mono ?_
      rintro v w9 ⟨rfl, e89⟩
      have e68 := e78.trans e89
      have hx8 := (n7.ext.trans e68).heap hx1
      have hr1' := hr1.ext e68
      have hr2' := hr2.ext e68
      refine ⟨_, neqBool _ _ _ _, ?_⟩
      refine brE_false (by rw [hhas hlt hlt2]; exact bne_self_eq_false _) ?_
      refine brE_dec (fun d1 => ?_) (fun _ => ⟨_, next, ⟨j + 1, ⟨rfl, rfl, rfl, rfl, rfl, rfl, rfl, rfl, rfl, rfl, trivial⟩, ⟨hlt2, e6.trans e68⟩, by show g.length - (j + 1) < g.length - j; omega⟩⟩)
      have d1 : doF f es (grantE es x) = 0 := d1
      refine ⟨_, cell_of_block (i := 5) hx8 rfl, ?_⟩
      refine brE_dec (fun d2 => ?_) (fun _ => ⟨_, next, ⟨j + 1, ⟨rfl, rfl, rfl, rfl, rfl, rfl, rfl, rfl, rfl, rfl, trivial⟩, ⟨hlt2, e6.trans e68⟩, by show g.length - (j + 1) < g.length - j; omega⟩⟩)
      have d2 : x.under = 0 := d2
      refine ⟨_, cell_of_block (i := 6) hx8 rfl, ?_⟩
      refine brE_dec (fun d3 => ?_) (fun _ => ⟨_, next, ⟨j + 1, ⟨rfl, rfl, rfl, rfl, rfl, rfl, rfl, rfl, rfl, rfl, trivial⟩, ⟨hlt2, e6.trans e68⟩, by show g.length - (j + 1) < g.length - j; omega⟩⟩)
      have d3 : x.over = 0 := d3
      refine ⟨_, cell_of_block (i := 7) hx8 rfl, ?_⟩
      refine brE_dec (fun d4 => ?_) (fun _ => ⟨_, next, ⟨j + 1, ⟨rfl, rfl, rfl, rfl, rfl, rfl, rfl, rfl, rfl, rfl, trivial⟩, ⟨hlt2, e6.trans e68⟩, by show g.length - (j + 1) < g.length - j; omega⟩⟩)
      have d4 : x.since ≤ day := d4
      refine ⟨_, cell_of_block (i := 8) hx8 rfl, ?_⟩
      refine brE_dec (fun d5 => ?_) (fun _ => ⟨_, next, ⟨j + 1, ⟨rfl, rfl, rfl, rfl, rfl, rfl, rfl, rfl, rfl, rfl, trivial⟩, ⟨hlt2, e6.trans e68⟩, by show g.length - (j + 1) < g.length - j; omega⟩⟩)
      have d5 : day < x.til := d5
      refine ⟨i, b1, o1, rfl, hlt, hA1, ?_⟩
      refine ⟨_, hr1' 1 _ rfl, ?_⟩
      refine ⟨_, cell_of_block (i := 3) hx8 rfl, ?_⟩
      refine brE_dec (fun d6 => ?_) (fun _ => ⟨_, next, ⟨j + 1, ⟨rfl, rfl, rfl, rfl, rfl, rfl, rfl, rfl, rfl, rfl, trivial⟩, ⟨hlt2, e6.trans e68⟩, by show g.length - (j + 1) < g.length - j; omega⟩⟩)
      have d6 : g[i].state = x.giver := d6
      refine ⟨j, b2, o2, rfl, hlt2, hA2, ?_⟩
      refine ⟨_, hr2' 1 _ rfl, ?_⟩
      refine ⟨_, cell_of_block (i := 4) hx8 rfl, ?_⟩
      refine brE_dec (fun d7 => ?_) (fun _ => ⟨_, next, ⟨j + 1, ⟨rfl, rfl, rfl, rfl, rfl, rfl, rfl, rfl, rfl, rfl, trivial⟩, ⟨hlt2, e6.trans e68⟩, by show g.length - (j + 1) < g.length - j; omega⟩⟩)
      have d7 : g[j].state = x.taker := d7
      refine brE_false (by rw [hcov d1 d2 d3 d4 d5 g[i] g[j] d6 d7]; rfl) ?_
      exact ⟨_, next, ⟨j + 1, ⟨rfl, rfl, rfl, rfl, rfl, rfl, rfl, rfl, rfl, rfl, trivial⟩, ⟨hlt2, e6.trans e68⟩, by show g.length - (j + 1) < g.length - j; omega⟩⟩
    · refine ⟨((i + 1 : Nat) : Int), fit ⟨by omega, by omega⟩, ?_⟩
      exact ⟨i + 1, ⟨rfl, rfl, rfl, rfl, rfl, rfl, rfl, rfl, trivial⟩, ⟨hlt, e6⟩, by show g.length - (i + 1) < g.length - i; omega⟩
  · have n7 := n6.then e5
    refine (grants_spec w5 (tabP_ext T1 n7.ext)).mono ?_
    rintro v w8 ⟨rfl, e8⟩
    have ez := ew.trans (n7.ext.trans e8)
    refine brE_dec (fun c3 => ?_) (fun c3 => ?_)
    · exact ⟨rfl, ez⟩
    · have c3 : ¬ doF f es (grantE es x) = 0 := c3
      refine (SamePs_spec (hr5.ext (e5.trans e8)) (hr6.ext (e5.trans e8))).mono ?_
      rintro v w9 ⟨rfl, rfl⟩
      exact ⟨congrArg _ (decide_eq_true (by rw [hsame c3])), ez⟩

end Go.Proofs.YtcnbpfecgokhiaaGreatDoor

namespace Go.Proofs.YtcnbpfecgokhiaaGreatDoor
open Go.Eng Go.RowKit Go.ChangeShapes Go.WideShapes Go.ChangeAt
open Go.ChangeMaps (open_string shut_string)

set_option maxRecDepth 100000 in
theorem duesCovers_lifted (os : Os) (started : os.Started) (H : Type) (enc : TypeId × Value → H) :
    ReturnsInHanded {} Tryz.checked os 7 .any (fun w args => (Rows.duesCoversSpec.pre enc Tryz.prog Tryz.f7 Rows.duesCoversRow.domain false w args ∧ laidMet Tryz.prog laidL w) ∧ sizedMet enc Tryz.prog Tryz.f7 (OpenSpec.ofChange Rows.duesCoversSpec) false w args)
      (Rows.duesCoversSpec.post enc Tryz.prog Tryz.f7 false true false false) := by
  refine returnsInHanded_of_change_and (C := Tryz.checked) (X := fun w _ => laidMet Tryz.prog laidL w) (fun _ _ _ hh h => h.of_heap hh) own started (by kernel_rfl) Tryz.func7
    (ChangeSpec.witness_at (enc := enc) (C := Tryz.checked) (os := os) (X := fun w _ => laidMet Tryz.prog laidL w) false (laidWorld os) #[.slice none 0 0, .slice none 0 0, .agg #[.int .i64 0, .int .i64 0, .int .i64 0, .int .i64 0, .int .i64 0, .int .i64 0, .int .i64 0, .int .i64 0, .int .i64 0], .slice none 0 0, .int .i64 0] 8 rfl (by kernel_rfl) (by kernel_rfl) (by kernel_rfl) (by kernel_rfl) (by kernel_rfl) (laidWorld_met os _)) ?_
  intro W base args ds gs before hval0 hW _ hsz0 hL _
  have T := tabs_of_laid hL
  have hval : ∀ (j : Nat) t v, Tryz.f7.params[j]? = some t → args[j]? = some v → Value.okWide Tryz.prog W .any base t v := hval0
  have hW' := hW
  obtain ⟨p, q, hA0, hV, rfl, hfz, hnd⟩ := hW
  have hA : DataW.TrodAll enc Tryz.prog W 0 (fun _ => true) true [22, 23, 35, 61, 3] args.toList ds p := hA0
  obtain ⟨v0, v1, v2, v3, v4, d0, d1, d2, d3, d4, p0, p1, p2, p3, p4, rfl, rfl, rfl, h0, h1, h2, h3, h4⟩ := trodAll_n5 hA
  obtain ⟨rfl, rfl⟩ := trodVars_none hV
  obtain ⟨A0, l0, c0, rfl, hf0⟩ := open_facts (hval 0 22 v0 rfl rfl) h0
  obtain ⟨A1, l1, c1, rfl, hs1, ns1⟩ := open_list Opn.len (by omega) (fun y => ⟨.u8, _, rfl⟩) underOs cellsO open_cO (hval 1 23 v1 rfl rfl) h1
  obtain ⟨x2, rfl, hx2⟩ := open_vW (hval 2 35 v2 rfl rfl) h2
  obtain ⟨A3, l3, c3, rfl, hs3, ns3⟩ := open_list Guest.len (by omega) (fun y => ⟨.i64, _, rfl⟩) underUs cellsU open_cU (hval 3 61 v3 rfl rfl) h3
  obtain ⟨i4, rfl, _, _, wf4⟩ := open_int under3 (hval 4 3 v4 rfl rfl) h4
  refine (DuesCovers_spec hf0 hs1 ns1 T hx2 hs3 i4 W (Same.refl W)).mono ?_
  rintro e W' ⟨⟨v, w'', rfl, ⟨rfl, he⟩, hs⟩, _⟩
  have he' : Ext W W' := he.same_right hs
  refine ⟨_, rfl, ?_⟩
  refine ⟨[d0, d1, d2, d3, d4], [], (p0 ++ (p1 ++ (p2 ++ (p3 ++ (p4))))) ++ [], [], p0 ++ (p1 ++ (p2 ++ (p3 ++ (p4)))), [], hW', ?_, ?_, rfl, Below.frame he' _, fun h => by cases h⟩
  · exact trodAll_mk1 (shut_bool under4 true)
  · exact trodAll_mkn5 (Below.trod laidOut recFs rowFs h0 he' fun x hx => hW'.lt x (by simp [hx])) (Below.trod laidOut recOs rowOs h1 he' fun x hx => hW'.lt x (by simp [hx])) (Below.trod laidOut recW6 rowW6 h2 he' fun x hx => hW'.lt x (by simp [hx])) (Below.trod laidOut recUs rowUs h3 he' fun x hx => hW'.lt x (by simp [hx])) (Below.trod laidOut rec3 row3 h4 he' fun x hx => hW'.lt x (by simp [hx]))

set_option maxHeartbeats 4000000 in
theorem duesCovers_closed : joinedFacts Tryz.pinned.checked.prog 7 Tryz.f7 Rows.duesCoversSpec Rows.duesCoversRow = true := by
  unfold joinedFacts
  iterate 31 refine Bool.and_eq_true_iff.2 ⟨?_, ?_⟩
  · as_aux_lemma => kernel_rfl
  · exact kLaid
  · exact kMaps
  · as_aux_lemma => kernel_rfl
  · as_aux_lemma => kernel_rfl
  · as_aux_lemma => kernel_rfl
  · exact kStops
  · as_aux_lemma => kernel_rfl
  · exact kKnobs
  · as_aux_lemma => kernel_rfl
  · as_aux_lemma => kernel_rfl
  · as_aux_lemma => kernel_rfl
  · as_aux_lemma => kernel_rfl
  · as_aux_lemma => kernel_rfl
  · as_aux_lemma => kernel_rfl
  · as_aux_lemma => kernel_rfl
  · as_aux_lemma => kernel_rfl
  · as_aux_lemma => kernel_rfl
  · as_aux_lemma => kernel_rfl
  · as_aux_lemma => kernel_rfl
  · as_aux_lemma => kernel_rfl
  · as_aux_lemma => kernel_rfl
  · exact beq_iff_eq.2 kPlain.symm
  · as_aux_lemma => kernel_rfl
  · exact kHeard
  · exact kEnter
  · exact beq_iff_eq.2 kLifts.symm
  · as_aux_lemma => kernel_rfl
  · as_aux_lemma => kernel_rfl
  · as_aux_lemma => kernel_rfl
  · as_aux_lemma => kernel_rfl
  · as_aux_lemma => kernel_rfl

theorem duesCovers_named : Tryz.pinned.checked.prog.funcNamed Rows.duesCoversRow.func = some 7 := by kernel_rfl
theorem duesCovers_func : Tryz.pinned.checked.prog.funcs[7]? = some Tryz.f7 := Tryz.func7
theorem duesCovers_inst : Tryz.f7.isInstance Tryz.pinned.checked.prog Rows.duesCoversRow.origin Rows.duesCoversRow.targs := of_decide_eq_true (by kernel_rfl)
theorem duesCovers_wrap : Tryz.f7.isWrapper Tryz.pinned.checked.prog Rows.duesCoversRow.wrapper Rows.duesCoversRow.mainSum := by
  unfold Func.isWrapper; first | (rw [if_pos (by decide +kernel)]; kernel_rfl) | (rw [if_neg (by decide +kernel)]; exact ⟨rfl, rfl⟩)
theorem duesCovers_text : Rows.duesCoversRow.wfByText (OpenSpec.ofChange Rows.duesCoversSpec) = true := by kernel_rfl
theorem duesCovers_main : Tryz.pinned.checked.prog.mainIs = some (Rows.duesCoversCard.stood.harness.1, Rows.duesCoversCard.stood.harness.2.toList) := by kernel_rfl
theorem duesCovers_looks : true = Tryz.pinned.checked.prog.looks [] := by kernel_rfl
theorem duesCovers_goes : false = Rows.duesCoversRow.goesBy Tryz.pinned.checked.prog := by kernel_rfl
theorem duesCovers_stand : (Tryz.f7.params.toList.all fun t => !Tryz.pinned.checked.prog.wantsStandIn t) = true := by kernel_rfl

theorem duesCovers_holds : Rows.DuesCoversSaid :=
  OpenClaim.holds_of_wide 7 Tryz.f7 rfl rfl rfl rfl rfl rfl rfl ⟨rfl, rfl, rfl, rfl, rfl⟩ rfl rfl rfl rfl rfl duesCovers_named duesCovers_func duesCovers_closed duesCovers_inst duesCovers_wrap
    (fun os started H enc _ => duesCovers_lifted os started H enc)

theorem duesCovers : Rows.DuesCoversCardSaid :=
  Claim7.holds_tied_plain_at .later [] [.data, .data, .data] true Rows.duesCoversCard.stood.harness true
    duesCovers_holds (fun _ h => by cases h) duesCovers_text (fun _ h => by cases h) duesCovers_row_tie rfl ⟨rfl, rfl⟩ duesCovers_main rfl
    (fun f fn hf hfn => by
      obtain rfl : f = 7 := Option.some.inj (duesCovers_named.symm.trans hf) |>.symm
      obtain rfl : fn = Tryz.f7 := (Option.some.inj (duesCovers_func.symm.trans hfn)).symm
      refine ⟨duesCovers_looks, fun j t ht => ?_⟩
      have hm : t ∈ Tryz.f7.params.toList := by
        have := Array.mem_of_getElem? ht
        simpa using this
      exact Bool.not_eq_true' _ |>.mp (List.all_eq_true.1 duesCovers_stand t hm))
    duesCovers_goes

#print axioms duesCovers
end Go.Proofs.YtcnbpfecgokhiaaGreatDoor
