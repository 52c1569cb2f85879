/- slices.BinarySearchFunc over arrows; Arrow, the program's and the reference's; arrows compared. -/
import Derived.Test.YtdfhfehlmonjjaaR32
namespace Go.Proofs.Ytdfhfehlmonjjaa
open Go.Eng Go.RowKit

theorem ltA_iff {a b : Arrow} : ltA a b = true ↔ (a.fr < b.fr ∨ a.fr = b.fr ∧ a.to < b.to) := by simp [ltA]
theorem ltA_trans {a b c : Arrow} (h : ltA a b = true) (k : ltA b c = true) : ltA a c = true := by rw [ltA_iff] at *; omega

theorem Valid.next_lt {N : Int} {xs : List Arrow} (h : Valid N xs) {i : Nat} (hi : i + 1 < xs.length) : ltA xs[i] xs[i + 1] = true := by
  have := h.at_ hi
  unfold okAt at this
  have h2 : i < xs.length := by omega
  simp [hi, h2] at this
  exact this.2

theorem Valid.lt {N : Int} {xs : List Arrow} (h : Valid N xs) {i : Nat} : ∀ {j : Nat} (hij : i < j) (hj : j < xs.length), ltA xs[i] xs[j] = true
  | 0, hij, _ => absurd hij (Nat.not_lt_zero _)
  | j + 1, hij, hj => by
    have hn := h.next_lt hj
    by_cases e : i = j
    · subst e; exact hn
    · exact ltA_trans (h.lt (by omega) (by omega)) hn

theorem cmpA_lt (a b : Arrow) : cmpA a b < 0 ↔ ltA a b = true := by
  have := cmpA_neg a b
  cases h : ltA a b with
  | true => simp [h] at this; simp; omega
  | false => simp [h] at this; simp; omega

theorem cmpA_eq (a b : Arrow) : cmpA a b = 0 ↔ a.fr = b.fr ∧ a.to = b.to := by
  simp only [cmpA, orI, cmpI]
  rcases Int.lt_trichotomy a.fr b.fr with h | h | h <;> rcases Int.lt_trichotomy a.to b.to with k | k | k <;> simp [h, k] <;> omega

def findA (xs : List Arrow) (a b : Int) : Option Arrow := xs.find? fun x => decide (x.fr = a ∧ x.to = b)

structure Hit (xs : List Arrow) (t : Arrow) (i : Nat) (f : Bool) : Prop where
  le : i ≤ xs.length
  yes : f = true → ∃ h : i < xs.length, xs[i].fr = t.fr ∧ xs[i].to = t.to
  no : f = false → ∀ j (h : j < xs.length), ¬ (xs[j].fr = t.fr ∧ xs[j].to = t.to)

theorem Search_spec {N : Int} {A : Option Addr} {xs : List Arrow} {c : Nat} {w : World} (hr : Reads w A (arrows xs)) (hok : Valid N xs) (hl : xs.length ≤ 4611686018427387904) (t : Arrow) :
    CallsV C.P 68 #[.slice A xs.length c, t.val, .func (.func 56) #[] #[]] w fun v w' => (∃ (i : Nat) (f : Bool), v = .tuple #[.int .i64 i, .bool f] ∧ Hit xs t i f) ∧ Ext w w' := by
  refine callsV_of C_ok (args := [_, _, _]) (plans := plans68) Try.func68 rfl Try.ntmps68 (by kernel_rfl) (Nat.le_of_ble_eq_true rfl) ?_
  intro g4 w1 h1
  have M1 := (Mem.start w).alloc h1
  have neg_le : ∀ {j k : Nat} (hj : j < xs.length) (hk : k < xs.length), j ≤ k → cmpA xs[k] t < 0 → cmpA xs[j] t < 0 := fun {j k} hj hk hjk hn => by
    rw [cmpA_lt] at *
    by_cases e : j = k
    · subst e; exact hn
    · exact ltA_trans (hok.lt (by omega) hk) hn
  refine loopE C_ok (fun (s : Nat × Nat) => [(0, .slice A xs.length c), (2, .func (.func 56) #[] #[]), (4, .pointer (some ⟨g4, 0, none⟩)), (8, .int .i64 xs.length), (9, .int .i64 s.1), (10, .int .i64 s.2)])
    (fun s w' => Mem w w' [(g4, .cells t.cells.toArray 43 (0, 0))] ∧ s.1 ≤ s.2 ∧ s.2 ≤ xs.length ∧ (∀ j (h : j < xs.length), j < s.1 → cmpA xs[j] t < 0) ∧ ∀ j (h : j < xs.length), s.2 ≤ j → ¬ cmpA xs[j] t < 0) (fun s => s.2 - s.1) (0, xs.length)
    ⟨rfl, rfl, rfl, rfl, rfl, rfl, trivial⟩ ⟨M1, Nat.zero_le _, Nat.le_refl _, fun j _ hj => absurd hj (Nat.not_lt_zero _), fun j h1 h2 => absurd h1 (Nat.not_lt.2 h2)⟩ ?_
  rintro ⟨i, j⟩ w2 ⟨M2, hij, hj, hlo, hhi⟩
  have hij : i ≤ j := hij
  have hj : j ≤ xs.length := hj
  refine brE_dec (fun hlt => ?_) (fun hge => ?_)
  · have hlt : i < j := by have : (i : Int) < j := hlt; omega
    have hm : (i + j) / 2 < xs.length := by omega
    have hm1 : i ≤ (i + j) / 2 := by omega
    have hm2 : (i + j) / 2 < j := by omega
    refine ⟨((i + j : Nat) : Int), by rw [fit ⟨by omega, by omega⟩]; omega, ?_⟩
    refine ⟨((i + j : Nat) : Int), IntWalk.u64_in _ ⟨by omega, by omega⟩, ?_⟩
    refine ⟨.int .u64 (((i + j) / 2 : Nat) : Int), fun w => ?_, ⟨by decide, by decide⟩, ?_⟩
    · rw [binOp_shr, shift_shr_u64 _ _ _ (by decide) (by decide)]
      simp
    refine ⟨(((i + j) / 2 : Nat) : Int), fit ⟨by omega, by omega⟩, ?_⟩
    generalize (i + j) / 2 = m at *
    obtain ⟨b, o, hA, hc⟩ := Reads.arrow hr hm
    refine ⟨m, b, o, rfl, hm, hA, ?_⟩
    refine ⟨xs[m].cells, rfl, M2.oldRd hc, ?_⟩
    refine ⟨t.cells, rfl, M2.rd 0 rfl, ?_⟩
    refine (compareArrows_spec xs[m] t _).mono ?_
    rintro v w3 ⟨rfl, e3⟩
    have M3 := M2.grow e3
    refine brE_dec (fun hn => ?_) (fun hn => ?_)
    · have hn : cmpA xs[m] t < 0 := hn
      refine ⟨((m + 1 : Nat) : Int), fit ⟨by omega, by omega⟩, ?_⟩
      exact ⟨(m + 1, j), ⟨rfl, rfl, rfl, rfl, rfl, rfl, trivial⟩, ⟨M3, hm2, hj, fun k hk hkm => neg_le hk hm (by have : k < m + 1 := hkm; omega) hn, hhi⟩, by show j - (m + 1) < j - i; omega⟩
    · have hn : ¬ cmpA xs[m] t < 0 := hn
      exact ⟨(i, m), ⟨rfl, rfl, rfl, rfl, rfl, rfl, trivial⟩, ⟨M3, hm1, by show m ≤ xs.length; omega, hlo, fun k hk hkm hk0 => hn (neg_le hm hk hkm hk0)⟩, by show m - i < j - i; omega⟩
  · have : i = j := by have : ¬ (i : Int) < j := hge; omega
    subst this
    have miss : (∀ h : i < xs.length, ¬ cmpA xs[i] t = 0) → Hit xs t i false := fun h0 => ⟨hj, (fun e => by cases e), fun _ k hk he => by
      have hc := (cmpA_eq xs[k] t).2 he
      rcases Nat.lt_trichotomy k i with h1 | h1 | h1
      · have := hlo k hk h1; omega
      · subst h1; exact h0 hk hc
      · have hik : i < xs.length := by omega
        have h2 := hhi i hik (Nat.le_refl _)
        have h3 := h0 hik
        have h4 : cmpA xs[i] t > 0 := by omega
        have h5 := hok.lt h1 hk
        rw [ltA_iff] at h5
        have h6 : ¬ ltA xs[i] t = true := fun hh => h2 ((cmpA_lt _ _).2 hh)
        rw [ltA_iff] at h6
        have h7 : ¬ (xs[i].fr = t.fr ∧ xs[i].to = t.to) := fun hh => h3 ((cmpA_eq _ _).2 hh)
        omega⟩
    refine brE_dec (fun hlt => ?_) (fun hge => ?_)
    · have hlt : i < xs.length := by have : (i : Int) < (xs.length : Nat) := hlt; omega
      obtain ⟨b, o, hA, hc⟩ := Reads.arrow hr hlt
      refine ⟨i, b, o, rfl, hlt, hA, ?_⟩
      refine ⟨xs[i].cells, rfl, M2.oldRd hc, ?_⟩
      refine ⟨t.cells, rfl, M2.rd 0 rfl, ?_⟩
      refine (compareArrows_spec xs[i] t _).mono ?_
      rintro v w3 ⟨rfl, e3⟩
      refine ⟨e3, ?_⟩
      refine ⟨⟨i, _, rfl, ?_⟩, (M2.grow e3).ext⟩
      by_cases h0 : cmpA xs[i] t = 0
      · rw [h0]
        exact ⟨hj, fun _ => ⟨hlt, (cmpA_eq _ _).1 h0⟩, (fun e => by cases e)⟩
      · rw [decide_eq_false h0]
        exact miss fun _ => h0
    · refine ⟨⟨i, _, rfl, ?_⟩, M2.ext⟩
      exact miss fun h => absurd h (by have : ¬ (i : Int) < (xs.length : Nat) := hge; omega)

def arrowS (N : Int) (xs : List Arrow) (a b : Int) : Option Arrow := if chk N xs = 0 then findA xs a b else none
def arrowZ : Arrow := ⟨0, 0, 0, 0⟩

theorem findA_of {N : Int} {xs : List Arrow} (hok : Valid N xs) {a b : Int} {i : Nat} (hi : i < xs.length) (h : xs[i].fr = a ∧ xs[i].to = b) : findA xs a b = some xs[i] := by
  unfold findA
  rw [List.find?_eq_some_iff_getElem]
  refine ⟨decide_eq_true h, i, hi, rfl, fun j hj => ?_⟩
  have := hok.lt hj hi
  rw [ltA_iff] at this
  simp only [Bool.not_eq_true', decide_eq_false_iff_not]
  omega
theorem findA_none {xs : List Arrow} {a b : Int} (h : ∀ j (h : j < xs.length), ¬ (xs[j].fr = a ∧ xs[j].to = b)) : findA xs a b = none := by
  unfold findA
  rw [List.find?_eq_none]
  intro x hx
  obtain ⟨j, hj, rfl⟩ := List.getElem_of_mem hx
  simpa using h j hj

def arrowVal (r : Option Arrow) : Value := .tuple #[(r.getD arrowZ).val, .bool r.isSome]

theorem Arrow_spec {N : Int} {A : Option Addr} {xs : List Arrow} {c : Nat} {w : World} (h : HRel w N A xs c) (hl : xs.length ≤ 4611686018427387904) (a b : Int) :
    CallsV C.P 29 #[relVal N A xs.length c, .int .i64 a, .int .i64 b] w fun v w' => v = arrowVal (arrowS N xs a b) ∧ Ext w w' := by
  refine callsV_of C_ok (args := [_, _, _]) (plans := []) Try.func29 rfl Try.ntmps29 (by kernel_rfl) (Nat.le_of_ble_eq_true rfl) ?_
  intro g3 w1 h1
  intro g6 w2 h2
  have M2 := ((Mem.start w).alloc h1).alloc h2
  refine ⟨[.int .i64 N, .slice A xs.length c], rfl, M2.rd 1 rfl, ?_⟩
  refine (Check_spec (h.ext M2.ext)).mono ?_
  rintro v w3 ⟨rfl, e3⟩
  have M3 := M2.grow e3
  refine brE_mk (fun hb => ?_) (fun hb => ?_)
  · have hv : chk N xs ≠ 0 := by simpa using hb
    refine ⟨rfl, _, _, M3.get 0 rfl, Nat.le_of_ble_eq_true rfl, rfl, ?_⟩
    intro w4 h4
    have M4 := M3.put 0 rfl h4
    refine ⟨_, rfl, M4.rd 0 rfl, ?_⟩
    exact ⟨by rw [arrowS, if_neg hv]; rfl, M4.ext⟩
  have hv : chk N xs = 0 := by simpa using hb
  have hok := valid_of_chk hv
  refine ⟨_, M3.cell 1 rfl rfl, ?_⟩
  refine (Search_spec (h.reads.ext M3.ext) hok hl ⟨a, b, 0, 0⟩).mono ?_
  rintro v w4 ⟨⟨i, f, rfl, hit⟩, e4⟩
  have M4 := M3.grow e4
  refine brE_mk (fun hf => ?_) (fun hf => ?_)
  · rw [Bool.not_eq_true'] at hf
    refine ⟨rfl, _, _, M4.get 0 rfl, Nat.le_of_ble_eq_true rfl, rfl, ?_⟩
    intro w5 h5
    have M5 := M4.put 0 rfl h5
    refine ⟨_, rfl, M5.rd 0 rfl, ?_⟩
    exact ⟨by rw [arrowS, if_pos hv, findA_none (hit.no hf)]; rfl, M5.ext⟩
  · rw [Bool.not_eq_false'] at hf
    obtain ⟨hi, hh⟩ := hit.yes hf
    obtain ⟨bb, o, hA, hc⟩ := Reads.arrow h.reads hi
    refine ⟨_, M4.cell 1 rfl rfl, ?_⟩
    refine ⟨i, bb, o, rfl, hi, hA, ?_⟩
    refine ⟨xs[i].cells, rfl, M4.oldRd hc, ?_⟩
    refine ⟨rfl, _, _, M4.get 0 rfl, Nat.le_of_ble_eq_true rfl, rfl, ?_⟩
    intro w5 h5
    have M5 := M4.put 0 rfl h5
    refine ⟨xs[i].cells, rfl, M5.rd 0 rfl, ?_⟩
    exact ⟨by rw [arrowS, if_pos hv, findA_of hok hi hh]; rfl, M5.ext⟩

theorem refArrow_spec {N : Int} {A : Option Addr} {xs : List Arrow} {c : Nat} {w : World} (h : HRel w N A xs c) (a b : Int) :
    CallsV C.P 30 #[relVal N A xs.length c, .int .i64 a, .int .i64 b] w fun v w' => v = arrowVal (arrowS N xs a b) ∧ Ext w w' := by
  have hcap := h.cap
  refine callsV_of C_ok (args := [_, _, _]) (plans := []) Try.func30 rfl Try.ntmps30 (by kernel_rfl) (Nat.le_of_ble_eq_true rfl) ?_
  intro g3 w1 h1
  intro g6 w2 h2
  have M2 := ((Mem.start w).alloc h1).alloc h2
  refine ⟨[.int .i64 N, .slice A xs.length c], rfl, M2.rd 1 rfl, ?_⟩
  refine (refCheck_spec (h.ext M2.ext)).mono ?_
  rintro v w3 ⟨rfl, e3⟩
  have M3 := M2.grow e3
  refine brE_mk (fun hb => ?_) (fun hb => ?_)
  · have hv : chk N xs ≠ 0 := by simpa using hb
    refine ⟨rfl, _, _, M3.get 0 rfl, Nat.le_of_ble_eq_true rfl, rfl, ?_⟩
    intro w4 h4
    have M4 := M3.put 0 rfl h4
    refine ⟨_, rfl, M4.rd 0 rfl, ?_⟩
    exact ⟨by rw [arrowS, if_neg hv]; rfl, M4.ext⟩
  have hv : chk N xs = 0 := by simpa using hb
  have hok := valid_of_chk hv
  refine loopE C_ok (fun (i : Nat) => [(1, .int .i64 a), (2, .int .i64 b), (3, .pointer (some ⟨g3, 0, none⟩)), (6, .pointer (some ⟨g6, 0, none⟩)), (8, .int .i64 i)])
    (fun i w' => w' = w3 ∧ i ≤ xs.length ∧ ∀ j (h : j < xs.length), j < i → ¬ (xs[j].fr = a ∧ xs[j].to = b)) (fun i => xs.length - i) 0 ⟨rfl, rfl, rfl, rfl, rfl, trivial⟩
    ⟨rfl, Nat.zero_le _, fun j _ hj => absurd hj (Nat.not_lt_zero _)⟩ ?_
  rintro i w4 ⟨rfl, hi, hall⟩
  refine ⟨_, M3.cell 1 rfl rfl, ?_⟩
  refine brE_dec (fun hlt => ?_) (fun hge => ?_)
  · have hlt : i < xs.length := by have : (i : Int) < (xs.length : Nat) := hlt; omega
    obtain ⟨bb, o, hA, hc⟩ := Reads.arrow h.reads hlt
    have hc := M3.oldRd hc
    have next : IntKind.i64.wrap ((i : Int) + 1) = ((i + 1 : Nat) : Int) := fit ⟨by omega, by omega⟩
    have go : ¬ (xs[i].fr = a ∧ xs[i].to = b) → ∀ j (h : j < xs.length), j < i + 1 → ¬ (xs[j].fr = a ∧ xs[j].to = b) := fun hn j hj hji => by
      rcases Nat.lt_or_ge j i with h | h
      · exact hall j hj h
      · obtain rfl : j = i := by omega
        exact hn
    refine ⟨_, M3.cell 1 rfl rfl, ?_⟩
    refine ⟨i, bb, o, rfl, hlt, hA, ?_⟩
    refine ⟨.int .i64 xs[i].fr, hc 0 _ rfl, ?_⟩
    refine brE_dec (fun ha => ?_) (fun ha => ?_)
    · have ha : xs[i].fr = a := ha
      refine ⟨_, M3.cell 1 rfl rfl, ?_⟩
      refine ⟨i, bb, o, rfl, hlt, hA, ?_⟩
      refine ⟨.int .i64 xs[i].to, hc 1 _ rfl, ?_⟩
      refine brE_dec (fun hb => ?_) (fun hb => ?_)
      · have hb : xs[i].to = b := hb
        refine ⟨_, M3.cell 1 rfl rfl, ?_⟩
        refine ⟨i, bb, o, rfl, hlt, hA, ?_⟩
        refine ⟨xs[i].cells, rfl, hc, ?_⟩
        refine ⟨rfl, _, _, M3.get 0 rfl, Nat.le_of_ble_eq_true rfl, rfl, ?_⟩
        intro w5 h5
        have M5 := M3.put 0 rfl h5
        refine ⟨xs[i].cells, rfl, M5.rd 0 rfl, ?_⟩
        exact ⟨by rw [arrowS, if_pos hv, findA_of hok hlt ⟨ha, hb⟩]; rfl, M5.ext⟩
      · refine ⟨_, next, ?_⟩
        exact ⟨i + 1, ⟨rfl, rfl, rfl, rfl, rfl, trivial⟩, ⟨rfl, hlt, go fun hh => hb hh.2⟩, by omega⟩
    · refine ⟨_, next, ?_⟩
      exact ⟨i + 1, ⟨rfl, rfl, rfl, rfl, rfl, trivial⟩, ⟨rfl, hlt, go fun hh => ha hh.1⟩, by omega⟩
  · have : i = xs.length := by have : ¬ (i : Int) < (xs.length : Nat) := hge; omega
    subst this
    refine ⟨rfl, _, _, M3.get 0 rfl, Nat.le_of_ble_eq_true rfl, rfl, ?_⟩
    intro w5 h5
    have M5 := M3.put 0 rfl h5
    refine ⟨_, rfl, M5.rd 0 rfl, ?_⟩
    exact ⟨by rw [arrowS, if_pos hv, findA_none fun j hj => hall j hj hj]; rfl, M5.ext⟩

/-! ### Arrows compared -/
theorem u43 : Try.prog.underlying 43 = some (.struct #[⟨ "From", 3, 0, false, "", "", 0⟩, ⟨ "To", 3, 1, false, "", "", 8⟩, ⟨ "Rule", 3, 2, false, "", "", 16⟩, ⟨ "Weight", 3, 3, false, "", "", 24⟩]) := by kernel_rfl

theorem eqIn43 (p q : Arrow) (w : World) : (Op.equalIn 10000 43 p.val q.val).run C.P w = .ok (decide (p = q)) w := by
  have hs : C.P.stoodInHeld 43 = false := by kernel_rfl
  have hf : Try.prog.fieldsOf 43 = #[⟨ "From", 3, 0, false, "", "", 0⟩, ⟨ "To", 3, 1, false, "", "", 8⟩, ⟨ "Rule", 3, 2, false, "", "", 16⟩, ⟨ "Weight", 3, 3, false, "", "", 24⟩] := by kernel_rfl
  have hu : C.P.underlying 43 = some (.struct (C.P.fieldsOf 43)) := by show Try.prog.underlying 43 = some (.struct (Try.prog.fieldsOf 43)); rw [hf]; exact u43
  have h3 : C.P.underlying 3 = some (.int .i64) := under3
  have hp : ∀ (i : Nat) (cs : Array Value) (v : Value), cs[i]? = some v → (part 3 cs i).run C.P w = .ok v w := by
    intro i cs v hv
    have := (C_ok.ti (t := 3) (ti := ty3) rfl).run_agg
    simp [part, this, ty3, TD.agg, hv]
  rw [Arrow.val, Arrow.val, run_equalIn_struct w 9999 43 _ _ hu hs]
  show ((Op.eqFields 9999 _ _ (Try.prog.fieldsOf 43).toList).run C.P w) = _
  rw [hf]
  rw [eqFields_run (f := fun x => if x.offset = 0 then decide (p.fr = q.fr) else if x.offset = 1 then decide (p.to = q.to) else if x.offset = 2 then decide (p.rule = q.rule) else decide (p.wt = q.wt))]
  · obtain ⟨a, b, c, d⟩ := p
    obtain ⟨e, f, g, k⟩ := q
    simp
  · intro f hf
    simp only [List.mem_cons, List.not_mem_nil, or_false] at hf
    rcases hf with rfl | rfl | rfl | rfl
    · exact ⟨by decide, .int .i64 p.fr, .int .i64 q.fr, hp 0 _ _ rfl, hp 0 _ _ rfl, eqInt_run h3 w 9998 .i64 p.fr q.fr⟩
    · exact ⟨by decide, .int .i64 p.to, .int .i64 q.to, hp 1 _ _ rfl, hp 1 _ _ rfl, eqInt_run h3 w 9998 .i64 p.to q.to⟩
    · exact ⟨by decide, .int .i64 p.rule, .int .i64 q.rule, hp 2 _ _ rfl, hp 2 _ _ rfl, eqInt_run h3 w 9998 .i64 p.rule q.rule⟩
    · exact ⟨by decide, .int .i64 p.wt, .int .i64 q.wt, hp 3 _ _ rfl, hp 3 _ _ rfl, eqInt_run h3 w 9998 .i64 p.wt q.wt⟩

theorem neq43 (x y : Operand) (p q : Arrow) : EqIs C.P .neq 43 x y p.val q.val (!decide (p = q)) := by
  intro w
  have hm : C.P.eqGuardType C.P.depth 43 = false := by kernel_rfl
  rw [Sem.run_bind, Arrow.val, Arrow.val, run_eqGuard_agg w .neq 43 x y _ _ hm]
  simp only [Result.andThen_ok]
  rw [run_neq_struct]
  have := eqIn43 p q w
  rw [Arrow.val, Arrow.val] at this
  rw [this]
  rfl

end Go.Proofs.Ytdfhfehlmonjjaa
