/- Proved: for every list of facts, four numbers and fact the law FactsCorrects returns true, and its arguments read behind the call as they did before; what the library's variables hold is tied to the program's text. No further condition. -/
import Derived.Test.YthpdkdmbfdmamaaGreatDoorGDf
import Derived.Test.YthpdkdmbfdmamaaGreatDoorGBf
import Derived.Test.YthpdkdmbfdmamaaGreatDoorGDd
import Derived.Test.YthpdkdmbfdmamaaGreatDoorGDe
set_option linter.unusedVariables false
set_option linter.unusedSimpArgs false
set_option linter.unnecessarySimpa false
set_option linter.unusedSectionVars false
namespace Go.Proofs.YthpdkdmbfdmamaaGreatDoor
open Go.Eng Go.RowKit

theorem fflat (l : List Fact) : l.flatMap Fact.cells = fcells l := rfl
theorem appL_ok {l : List Fact} {x : Fact} (h : appE l x = 0) : appL l x = l ++ [x] ∧ (chkF (l ++ [x])).2 = 0 := by
  refine ⟨by unfold appL; rw [if_pos h], ?_⟩
  unfold appE at h
  split at h
  · rename_i h1; exact absurd h h1
  · exact h

set_option maxRecDepth 100000 in
set_option maxHeartbeats 4000000 in
theorem FactsCorrects_spec {w : World} {A : Option Addr} {l : List Fact} {c : Nat} (h : HF w A l c) (T : Tabs w) {which id k day : Int} (hid : In64 id) (hk : In64 k) {x : Fact} (hx : x.Nums) :
    CallsW C.P 11 #[.slice A l.length c, .int .i64 which, .int .i64 id, .int .i64 k, .int .i64 day, x.val] w fun v w' => v = .bool true ∧ Ext w w' := by
  refine callsV_of Cw_ok (args := [_, _, _, _, _, _]) (plans := plans11) Tryz.func11 rfl Tryz.ntmps11 (by kernel_rfl) (Nat.le_of_ble_eq_true rfl) ?_
  have hcap := h.cap
  intro g11 w1 h1
  have M1 : Mem w w1 [(g11, .cells x.cells.toArray 29 (0, 0))] := (Mem.start w).alloc h1
  have hg11 : g11 < w1.heap.size := M1.lt (List.mem_singleton.2 rfl)
  clear h1
  refine brE_dec (fun ha => ?_) (fun ha => ?_)
  · refine (alive_spec w1 (T.ext M1.ext)).mono ?_
    rintro v w2 ⟨rfl, e2⟩
    exact ⟨rfl, M1.ext.trans e2⟩
  have ha : ¬ (l.length : Int) > 30 := ha
  have hl : l.length ≤ 2 ^ 19 := by omega
  refine (voids_spec (h.ext M1.ext) hl hid hk).weak.mono ?_
  rintro v w2 ⟨hv, e2⟩
  have M2 := M1.grow e2
  rcases hv with ⟨y, r, rfl⟩ | ⟨i, hi, rfl, hval, r, rfl, hor⟩
  · intro g13 w3 h3
    have M3 := M2.alloc h3
    refine ⟨rfl, _, _, M3.get 0 rfl, Nat.le_of_ble_eq_true rfl, rfl, ?_⟩
    intro w4 h4
    have M4 := M3.put 0 rfl h4
    refine (alive_spec w4 (T.ext M4.ext)).mono ?_
    rintro _ w5 ⟨rfl, e5⟩
    exact ⟨rfl, M4.ext.trans e5⟩
  have hxi := h.nums _ (List.getElem_mem hi)
  have z64 : In64 0 := ⟨by decide, by decide⟩
  have hVn : (voidF l[i].id id k).Nums := ⟨hid, hk, ⟨by show (0 : Int) ≤ 11; decide, by show (11 : Int) ≤ 255; decide⟩, z64, hxi.id, z64, z64, z64, Nat.zero_le _⟩
  have hV11 : (voidF l[i].id id k).kind = 11 := rfl
  have hVw : (voidF l[i].id id k).what = l[i].id := rfl
  have hVk : (voidF l[i].id id k).known = k := rfl
  generalize voidF l[i].id id k = V at *
  intro g13 w3 h3
  have M3 := M2.alloc h3
  refine ⟨rfl, _, _, M3.get 0 rfl, Nat.le_of_ble_eq_true rfl, rfl, ?_⟩
  intro w4 h4
  have M4 : Mem w w4 [(g13, .cells V.cells.toArray 29 (0, 0)), (g11, .cells x.cells.toArray 29 (0, 0))] := M3.put 0 rfl h4
  have e24 : Ext w2 w4 := h4.ext_of h3.ext (by rw [h3.new]; exact Nat.le_refl _)
  have ho4 := NewF.ext hor e24
  clear M3 h3 h4 M1 hor
  obtain ⟨bi, oi, hAi, hci⟩ := Reads.fact (h.reads.ext M4.ext) hi
  refine ⟨i, bi, oi, rfl, hi, hAi, ?_⟩
  refine ⟨.int .u8 l[i].kind, hci 2 _ rfl, ?_⟩
  refine brE_dec (fun a1 => ?_) (fun a1 => ?_)
  · refine (alive_spec w4 (T.ext M4.ext)).mono ?_
    rintro _ w5 ⟨rfl, e5⟩
    exact ⟨rfl, M4.ext.trans e5⟩
  have a1 : ¬ l[i].kind = 11 := a1
  refine ⟨_, M4.cell 1 rfl rfl, ?_⟩
  refine ⟨i, bi, oi, rfl, hi, hAi, ?_⟩
  refine ⟨.int .u8 l[i].kind, hci 2 _ rfl, ?_⟩
  refine brE_ndec (fun a2 => ?_) (fun a2 => ?_)
  · refine (alive_spec w4 (T.ext M4.ext)).mono ?_
    rintro _ w5 ⟨rfl, e5⟩
    exact ⟨rfl, M4.ext.trans e5⟩
  have a2 : x.kind = l[i].kind := a2
  have hnum1 : ∀ y ∈ l ++ [V], y.Nums := nums_append h.nums fun y hy => by rw [List.mem_singleton.1 hy]; exact hVn
  refine loopE Cw_ok (fun (m : Nat) => [(0, .slice A l.length c), (1, .int .i64 i), (3, .int .i64 k), (4, .int .i64 day), (11, .pointer (some ⟨g11, 0, none⟩)), (13, .pointer (some ⟨g13, 0, none⟩)), (14, r), (55, .slice A l.length c), (56, .int .i64 l.length), (57, .int .i64 m)])
    (fun m w' => m ≤ l.length ∧ Ext w4 w' ∧ ∀ q (hq : q < l.length), q < m → ¬ (l[q].kind = 11 ∧ l[q].what = l[i].id)) (fun m => l.length - m) 0
    ⟨rfl, rfl, rfl, rfl, rfl, rfl, rfl, rfl, rfl, rfl, trivial⟩ ⟨Nat.zero_le _, Ext.refl _, fun q _ hq => absurd hq (Nat.not_lt_zero _)⟩ ?_
  rintro m w5 ⟨hm, e5, hno⟩
  have M5 := M4.grow e5
  refine brE_dec (fun hlt => ?_) (fun hge => ?_)
  · have hlt : m < l.length := by have : (m : Int) < (l.length : Nat) := hlt; omega
    obtain ⟨b, o, hA, hc⟩ := Reads.fact (h.reads.ext M5.ext) hlt
    refine ⟨m, b, o, rfl, hlt, hA, ?_⟩
    refine ⟨l[m].cells, rfl, hc, ?_⟩
    intro g17 w6 h6
    have M6 := M5.alloc h6
    refine ⟨rfl, _, _, M6.get 0 rfl, Nat.le_of_ble_eq_true rfl, rfl, ?_⟩
    intro w7 h7
    have e57 : Ext w5 w7 := h7.ext_of h6.ext (by rw [h6.new]; exact Nat.le_refl _)
    have M7 : Mem w w7 [(g17, .cells l[m].cells.toArray 29 (0, 0)), (g13, .cells V.cells.toArray 29 (0, 0)), (g11, .cells x.cells.toArray 29 (0, 0))] := M6.put 0 rfl h7
    clear M6 h6 h7
    have go : ¬ (l[m].kind = 11 ∧ l[m].what = l[i].id) → ∃ s' : Nat, s' = m + 1 ∧ (s' ≤ l.length ∧ Ext w4 w7 ∧ ∀ q (hq : q < l.length), q < s' → ¬ (l[q].kind = 11 ∧ l[q].what = l[i].id)) ∧ l.length - s' < l.length - m := fun hn => ⟨_, rfl, ⟨hlt, e5.trans e57, fun q hq hqm => by
      rcases Nat.lt_or_ge q m with h | h
      · exact hno q hq h
      · obtain rfl : q = m := by omega
        exact hn⟩, by omega⟩
    have next : IntKind.i64.wrap ((m : Int) + 1) = ((m + 1 : Nat) : Int) := fit ⟨by omega, by omega⟩
    refine ⟨_, M7.cell 0 rfl rfl, ?_⟩
    refine brE_dec (fun b1 => ?_) (fun b1 => ?_)
    · have b1 : l[m].kind = 11 := b1
      refine ⟨_, M7.cell 0 rfl rfl, ?_⟩
      refine ⟨_, M7.cell 1 rfl rfl, ?_⟩
      refine brE_dec (fun b2 => ?_) (fun b2 => ?_)
      · refine (alive_spec w7 (T.ext M7.ext)).mono ?_
        rintro _ w8 ⟨rfl, e8⟩
        exact ⟨rfl, M7.ext.trans e8⟩
      · have b2 : ¬ l[m].what = l[i].id := by rw [← hVw]; exact b2
        refine ⟨_, next, ?_⟩
        obtain ⟨s', e, q1, q2⟩ := go (fun hh => b2 hh.2)
        subst e
        exact ⟨m + 1, ⟨rfl, rfl, rfl, rfl, rfl, rfl, rfl, rfl, rfl, rfl, trivial⟩, q1, q2⟩
    · have b1 : ¬ l[m].kind = 11 := b1
      refine ⟨_, next, ?_⟩
      obtain ⟨s', e, q1, q2⟩ := go (fun hh => b1 hh.1)
      subst e
      exact ⟨m + 1, ⟨rfl, rfl, rfl, rfl, rfl, rfl, rfl, rfl, rfl, rfl, trivial⟩, q1, q2⟩
  have hml : m = l.length := by have : ¬ (m : Int) < (l.length : Nat) := hge; omega
  subst hml
  have hno : ∀ y ∈ l, ¬ (y.kind = 11 ∧ y.what = l[i].id) := fun y hy => by
    obtain ⟨q, hq, rfl⟩ := List.getElem_of_mem hy
    exact hno q hq hq
  clear hge hm
  refine ⟨rfl, _, _, M5.get 1 rfl, Nat.le_of_ble_eq_true rfl, rfl, ?_⟩
  intro w6 h6
  have hX : ({ x with known := k } : Fact).Nums := ⟨hx.id, hk, hx.kind, hx.who, hx.what, hx.other, hx.since, hx.til, hx.name⟩
  have hXk : ({ x with known := k } : Fact).known = k := rfl
  have hXkind : ({ x with known := k } : Fact).kind = l[i].kind := a2
  have M6 : Mem w w6 [(g13, .cells V.cells.toArray 29 (0, 0)), (g11, .cells ({ x with known := k } : Fact).cells.toArray 29 (0, 0))] := M5.put 1 rfl h6
  have ho6 : NewF w1.heap.size w6 r (l ++ [V]) := ownsRow_put (NewF.ext ho4 e5) h6 (fun e => by have := (World.ownsRow.lt (NewF.ext ho4 e5) g11 e).1; omega)
  clear ho4 h6 M5 e5
  generalize ({ x with known := k } : Fact) = X at *
  obtain ⟨A14, c14, rfl, hf6⟩ := ho6.hf hnum1
  have hlv : (l ++ [V]).length = l.length + 1 := by simp
  refine ⟨X.cells, rfl, M6.rd 1 rfl, ?_⟩
  refine (Append_spec hf6 (by omega) hX).weak.mono ?_
  rintro _ w7 ⟨⟨r7, rfl, ho7⟩, e7⟩
  have M7 := M6.grow e7
  refine brE_ndec (fun a3 => ?_) (fun a3 => ?_)
  · refine (alive_spec w7 (T.ext M7.ext)).mono ?_
    rintro _ w8 ⟨rfl, e8⟩
    exact ⟨rfl, M7.ext.trans e8⟩
  obtain ⟨hap, hval2⟩ := appL_ok a3
  rw [hap] at ho7
  clear hap a3
  have hnum2 : ∀ y ∈ (l ++ [V]) ++ [X], y.Nums := nums_append hnum1 fun y hy => by rw [List.mem_singleton.1 hy]; exact hX
  intro g8 w8 h8
  have ho8 : w8.ownsRow w7.heap.size 29 9 (.slice (some ⟨g8, 0, none⟩) 0 0) 0 [] := owns_block (cs := []) h8.here (by rw [h8.new]; exact Nat.le_refl _) rfl (Nat.zero_le _)
  have hrl := h.reads.ext (M7.ext.trans h8.ext)
  refine ⟨rfl, rfl, rfl, w7.heap.size, 0, [], fcells l, ho8, h8.ext.size, Nat.le_of_ble_eq_true rfl, rfl, fcells_length l, hrl, someF hrl, oneF l, by omega, by simp only [maxLen]; omega, ?_⟩
  intro v9 w9 ho9 hg9 _
  have e79 : Ext w7 w9 := app_ext h8.ext ho8 hg9
  rw [Nat.zero_add, List.nil_append] at ho9
  obtain ⟨g9, cap9, rfl⟩ : ∃ g cap, v9 = .slice (some ⟨g, 0, none⟩) l.length cap := by
    obtain ⟨_, ⟨_, h0⟩ | ⟨g, cap, cur, hv, _⟩⟩ := ho9
    · omega
    · exact ⟨g, cap, hv⟩
  have M9 := M7.grow e79
  obtain ⟨cur9, hh9, hb9, hl9, _, _, _, _, st9⟩ := ownsRow_open ho9
  refine ⟨X.cells, rfl, M9.rd 1 rfl, ?_⟩
  refine ⟨i, g9, 0, rfl, hi, rfl, ?_⟩
  refine ⟨rfl, _, _, hh9, by show 0 + i * 9 + 9 ≤ cur9.length; omega, rfl, ?_⟩
  intro w10 h10
  have h10 : Put w9 g9 (.cells (splice cur9 (i * 9) X.cells).toArray 29 (0, 0)) w10 := put_eq h10 (by show Obj.cells (splice cur9 (0 + i * 9) X.cells).toArray _ _ = _; rw [Nat.zero_add])
  have ho10 := st9 (i * 9) X.cells w10 (by show i * 9 + 9 ≤ l.length * 9; omega) h10
  have hs10 : splice (fcells l) (i * 9) X.cells = fcells (l.set i X) := flat_field (c := 0) (y := X) Fact.len hi (by show splice l[i].cells 0 X.cells = X.cells; exact splice_whole (by show 9 ≤ 9; decide)) (by show 0 + 9 ≤ 9; decide)
  rw [hs10] at ho10
  have e710 : Ext w7 w10 := h10.ext_of e79 hb9
  clear hs10 st9 hl9 hh9 h10 ho9 hg9 ho8 h8 hrl
  have hset : ∀ Y : Fact, (l.set i Y).length = l.length := fun Y => by simp
  have hi' : ∀ Y : Fact, i < (l.set i Y).length := fun Y => by rw [hset]; exact hi
  obtain ⟨bj, oj, hAj, hcj⟩ := Reads.fact (h.reads.ext (M7.ext.trans e710)) hi
  refine ⟨i, bj, oj, rfl, hi, hAj, ?_⟩
  refine ⟨.int .i64 l[i].id, hcj 0 _ rfl, ?_⟩
  refine ⟨i, bj, oj, rfl, hi, hAj, ?_⟩
  refine ⟨.int .i64 l[i].known, hcj 1 _ rfl, ?_⟩
  obtain ⟨cur10, hh10, _, hl10, _, _, _, _, st10⟩ := ownsRow_open ho10
  refine ⟨i, g9, 0, rfl, hi, rfl, ?_⟩
  refine ⟨rfl, _, _, hh10, by show 0 + i * 9 + 1 ≤ cur10.length; omega, rfl, ?_⟩
  intro w11 h11
  have h11 : Put w10 g9 (.cells (splice cur10 (i * 9) [.int .i64 l[i].id]).toArray 29 (0, 0)) w11 := put_eq h11 (by show Obj.cells (splice cur10 (0 + i * 9) [.int .i64 l[i].id]).toArray _ _ = _; rw [Nat.zero_add])
  have ho11 := st10 (i * 9) [.int .i64 l[i].id] w11 (by show i * 9 + 1 ≤ l.length * 9; omega) h11
  have hs11 : splice (fcells (l.set i X)) (i * 9) [.int .i64 l[i].id] = fcells (l.set i { X with id := l[i].id }) := by
    have := flat_field (c := 0) (l := l.set i X) (y := { X with id := l[i].id }) (vs := [.int .i64 l[i].id]) Fact.len (hi' X) (by rw [List.getElem_set_self]; rfl) (by show 0 + 1 ≤ 9; decide)
    rw [List.set_set] at this
    exact this
  rw [hs11] at ho11
  have e711 : Ext w7 w11 := h11.ext_of e710 hb9
  clear hs11 st10 hl10 hh10 h11 ho10
  obtain ⟨cur11, hh11, _, hl11, _, _, _, _, st11⟩ := ownsRow_open ho11
  refine ⟨i, g9, 0, rfl, hi, rfl, ?_⟩
  refine ⟨rfl, _, _, hh11, by show 0 + i * 9 + 1 + 1 ≤ cur11.length; omega, rfl, ?_⟩
  intro w12 h12
  have h12 : Put w11 g9 (.cells (splice cur11 (i * 9 + 1) [.int .i64 l[i].known]).toArray 29 (0, 0)) w12 := put_eq h12 (by show Obj.cells (splice cur11 (0 + i * 9 + 1) [.int .i64 l[i].known]).toArray _ _ = _; rw [Nat.zero_add])
  have ho12 := st11 (i * 9 + 1) [.int .i64 l[i].known] w12 (by show i * 9 + 1 + 1 ≤ l.length * 9; omega) h12
  have hs12 : splice (fcells (l.set i { X with id := l[i].id })) (i * 9 + 1) [.int .i64 l[i].known] = fcells (l.set i (putAs X l[i])) := by
    have := flat_field (c := 1) (l := l.set i { X with id := l[i].id }) (y := putAs X l[i]) (vs := [.int .i64 l[i].known]) Fact.len (hi' _) (by rw [List.getElem_set_self]; rfl) (by show 1 + 1 ≤ 9; decide)
    rw [List.set_set] at this
    exact this
  rw [hs12] at ho12
  have e712 : Ext w7 w12 := h12.ext_of e711 hb9
  clear hs12 st11 hl11 hh11 h12 ho11
  have ho12 : NewF w7.heap.size w12 (.slice (some ⟨g9, 0, none⟩) l.length cap9) (l.set i (putAs X l[i])) := by
    unfold NewF
    rw [hset]
    exact ho12
  have hput : (putAs X l[i]).Nums := ⟨hxi.id, hxi.known, hX.kind, hX.who, hX.what, hX.other, hX.since, hX.til, hX.name⟩
  have hnum3 : ∀ y ∈ l.set i (putAs X l[i]), y.Nums := fun y hy => by
    rcases List.mem_or_eq_of_mem_set hy with hy | rfl
    · exact h.nums y hy
    · exact hput
  have M12 := M7.grow e712
  obtain ⟨A7, c7, rfl, hf7⟩ := ho7.hf hnum2
  obtain ⟨A12, c12, he12, hf12⟩ := ho12.hf hnum3
  refine (alive_spec w12 (T.ext M12.ext)).mono ?_
  rintro _ w13 ⟨rfl, e13⟩
  have hlv2 : ((l ++ [V]) ++ [X]).length = l.length + 2 := by simp
  refine (At_spec (hf7.ext (e712.trans e13)) (by omega) k day).weak.mono ?_
  rintro v14 w14 ⟨ho14, e14⟩
  have hf14 := hf12.ext (e13.trans e14)
  have hat := At_spec hf14 (by rw [hset]; omega) k day
  rw [← he12] at hat
  refine hat.weak.mono ?_
  rintro v15 w15 ⟨ho15, e15⟩
  have hperm := correct_perm (day := day) hi hval hV11 hVw hVk hval2 hXk hXkind a1 hno
  have hal := atL_length k day ((l ++ [V]) ++ [X])
  generalize atL k day ((l ++ [V]) ++ [X]) = P at *
  generalize atL k day (l.set i (putAs X l[i])) = Q at *
  obtain ⟨A14', c14', rfl, hr14, _⟩ := (ho14.ext e15).slice
  obtain ⟨A15, c15, rfl, hr15, _⟩ := ho15.slice
  refine (alike_spec (c := c14') (d := c15) hr14 hr15 (by omega) hperm).weak.mono ?_
  rintro _ w16 ⟨rfl, e16⟩
  exact ⟨rfl, (M12.ext.trans (((e13.trans e14).trans e15).trans e16))⟩

end Go.Proofs.YthpdkdmbfdmamaaGreatDoor

namespace Go.Proofs.YthpdkdmbfdmamaaGreatDoor
open Go.Eng Go.RowKit Go.ChangeShapes Go.WideShapes Go.ChangeAt
open Go.ChangeMaps (open_string shut_string)

set_option maxRecDepth 100000 in
theorem factsCorrects_lifted (os : Os) (started : os.Started) (H : Type) (enc : TypeId × Value → H) :
    ReturnsInHanded {} Tryz.checked os 11 .any (fun w args => (Rows.factsCorrectsSpec.pre enc Tryz.prog Tryz.f11 Rows.factsCorrectsRow.domain false w args ∧ laidMet Tryz.prog laidL w) ∧ sizedMet enc Tryz.prog Tryz.f11 (OpenSpec.ofChange Rows.factsCorrectsSpec) false w args)
      (Rows.factsCorrectsSpec.post enc Tryz.prog Tryz.f11 false true false false) := by
  refine returnsInHanded_of_change_and (C := Tryz.checked) (X := fun w _ => laidMet Tryz.prog laidL w) (fun _ _ _ hh h => h.of_heap hh) own started (by kernel_rfl) Tryz.func11
    (ChangeSpec.witness_at (enc := enc) (C := Tryz.checked) (os := os) (X := fun w _ => laidMet Tryz.prog laidL w) false (laidWorld os) #[.slice none 0 0, .int .i64 0, .int .i64 0, .int .i64 0, .int .i64 0, .agg #[.int .i64 0, .int .i64 0, .int .u8 0, .int .i64 0, .int .i64 0, .int .i64 0, .int .i64 0, .int .i64 0, .string ⟨#[]⟩]] 8 rfl (by kernel_rfl) (by kernel_rfl) (by kernel_rfl) (by kernel_rfl) (by kernel_rfl) (laidWorld_met os _)) ?_
  intro W base args ds gs before hval0 hW _ hsz0 hL _
  have T := tabs_of_laid hL
  have hval : ∀ (j : Nat) t v, Tryz.f11.params[j]? = some t → args[j]? = some v → Value.okWide Tryz.prog W .any base t v := hval0
  have hW' := hW
  obtain ⟨p, q, hA0, hV, rfl, hfz, hnd⟩ := hW
  have hA : DataW.TrodAll enc Tryz.prog W 0 (fun _ => true) true [22, 3, 3, 3, 3, 29] args.toList ds p := hA0
  obtain ⟨v0, v1, v2, v3, v4, v5, d0, d1, d2, d3, d4, d5, p0, p1, p2, p3, p4, p5, rfl, rfl, rfl, h0, h1, h2, h3, h4, h5⟩ := trodAll_n6 hA
  obtain ⟨rfl, rfl⟩ := trodVars_none hV
  obtain ⟨A0, l0, c0, rfl, hf0⟩ := open_facts (hval 0 22 v0 rfl rfl) h0
  obtain ⟨i1, rfl, _, _, wf1⟩ := open_int under3 (hval 1 3 v1 rfl rfl) h1
  obtain ⟨i2, rfl, _, _, wf2⟩ := open_int under3 (hval 2 3 v2 rfl rfl) h2
  obtain ⟨i3, rfl, _, _, wf3⟩ := open_int under3 (hval 3 3 v3 rfl rfl) h3
  obtain ⟨i4, rfl, _, _, wf4⟩ := open_int under3 (hval 4 3 v4 rfl rfl) h4
  obtain ⟨x5, rfl, hx5⟩ := open_fact (hval 5 29 v5 rfl rfl) h5
  refine (FactsCorrects_spec hf0 T (wf_in64 wf2) (wf_in64 wf3) hx5 W (Same.refl W)).mono ?_
  rintro e W' ⟨⟨v, w'', rfl, ⟨rfl, he⟩, hs⟩, _⟩
  have he' : Ext W W' := he.same_right hs
  refine ⟨_, rfl, ?_⟩
  refine ⟨[d0, d1, d2, d3, d4, d5], [], (p0 ++ (p1 ++ (p2 ++ (p3 ++ (p4 ++ (p5)))))) ++ [], [], p0 ++ (p1 ++ (p2 ++ (p3 ++ (p4 ++ (p5))))), [], hW', ?_, ?_, rfl, Below.frame he' _, fun h => by cases h⟩
  · exact trodAll_mk1 (shut_bool under4 true)
  · exact trodAll_mkn6 (Below.trod laidOut recFs rowFs h0 he' fun x hx => hW'.lt x (by simp [hx])) (Below.trod laidOut rec3 row3 h1 he' fun x hx => hW'.lt x (by simp [hx])) (Below.trod laidOut rec3 row3 h2 he' fun x hx => hW'.lt x (by simp [hx])) (Below.trod laidOut rec3 row3 h3 he' fun x hx => hW'.lt x (by simp [hx])) (Below.trod laidOut rec3 row3 h4 he' fun x hx => hW'.lt x (by simp [hx])) (Below.trod laidOut recF rowF h5 he' fun x hx => hW'.lt x (by simp [hx]))

set_option maxHeartbeats 4000000 in
theorem factsCorrects_closed : joinedFacts Tryz.pinned.checked.prog 11 Tryz.f11 Rows.factsCorrectsSpec Rows.factsCorrectsRow = true := by
  unfold joinedFacts
  iterate 31 refine Bool.and_eq_true_iff.2 ⟨?_, ?_⟩
  · as_aux_lemma => kernel_rfl
  · exact kLaid
  · exact kMaps
  · as_aux_lemma => kernel_rfl
  · as_aux_lemma => kernel_rfl
  · as_aux_lemma => kernel_rfl
  · exact kStops
  · as_aux_lemma => kernel_rfl
  · exact kKnobs
  · as_aux_lemma => kernel_rfl
  · as_aux_lemma => kernel_rfl
  · as_aux_lemma => kernel_rfl
  · as_aux_lemma => kernel_rfl
  · as_aux_lemma => kernel_rfl
  · as_aux_lemma => kernel_rfl
  · as_aux_lemma => kernel_rfl
  · as_aux_lemma => kernel_rfl
  · as_aux_lemma => kernel_rfl
  · as_aux_lemma => kernel_rfl
  · as_aux_lemma => kernel_rfl
  · as_aux_lemma => kernel_rfl
  · as_aux_lemma => kernel_rfl
  · exact beq_iff_eq.2 kPlain.symm
  · as_aux_lemma => kernel_rfl
  · exact kHeard
  · exact kEnter
  · exact beq_iff_eq.2 kLifts.symm
  · as_aux_lemma => kernel_rfl
  · as_aux_lemma => kernel_rfl
  · as_aux_lemma => kernel_rfl
  · as_aux_lemma => kernel_rfl
  · as_aux_lemma => kernel_rfl

theorem factsCorrects_named : Tryz.pinned.checked.prog.funcNamed Rows.factsCorrectsRow.func = some 11 := by kernel_rfl
theorem factsCorrects_func : Tryz.pinned.checked.prog.funcs[11]? = some Tryz.f11 := Tryz.func11
theorem factsCorrects_inst : Tryz.f11.isInstance Tryz.pinned.checked.prog Rows.factsCorrectsRow.origin Rows.factsCorrectsRow.targs := of_decide_eq_true (by kernel_rfl)
theorem factsCorrects_wrap : Tryz.f11.isWrapper Tryz.pinned.checked.prog Rows.factsCorrectsRow.wrapper Rows.factsCorrectsRow.mainSum := by
  unfold Func.isWrapper; first | (rw [if_pos (by decide +kernel)]; kernel_rfl) | (rw [if_neg (by decide +kernel)]; exact ⟨rfl, rfl⟩)
theorem factsCorrects_text : Rows.factsCorrectsRow.wfByText (OpenSpec.ofChange Rows.factsCorrectsSpec) = true := by kernel_rfl
theorem factsCorrects_main : Tryz.pinned.checked.prog.mainIs = some (Rows.factsCorrectsCard.stood.harness.1, Rows.factsCorrectsCard.stood.harness.2.toList) := by kernel_rfl
theorem factsCorrects_looks : true = Tryz.pinned.checked.prog.looks [] := by kernel_rfl
theorem factsCorrects_goes : false = Rows.factsCorrectsRow.goesBy Tryz.pinned.checked.prog := by kernel_rfl
theorem factsCorrects_stand : (Tryz.f11.params.toList.all fun t => !Tryz.pinned.checked.prog.wantsStandIn t) = true := by kernel_rfl

theorem factsCorrects_holds : Rows.FactsCorrectsSaid :=
  OpenClaim.holds_of_wide 11 Tryz.f11 rfl rfl rfl rfl rfl rfl rfl ⟨rfl, rfl, rfl, rfl, rfl⟩ rfl rfl rfl rfl rfl factsCorrects_named factsCorrects_func factsCorrects_closed factsCorrects_inst factsCorrects_wrap
    (fun os started H enc _ => factsCorrects_lifted os started H enc)

theorem factsCorrects : Rows.FactsCorrectsCardSaid :=
  Claim7.holds_tied_plain_at .later [] [.data, .data, .data, .sentinel, .sentinel] true Rows.factsCorrectsCard.stood.harness true
    factsCorrects_holds (fun _ h => by cases h) factsCorrects_text (fun _ h => by cases h) factsCorrects_row_tie rfl ⟨rfl, rfl⟩ factsCorrects_main rfl
    (fun f fn hf hfn => by
      obtain rfl : f = 11 := Option.some.inj (factsCorrects_named.symm.trans hf) |>.symm
      obtain rfl : fn = Tryz.f11 := (Option.some.inj (factsCorrects_func.symm.trans hfn)).symm
      refine ⟨factsCorrects_looks, fun j t ht => ?_⟩
      have hm : t ∈ Tryz.f11.params.toList := by
        have := Array.mem_of_getElem? ht
        simpa using this
      exact Bool.not_eq_true' _ |>.mp (List.all_eq_true.1 factsCorrects_stand t hm))
    factsCorrects_goes

#print axioms factsCorrects
end Go.Proofs.YthpdkdmbfdmamaaGreatDoor
