/- a part of the proof: steps, walks and plain laws that the law below stands on; no condition. -/
import Derived.Test.YtcnbpfecgokhiaaGreatDoorDWf
import Derived.Test.YtcnbpfecgokhiaaGreatDoorDUb
import Derived.Test.YtcnbpfecgokhiaaGreatDoorDWk
import Derived.Test.YtcnbpfecgokhiaaGreatDoorDUc
set_option linter.unusedVariables false
set_option linter.unusedSimpArgs false
set_option linter.unnecessarySimpa false
set_option linter.unusedSectionVars false
namespace Go.Proofs.YtcnbpfecgokhiaaGreatDoor
open Go.Eng Go.RowKit

theorem offrow {w : World} {base e size n g t : Nat} {v : Value} {xs : List Value} {c : Array Value} {fr : Nat × Nat} (h : w.ownsRow base e size v n xs) (hg : w.heap[g]? = some (.cells c t fr)) (hne : t ≠ e) : v.ownBlock ≠ some g := fun hv => by
  obtain ⟨_, cur, hc⟩ := owns_at h hv
  rw [hg] at hc
  simp at hc
  exact hne hc.2.1

theorem row_openB {α : Type} {enc : α → List Value} {k e : Nat} (hk : ∀ x, (enc x).length = k) (k0 : 0 < k) {B : Nat} {w : World} {v : Value} {l : List α} (h : w.ownsRow B e k v l.length (l.flatMap enc)) {i : Nat} (hi : i < l.length) :
    ∃ g cap, ∃ cur : List Value, v = .slice (some ⟨g, 0, none⟩) l.length cap ∧ w.heap[g]? = some (.cells cur.toArray e (0, 0)) ∧ 0 + i * k + k ≤ cur.length ∧ v.ownBlock = some g ∧ Rd w g (0 + i * k) (enc l[i]) ∧
      ∀ (c : Nat) (vs : List Value) (y : α) (w' : World), splice (enc l[i]) c vs = enc y → c + vs.length ≤ k → Put w g (.cells (splice cur (0 + i * k + c) vs).toArray e (0, 0)) w' → w'.ownsRow B e k v (l.set i y).length ((l.set i y).flatMap enc) := by
  have hv : ∃ g cap, v = .slice (some ⟨g, 0, none⟩) l.length cap := by
    obtain ⟨_, ⟨_, h0⟩ | ⟨g, cap, cur, hv, _⟩⟩ := h
    · omega
    · exact ⟨g, cap, hv⟩
  obtain ⟨g, cap, rfl⟩ := hv
  obtain ⟨cur, hg, _, hn, _, _, hxl, ht, hput⟩ := ownsRow_open h
  have hb : (i + 1) * k ≤ l.length * k := Nat.mul_le_mul_right k hi
  rw [Nat.add_mul, Nat.one_mul] at hb
  obtain ⟨A, c2, hA, hr, _⟩ := reads_of_owns h
  refine ⟨g, cap, cur, rfl, hg, by omega, rfl, ?_, fun c vs y w' h1 h2 h3 => ?_⟩
  · cases hA
    obtain ⟨b, o, hb2, hrd⟩ := Reads.elem hk k0 hr hi
    cases hb2
    exact hrd
  · have := hput (0 + i * k + c) vs w' (by omega) h3
    rw [Nat.zero_add, flat_field hk hi h1 h2] at this
    rw [List.length_set]
    exact this

theorem refDay_spec {w : World} {A : Option Addr} {es : List Entry} {c : Nat} (h : HL Entry.cells w A es c) : CallsV C.P 21 #[.agg #[.slice A es.length c]] w fun v w' => v = .int .i64 (lastDay es) ∧ Ext w w' := by
  have hcap := h.cap
  refine callsV_of C_ok (args := [_]) (plans := []) Tryz.func21 rfl Tryz.ntmps21 (by kernel_rfl) (Nat.le_of_ble_eq_true rfl) ?_
  intro g1 w1 h1
  have M1 : Mem w w1 [(g1, .cells #[.slice A es.length c] 30 (0, 0))] := (Mem.start w).alloc h1
  refine ⟨_, M1.cell 0 rfl rfl, ?_⟩
  refine brE_dec (fun b1 => ?_) (fun b1 => ?_)
  · have b1 : ((es.length : Nat) : Int) = 0 := b1
    have e : es = [] := List.length_eq_zero_iff.1 (by omega)
    exact ⟨by rw [e]; rfl, M1.ext⟩
  have b1 : ¬ ((es.length : Nat) : Int) = 0 := b1
  refine ⟨_, M1.cell 0 rfl rfl, ?_⟩
  refine ⟨_, M1.cell 0 rfl rfl, ?_⟩
  refine ⟨((es.length - 1 : Nat) : Int), by show IntKind.i64.wrap (((es.length : Nat) : Int) - 1) = _; rw [fit ⟨by omega, by omega⟩]; omega, ?_⟩
  obtain ⟨b, o, hA, hrd⟩ := Reads.elem Entry.len (by omega) (h.ext M1.ext).reads (i := es.length - 1) (by omega)
  refine ⟨es.length - 1, b, o, rfl, (by omega : es.length - 1 < es.length), hA, ?_⟩
  refine ⟨_, hrd 1 _ rfl, ?_⟩
  refine ⟨congrArg _ ?_, M1.ext⟩
  unfold lastDay
  rw [List.getLast?_eq_getElem?, List.getElem?_eq_getElem (by omega)]; rfl

set_option maxRecDepth 100000 in
theorem refAsOf_spec {w : World} {A : Option Addr} {es : List Entry} {c : Nat} (h : HL Entry.cells w A es c) (hl : es.length ≤ 2 ^ 16) (day : Int) :
    CallsV C.P 101 #[.agg #[.slice A es.length c], .int .i64 day] w fun v w' => (∃ v', v = .agg #[v'] ∧ NewL Entry.cells 39 24 w.heap.size w' v' (asOfL es day)) ∧ Ext w w' := by
  refine callsV_of C_ok (args := [_, _]) (plans := plans101) Tryz.func101 rfl Tryz.ntmps101 (by kernel_rfl) (Nat.le_of_ble_eq_true rfl) ?_
  intro g1 w1 h1
  have M1 := (Mem.start w).alloc h1
  intro g4 w2 h2
  have M2 := M1.alloc h2
  intro g5 w3 h3
  have M3 : Mem w w3 [(g5, .cells #[.slice none 0 0] 30 (0, 0)), (g4, .cells #[.slice none 0 0] 30 (0, 0)), (g1, .cells #[.slice A es.length c] 30 (0, 0))] := M2.alloc h3
  clear M1 M2
  refine loopE C_ok (fun (p : Nat × Value) => [(1, .int .i64 day), (2, .pointer (some ⟨g1, 0, none⟩)), (4, .pointer (some ⟨g4, 0, none⟩)), (5, .pointer (some ⟨g5, 0, none⟩)), (6, .int .i64 p.1)])
    (fun p w' => p.1 ≤ es.length ∧ Mem w w' [(g5, .cells #[p.2] 30 (0, 0)), (g4, .cells #[.slice none 0 0] 30 (0, 0)), (g1, .cells #[.slice A es.length c] 30 (0, 0))] ∧ NewL Entry.cells 39 24 w.heap.size w' p.2 (asOfL (es.take p.1) day)) (fun p => es.length - p.1) (0, .slice none 0 0) ⟨rfl, rfl, rfl, rfl, rfl, trivial⟩
    ⟨Nat.zero_le _, M3, newL_nil⟩ ?_
  rintro ⟨i, v⟩ w4 ⟨hi', M4', ho'⟩
  have hi : i ≤ es.length := hi'
  have M4 : Mem w w4 [(g5, .cells #[v] 30 (0, 0)), (g4, .cells #[.slice none 0 0] 30 (0, 0)), (g1, .cells #[.slice A es.length c] 30 (0, 0))] := M4'
  have ho : NewL Entry.cells 39 24 w.heap.size w4 v (asOfL (es.take i) day) := ho'
  clear hi' M4' ho'
  refine ⟨_, M4.cell 2 rfl rfl, ?_⟩
  refine brE_dec (fun hlt => ?_) (fun hge => ?_)
  · have hlt : i < es.length := by have : (i : Int) < (es.length : Nat) := hlt; omega
    obtain ⟨b, o, hA, hc⟩ := Reads.elem Entry.len (by omega) (h.ext M4.ext).reads hlt
    have next : IntKind.i64.wrap ((i : Int) + 1) = ((i + 1 : Nat) : Int) := fit ⟨by omega, by omega⟩
    have hal : (asOfL (es.take i) day).length ≤ es.length := Nat.le_trans (List.length_filter_le _ _) (by rw [List.length_take]; omega)
    have hsucc : asOfL (es.take (i + 1)) day = asOfL (es.take i) day ++ if es[i].day ≤ day then [es[i]] else [] := by rw [List.take_succ_eq_append_getElem hlt, asOf_snoc]
    refine ⟨_, M4.cell 2 rfl rfl, ?_⟩
    refine ⟨i, b, o, rfl, hlt, hA, ?_⟩
    refine ⟨_, hc 1 _ rfl, ?_⟩
    refine brE_dec (fun hd => ?_) (fun hd => ?_)
    · have hd : es[i].day ≤ day := hd
      rw [if_pos hd] at hsucc
      refine ⟨_, M4.cell 0 rfl rfl, ?_⟩
      refine ⟨_, M4.cell 2 rfl rfl, ?_⟩
      refine ⟨i, b, o, rfl, hlt, hA, ?_⟩
      refine ⟨es[i].cells, rfl, hc, ?_⟩
      intro g7 w5 h5
      refine ⟨h5.ext, ?_⟩
      have M5 := M4.grow h5.ext
      have ho5 := ho.ext h5.ext
      refine ⟨rfl, rfl, rfl, w.heap.size, _, _, es[i].cells, ho5, M5.ext.size, Nat.le_of_ble_eq_true rfl, rfl, rfl, .inr ⟨g7, 0, rfl, Rd.of_block h5.here⟩, rfl, rfl, by omega, by simp only [maxLen]; omega, ?_⟩
      intro v6 w6 ho6 hg6 hpl
      have M6 : Mem w w6 [(g5, .cells #[v] 30 (0, 0)), (g4, .cells #[.slice none 0 0] 30 (0, 0)), (g1, .cells #[.slice A es.length c] 30 (0, 0))] := M5.grown hg6 (fun k hk => (ho5.lt k hk).1) (fun p hp => by
        have : ∃ cs, w5.heap[p.1]? = some (.cells cs 30 (0, 0)) := by
          simp only [List.mem_cons, List.not_mem_nil, or_false] at hp
          rcases hp with rfl | rfl | rfl
          · exact ⟨_, M5.get 0 rfl⟩
          · exact ⟨_, M5.get 1 rfl⟩
          · exact ⟨_, M5.get 2 rfl⟩
        obtain ⟨cs, hcs⟩ := this
        exact fun e => offrow ho5 hcs (by decide) e.symm)
      obtain ⟨A6, c6, rfl, _, _⟩ := reads_of_owns ho6
      refine ⟨rfl, _, _, M6.get 0 rfl, Nat.le_of_ble_eq_true rfl, rfl, ?_⟩
      intro w7 h7
      have M7 := M6.put 0 rfl h7
      refine ⟨_, next, ?_⟩
      refine ⟨(i + 1, _), ⟨rfl, rfl, rfl, rfl, rfl, trivial⟩, ⟨hlt, M7, ?_⟩, by show es.length - (i + 1) < es.length - i; omega⟩
      show NewL _ _ _ _ _ _ (asOfL (es.take (i + 1)) day)
      rw [hsucc]
      unfold NewL
      rw [List.length_append, List.flatMap_append]
      have := ownsRow_put ho6 h7 (offrow ho6 (M6.get 0 rfl) (by decide))
      simpa using this
    · have hd : ¬ es[i].day ≤ day := hd
      rw [if_neg hd, List.append_nil] at hsucc
      refine ⟨_, next, ?_⟩
      exact ⟨(i + 1, v), ⟨rfl, rfl, rfl, rfl, rfl, trivial⟩, ⟨hlt, M4, by show NewL _ _ _ _ _ _ (asOfL (es.take (i + 1)) day); rw [hsucc]; exact ho⟩, by show es.length - (i + 1) < es.length - i; omega⟩
  · have hi : i = es.length := by have : ¬ (i : Int) < (es.length : Nat) := hge; omega
    rw [hi, List.take_length] at ho
    obtain ⟨A5, c5, rfl, _, _⟩ := reads_of_owns ho
    refine ⟨[_], rfl, M4.rd 0 rfl, ?_⟩
    refine ⟨rfl, _, _, M4.get 1 rfl, Nat.le_of_ble_eq_true rfl, rfl, ?_⟩
    intro w5 h5
    have M5 := M4.put 1 rfl h5
    refine ⟨[_], rfl, M5.rd 1 rfl, ?_⟩
    exact ⟨⟨_, rfl, ownsRow_put ho h5 (offrow ho (M4.get 1 rfl) (by decide))⟩, M5.ext⟩

theorem acc_at {es : List Entry} (hA : Acc es) {i : Nat} (hi : i < es.length) : ∃ sg, doE sg (es.take i) es[i] = 0 := by
  have h2 := acc_front hA (i + 1)
  rw [List.take_succ_eq_append_getElem hi] at h2
  exact (acc_inv h2).2

set_option maxRecDepth 100000 in
theorem Granted_spec {w : World} {A : Option Addr} {es : List Entry} {c : Nat} (h : HL Entry.cells w A es c) (hl : es.length ≤ 2 ^ 16) (hA : Acc es) :
    CallsV C.P 102 #[.agg #[.slice A es.length c]] w fun v w' => NewL Waiv.cells 35 9 w.heap.size w' v (waivL es) ∧ Ext w w' := by
  refine callsV_of C_ok (args := [_]) (plans := []) Tryz.func102 rfl Tryz.ntmps102 (by kernel_rfl) (Nat.le_of_ble_eq_true rfl) ?_
  intro g1 w1 h1
  have M1 : Mem w w1 [(g1, .cells #[.slice A es.length c] 30 (0, 0))] := (Mem.start w).alloc h1
  refine loopE C_ok (fun (p : Nat × Value) => [(1, .pointer (some ⟨g1, 0, none⟩)), (3, p.2), (4, .int .i64 p.1)])
    (fun p w' => p.1 ≤ es.length ∧ NewL Waiv.cells 35 9 w.heap.size w' p.2 (waivL (es.take p.1)) ∧ Mem w w' [(g1, .cells #[.slice A es.length c] 30 (0, 0))]) (fun p => es.length - p.1) (0, .slice none 0 0) ⟨rfl, rfl, rfl, trivial⟩
    ⟨Nat.zero_le _, newL_nil, M1⟩ ?_
  rintro ⟨i, v⟩ w2 ⟨hi', ho', M2'⟩
  have hi : i ≤ es.length := hi'
  have ho : NewL Waiv.cells 35 9 w.heap.size w2 v (waivL (es.take i)) := ho'
  have M2 : Mem w w2 [(g1, .cells #[.slice A es.length c] 30 (0, 0))] := M2'
  clear hi' ho' M2'
  refine ⟨_, M2.cell 0 rfl rfl, ?_⟩
  refine brE_dec (fun hlt => ?_) (fun hge => ?_)
  · have hlt : i < es.length := by have : (i : Int) < (es.length : Nat) := hlt; omega
    obtain ⟨b, o, hAd, hc⟩ := Reads.elem Entry.len (by omega) (h.ext M2.ext).reads hlt
    have next : IntKind.i64.wrap ((i : Int) + 1) = ((i + 1 : Nat) : Int) := fit ⟨by omega, by omega⟩
    have hwl : (waivL (es.take i)).length ≤ es.length := Nat.le_trans (waivL_length _) (by rw [List.length_take]; omega)
    have hsucc : waivL (es.take (i + 1)) = waivS (waivL (es.take i)) es[i] := by rw [List.take_succ_eq_append_getElem hlt, waivL_snoc]
    obtain ⟨sg, hdo⟩ := acc_at hA hlt
    refine ⟨_, M2.cell 0 rfl rfl, ?_⟩
    refine ⟨i, b, o, rfl, hlt, hAd, ?_⟩
    refine ⟨es[i].cells, rfl, hc, ?_⟩
    intro g5 w3 h3
    have M3 := M2.alloc h3
    refine ⟨rfl, _, _, M3.get 0 rfl, Nat.le_of_ble_eq_true rfl, rfl, ?_⟩
    intro w4 h4
    have M4 : Mem w w4 [(g5, .cells es[i].cells.toArray 39 (0, 0)), (g1, .cells #[.slice A es.length c] 30 (0, 0))] := M3.put 0 rfl h4
    have ho4 : NewL Waiv.cells 35 9 w.heap.size w4 v (waivL (es.take i)) := ownsRow_put (ho.ext h3.ext) h4 (offrow (ho.ext h3.ext) h3.here (by decide))
    clear M3 h3 h4 ho
    refine ⟨_, M4.cell 0 rfl rfl, ?_⟩
    refine brE_dec (fun k3 => ?_) (fun k3 => ?_)
    · have k3 : es[i].kind = 3 := k3
      refine ⟨es[i].w.cells, rfl, (M4.rd 0 rfl).part es[i].w_part, ?_⟩
      intro g6 w5 h5
      have ho5 := ho4.ext h5.ext
      have M5 := M4.grow h5.ext
      refine ⟨rfl, rfl, rfl, w.heap.size, _, _, es[i].w.cells, ho5, M5.ext.size, Nat.le_of_ble_eq_true rfl, rfl, rfl, .inr ⟨g6, 0, rfl, Rd.of_block h5.here⟩, rfl, rfl, by omega, by simp only [maxLen]; omega, ?_⟩
      intro v6 w6 ho6 hg6 hpl
      have M6 : Mem w w6 [(g5, .cells es[i].cells.toArray 39 (0, 0)), (g1, .cells #[.slice A es.length c] 30 (0, 0))] := M5.grown hg6 (fun k hk => (ho5.lt k hk).1) (fun p hp => by
        simp only [List.mem_cons, List.not_mem_nil, or_false] at hp
        rcases hp with rfl | rfl
        · exact fun e => offrow ho5 (M5.get 0 rfl) (by decide) e.symm
        · exact fun e => offrow ho5 (M5.get 1 rfl) (by decide) e.symm)
      refine ⟨_, M6.cell 0 rfl rfl, ?_⟩
      refine brE_false (decide_eq_false (by omega)) ?_
      refine ⟨_, next, ?_⟩
      refine ⟨(i + 1, v6), ⟨rfl, rfl, rfl, trivial⟩, ⟨hlt, ?_, M6.tail⟩, by show es.length - (i + 1) < es.length - i; omega⟩
      show NewL _ _ _ _ _ _ (waivL (es.take (i + 1)))
      have : waivS (waivL (es.take i)) es[i] = waivL (es.take i) ++ [es[i].w] := by unfold waivS; rw [if_pos k3]
      rw [hsucc, this]
      unfold NewL
      rw [List.length_append, List.flatMap_append]
      simpa using ho6
    have k3 : ¬ es[i].kind = 3 := k3
    refine ⟨_, M4.cell 0 rfl rfl, ?_⟩
    refine brE_dec (fun k4 => ?_) (fun k4 => ?_)
    · have k4 : es[i].kind = 4 := k4
      obtain ⟨k, hlk, hid⟩ : ∃ k, ∃ _ : k < (waivL (es.take i)).length, es[i].w.id = ((k + 1 : Nat) : Int) := by
        obtain ⟨hf, _, hr⟩ := do_zero hdo
        obtain ⟨hok, _, _⟩ := form_okE hf
        unfold refusedE at hr
        rw [if_neg k3, if_pos k4] at hr
        have h1 : 1 ≤ es[i].w.id := by
          unfold okE at hok
          rw [if_neg (by omega), if_neg (by omega), if_neg (by omega), if_pos k4, decide_eq_true_eq] at hok
          omega
        split at hr
        · cases hr
        obtain ⟨k, hk, he⟩ := num_of (n := (waivL (es.take i)).length) (i := es[i].w.id) h1 (by omega)
        exact ⟨k, hk, he⟩
      obtain ⟨g, cap, cur, hv, hg, hb, hown, hrd, hput⟩ := row_openB (enc := Waiv.cells) Waiv.len (by omega) ho4 hlk
      subst hv
      refine ⟨_, M4.cell 0 rfl rfl, ?_⟩
      have hsub : IntKind.i64.wrap (es[i].w.id - 1) = (k : Int) := by rw [hid, fit ⟨by omega, by omega⟩]; omega
      refine ⟨(k : Int), hsub, ?_⟩
      refine ⟨k, g, 0, rfl, hlk, rfl, ?_⟩
      refine ⟨(waivL (es.take i))[k].cells, rfl, hrd, ?_⟩
      intro g6 w5 h5
      have M5 := M4.alloc h5
      refine ⟨rfl, _, _, M5.get 0 rfl, Nat.le_of_ble_eq_true rfl, rfl, ?_⟩
      intro w6 h6
      have M6 := M5.put 0 rfl h6
      refine ⟨_, M6.cell 0 rfl rfl, ?_⟩
      refine ⟨_, M6.cell 1 rfl rfl, ?_⟩
      refine ⟨_, M6.cell 0 rfl rfl, ?_⟩
      refine ⟨_, maxQ rfl rfl rfl rfl, ?_⟩
      refine ⟨_, minQ rfl rfl rfl rfl, ?_⟩
      refine ⟨rfl, _, _, M6.get 0 rfl, Nat.le_of_ble_eq_true rfl, rfl, ?_⟩
      intro w7 h7
      have M7 : Mem w w7 [(g6, .cells (endW es[i].day (waivL (es.take i))[k]).cells.toArray 35 (0, 0)), (g5, .cells es[i].cells.toArray 39 (0, 0)), (g1, .cells #[.slice A es.length c] 30 (0, 0))] := M6.put 0 rfl h7
      have e47 : Ext w4 w7 := ((Mem.start w4).alloc h5 |>.put 0 rfl h6 |>.put 0 rfl h7).ext
      have hne : g ≠ g6 := fun e => by have := lt_of_heap hg; rw [e, h5.new] at this; omega
      have ho7 := ho4.ext e47
      obtain ⟨g', cap', cur', hv', hg', hb', hown', hrd', hput'⟩ := row_openB (enc := Waiv.cells) Waiv.len (by omega) ho7 hlk
      cases hv'
      refine ⟨_, M7.cell 1 rfl rfl, ?_⟩
      refine ⟨(k : Int), hsub, ?_⟩
      refine ⟨(endW es[i].day (waivL (es.take i))[k]).cells, rfl, M7.rd 0 rfl, ?_⟩
      refine ⟨k, g, 0, rfl, hlk, rfl, ?_⟩
      refine ⟨rfl, _, _, hg', by show 0 + k * 9 + 9 ≤ _; omega, rfl, ?_⟩
      intro w8 h8
      have hrow := hput' 0 _ (endW es[i].day (waivL (es.take i))[k]) w8 rfl (Nat.le_of_ble_eq_true rfl) h8
      have hgn : w.heap.size ≤ g := (ho4.lt g rfl).1
      have M8 : Mem w w8 [(g1, .cells #[.slice A es.length c] 30 (0, 0))] := by
        have Ma : Mem w w7 [(g, .cells cur'.toArray 35 (0, 0)), (g1, .cells #[.slice A es.length c] 30 (0, 0))] := M7.tail.tail.add hg' hgn (fun p hp => by
          simp only [List.tail_cons, List.mem_cons, List.not_mem_nil, or_false] at hp
          rw [hp]
          intro e
          have e : g1 = g := e
          have := M7.get 2 rfl
          rw [e, hg'] at this
          simp at this)
        exact (Ma.put 0 rfl h8).tail
      refine ⟨_, next, ?_⟩
      refine ⟨(i + 1, _), ⟨rfl, rfl, rfl, trivial⟩, ⟨by show i + 1 ≤ es.length; omega, ?_, M8⟩, by show es.length - (i + 1) < es.length - i; omega⟩
      show NewL _ _ _ _ _ _ (waivL (es.take (i + 1)))
      have : waivS (waivL (es.take i)) es[i] = (waivL (es.take i)).set k (endW es[i].day (waivL (es.take i))[k]) := by unfold waivS; rw [if_neg k3, if_pos k4, hid, updAt_eq hlk]
      rw [hsucc, this]
      exact hrow
    · have k4 : ¬ es[i].kind = 4 := k4
      refine ⟨_, next, ?_⟩
      refine ⟨(i + 1, v), ⟨rfl, rfl, rfl, trivial⟩, ⟨hlt, ?_, M4.tail⟩, by show es.length - (i + 1) < es.length - i; omega⟩
      show NewL _ _ _ _ _ _ (waivL (es.take (i + 1)))
      have : waivS (waivL (es.take i)) es[i] = waivL (es.take i) := by unfold waivS; rw [if_neg k3, if_neg k4]
      rw [hsucc, this]
      exact ho4
  · have hi : i = es.length := by have : ¬ (i : Int) < (es.length : Nat) := hge; omega
    rw [hi, List.take_length] at ho
    exact ⟨ho, M2.ext⟩

theorem refRate_spec {w : World} {A : Option Addr} {es : List Entry} {c : Nat} (h : HL Entry.cells w A es c) (hl : es.length ≤ 2 ^ 16) {k : Int} (hk : 0 ≤ k ∧ k ≤ 255) :
    CallsV C.P 146 #[.slice A es.length c, .int .u8 k] w fun v w' => v = .int .i64 (rateL es k) ∧ Ext w w' := by
  refine callsV_of C_ok (args := [_, _]) (plans := []) Tryz.func146 rfl Tryz.ntmps146 (by kernel_rfl) (Nat.le_of_ble_eq_true rfl) ?_
  refine loopE C_ok (fun (p : Nat × Int) => [(0, .slice A es.length c), (1, .int .u8 k), (5, .int .i64 p.2), (6, .int .i64 p.1)])
    (fun p w' => p.1 ≤ es.length ∧ p.2 = rateL (es.take p.1) k ∧ Ext w w') (fun p => es.length - p.1) (0, 0) ⟨rfl, rfl, rfl, rfl, trivial⟩ ⟨Nat.zero_le _, rfl, Ext.refl _⟩ ?_
  rintro ⟨i, n⟩ w1 ⟨hi', hn', e1⟩
  have hi : i ≤ es.length := hi'
  have hn : n = rateL (es.take i) k := hn'
  clear hi' hn'
  refine brE_dec (fun hlt => ?_) (fun hge => ?_)
  · have hlt : i < es.length := by have : (i : Int) < (es.length : Nat) := hlt; omega
    obtain ⟨b, o, hAd, hc⟩ := Reads.elem Entry.len (by omega) (h.ext e1).reads hlt
    have next : IntKind.i64.wrap ((i : Int) + 1) = ((i + 1 : Nat) : Int) := fit ⟨by omega, by omega⟩
    have hsucc : rateL (es.take (i + 1)) k = rateS n k es[i] := by rw [List.take_succ_eq_append_getElem hlt, rateL_snoc, hn]
    refine ⟨i, b, o, rfl, hlt, hAd, ?_⟩
    refine ⟨_, hc 0 _ rfl, ?_⟩
    refine brE_dec (fun c1 => ?_) (fun c1 => ?_)
    · have c1 : es[i].kind = 1 := c1
      refine ⟨i, b, o, rfl, hlt, hAd, ?_⟩
      refine ⟨_, hc 21 _ rfl, ?_⟩
      refine ⟨k, fit ⟨by omega, by omega⟩, ?_⟩
      refine brE_dec (fun c2 => ?_) (fun c2 => ?_)
      · have c2 : es[i].a = k := c2
        refine ⟨i, b, o, rfl, hlt, hAd, ?_⟩
        refine ⟨_, hc 23 _ rfl, ?_⟩
        refine ⟨_, next, ?_⟩
        exact ⟨(i + 1, es[i].n), ⟨rfl, rfl, rfl, rfl, trivial⟩, ⟨hlt, by rw [hsucc]; unfold rateS; rw [if_pos ⟨c1, c2⟩], e1⟩, by show es.length - (i + 1) < es.length - i; omega⟩
      · have c2 : ¬ es[i].a = k := c2
        refine ⟨_, next, ?_⟩
        exact ⟨(i + 1, n), ⟨rfl, rfl, rfl, rfl, trivial⟩, ⟨hlt, by rw [hsucc]; unfold rateS; rw [if_neg (fun e => c2 e.2)], e1⟩, by show es.length - (i + 1) < es.length - i; omega⟩
    · have c1 : ¬ es[i].kind = 1 := c1
      refine ⟨_, next, ?_⟩
      exact ⟨(i + 1, n), ⟨rfl, rfl, rfl, rfl, trivial⟩, ⟨hlt, by rw [hsucc]; unfold rateS; rw [if_neg (fun e => c1 e.1)], e1⟩, by show es.length - (i + 1) < es.length - i; omega⟩
  · have hi : i = es.length := by have : ¬ (i : Int) < (es.length : Nat) := hge; omega
    rw [hi, List.take_length] at hn
    exact ⟨congrArg _ hn, e1⟩
theorem refCeil_spec {w : World} {A : Option Addr} {es : List Entry} {c : Nat} (h : HL Entry.cells w A es c) (hl : es.length ≤ 2 ^ 16) (k : Int) :
    CallsV C.P 175 #[.slice A es.length c, .int .i64 k] w fun v w' => v = .int .i64 (ceilL es k) ∧ Ext w w' := by
  refine callsV_of C_ok (args := [_, _]) (plans := []) Tryz.func175 rfl Tryz.ntmps175 (by kernel_rfl) (Nat.le_of_ble_eq_true rfl) ?_
  refine loopE C_ok (fun (p : Nat × Int) => [(0, .slice A es.length c), (1, .int .i64 k), (5, .int .i64 p.2), (6, .int .i64 p.1)])
    (fun p w' => p.1 ≤ es.length ∧ p.2 = ceilL (es.take p.1) k ∧ Ext w w') (fun p => es.length - p.1) (0, 0) ⟨rfl, rfl, rfl, rfl, trivial⟩ ⟨Nat.zero_le _, rfl, Ext.refl _⟩ ?_
  rintro ⟨i, n⟩ w1 ⟨hi', hn', e1⟩
  have hi : i ≤ es.length := hi'
  have hn : n = ceilL (es.take i) k := hn'
  clear hi' hn'
  refine brE_dec (fun hlt => ?_) (fun hge => ?_)
  · have hlt : i < es.length := by have : (i : Int) < (es.length : Nat) := hlt; omega
    obtain ⟨b, o, hAd, hc⟩ := Reads.elem Entry.len (by omega) (h.ext e1).reads hlt
    have next : IntKind.i64.wrap ((i : Int) + 1) = ((i + 1 : Nat) : Int) := fit ⟨by omega, by omega⟩
    have hsucc : ceilL (es.take (i + 1)) k = ceilS n k es[i] := by rw [List.take_succ_eq_append_getElem hlt, ceilL_snoc, hn]
    refine ⟨i, b, o, rfl, hlt, hAd, ?_⟩
    refine ⟨_, hc 0 _ rfl, ?_⟩
    refine brE_dec (fun c1 => ?_) (fun c1 => ?_)
    · have c1 : es[i].kind = 2 := c1
      refine ⟨i, b, o, rfl, hlt, hAd, ?_⟩
      refine ⟨_, hc 21 _ rfl, ?_⟩
      refine brE_dec (fun c2 => ?_) (fun c2 => ?_)
      · have c2 : es[i].a = k := c2
        refine ⟨i, b, o, rfl, hlt, hAd, ?_⟩
        refine ⟨_, hc 23 _ rfl, ?_⟩
        refine ⟨_, next, ?_⟩
        exact ⟨(i + 1, es[i].n), ⟨rfl, rfl, rfl, rfl, trivial⟩, ⟨hlt, by rw [hsucc]; unfold ceilS; rw [if_pos ⟨c1, c2⟩], e1⟩, by show es.length - (i + 1) < es.length - i; omega⟩
      · have c2 : ¬ es[i].a = k := c2
        refine ⟨_, next, ?_⟩
        exact ⟨(i + 1, n), ⟨rfl, rfl, rfl, rfl, trivial⟩, ⟨hlt, by rw [hsucc]; unfold ceilS; rw [if_neg (fun e => c2 e.2)], e1⟩, by show es.length - (i + 1) < es.length - i; omega⟩
    · have c1 : ¬ es[i].kind = 2 := c1
      refine ⟨_, next, ?_⟩
      exact ⟨(i + 1, n), ⟨rfl, rfl, rfl, rfl, trivial⟩, ⟨hlt, by rw [hsucc]; unfold ceilS; rw [if_neg (fun e => c1 e.1)], e1⟩, by show es.length - (i + 1) < es.length - i; omega⟩
  · have hi : i = es.length := by have : ¬ (i : Int) < (es.length : Nat) := hge; omega
    rw [hi, List.take_length] at hn
    exact ⟨congrArg _ hn, e1⟩

end Go.Proofs.YtcnbpfecgokhiaaGreatDoor

namespace Go.Proofs.YtcnbpfecgokhiaaGreatDoor
open Go.Eng Go.RowKit

abbrev RowD (B : Nat) (w : World) (v : Value) (l : List Due) : Prop := NewL Due.cells 74 3 B w v l
/-- A comparison by a function value. -/
def CmpD (gd : Nat) (cb : Array Value) (lt : Due → Due → Bool) : Prop := ∀ (x y : Due) (w : World), CallsV C.P gd (#[] ++ [x.val, y.val].toArray ++ cb) w fun v w' => (∃ k : Int, v = .int .i64 k ∧ (k < 0 ↔ lt x y = true)) ∧ Ext w w'

theorem rowD_at {B : Nat} {w : World} {A : Option Addr} {n c : Nat} {l : List Due} (h : RowD B w (.slice A n c) l) {i : Nat} (hi : i < l.length) : ∃ g, A = some ⟨g, 0, none⟩ ∧ B ≤ g ∧ Rd w g (0 + i * 3) l[i].cells ∧ n = l.length := by
  obtain ⟨g, cap, cur, hv, hg, hb, hown, hrd, hput⟩ := row_openB (enc := Due.cells) Due.len (by omega) h hi
  cases hv
  exact ⟨g, rfl, (h.lt g rfl).1, hrd, rfl⟩
theorem rowD_swap {B : Nat} {w : World} {A : Option Addr} {n c : Nat} {l : List Due} (h : RowD B w (.slice A n c) l) {i j : Nat} (hi : i < l.length) (hj : j < l.length) : ∃ g, ∃ cur : List Value, A = some ⟨g, 0, none⟩ ∧ w.heap[g]? = some (.cells cur.toArray 74 (0, 0)) ∧ 0 + i * 3 + 3 ≤ cur.length ∧
    ∀ w1, Put w g (.cells (splice cur (0 + i * 3) l[j].cells).toArray 74 (0, 0)) w1 → ∃ cur1 : List Value, w1.heap[g]? = some (.cells cur1.toArray 74 (0, 0)) ∧ 0 + j * 3 + 3 ≤ cur1.length ∧
      ∀ w2, Put w1 g (.cells (splice cur1 (0 + j * 3) l[i].cells).toArray 74 (0, 0)) w2 → RowD B w2 (.slice A n c) ((l.set i l[j]).set j l[i]) ∧ Below B w w2 := by
  obtain ⟨g, cap, cur, hv, hg, hb, hown, hrd, hput⟩ := row_openB (enc := Due.cells) Due.len (by omega) h hi
  cases hv
  have hB := (h.lt g rfl).1
  refine ⟨g, cur, rfl, hg, hb, fun w1 h1 => ?_⟩
  have r1 := hput 0 l[j].cells l[j] w1 rfl (Nat.le_of_ble_eq_true rfl) h1
  have hj1 : j < (l.set i l[j]).length := by rw [List.length_set]; exact hj
  obtain ⟨g', cap', cur', hv', hg', hb', hown', hrd', hput'⟩ := row_openB (enc := Due.cells) Due.len (by omega) r1 hj1
  have eg : g' = g := Option.some.inj (hown'.symm.trans hown)
  subst eg
  refine ⟨cur', hg', hb', fun w2 h2 => ⟨?_, below_put (put_below h1 hB) h2 hB⟩⟩
  exact hput' 0 l[i].cells l[i] w2 rfl (Nat.le_of_ble_eq_true rfl) h2

theorem swap_adj {α : Type} {P S : List α} {x y : α} : ((P ++ y :: x :: S).set (P.length + 1) y).set P.length x = P ++ x :: y :: S := by
  rw [List.set_append_right _ _ (by omega), show P.length + 1 - P.length = 1 by omega, List.set_append_right _ _ (Nat.le_refl _), Nat.sub_self]
  rfl
theorem get_adj0 {α : Type} {P S : List α} {x y : α} (h : P.length < (P ++ y :: x :: S).length) : (P ++ y :: x :: S)[P.length] = y := by simp
theorem get_adj1 {α : Type} {P S : List α} {x y : α} (h : P.length + 1 < (P ++ y :: x :: S).length) : (P ++ y :: x :: S)[P.length + 1] = x := by
  rw [List.getElem_append_right (by omega)]; simp

set_option maxRecDepth 100000 in
set_option maxHeartbeats 1000000 in
theorem insSort_spec {B : Nat} {w : World} {A : Option Addr} {n c gd a b : Nat} {cb : Array Value} {lt : Due → Due → Bool} {P M S : List Due} (ho : RowD B w (.slice A n c) (P ++ (M ++ S))) (hB : B ≤ w.heap.size) (hn : n ≤ 2 ^ 30) (ha : a = P.length) (hb : b = a + M.length) (hgd : C.can gd = true) (hcmp : CmpD gd cb lt) (O : OrdB lt) :
    CallsV C.P 238 #[.slice A n c, .int .i64 (a : Nat), .int .i64 (b : Nat), .func (.func gd) #[] cb] w fun _ w' => ∃ M', M'.Perm M ∧ SortedB lt M' ∧ RowD B w' (.slice A n c) (P ++ (M' ++ S)) ∧ Below B w w' := by
  have hlen : n = (P ++ (M ++ S)).length := by
    obtain ⟨A', c', e, _⟩ := NewL.hl ho
    cases e; rfl
  have hln : n = P.length + (M.length + S.length) := by rw [hlen, List.length_append, List.length_append]
  refine callsV_of C_ok (args := [_, _, _, _]) (plans := plans238) Tryz.func238 rfl Tryz.ntmps238 (by kernel_rfl) (Nat.le_of_ble_eq_true rfl) ?_
  refine ⟨((a + 1 : Nat) : Int), fit ⟨by omega, by omega⟩, ?_⟩
  refine loopE C_ok (fun (p : Nat × List Due) => [(0, .slice A n c), (1, .int .i64 (a : Nat)), (2, .int .i64 (b : Nat)), (3, .func (.func gd) #[] cb), (8, .int .i64 ((a + p.1 : Nat) : Int))])
    (fun p w' => 1 ≤ p.1 ∧ p.2.Perm (M.take p.1) ∧ SortedB lt p.2 ∧ RowD B w' (.slice A n c) (P ++ (p.2 ++ (M.drop p.1 ++ S))) ∧ Below B w w') (fun p => M.length - p.1) (1, M.take 1) ⟨rfl, rfl, rfl, rfl, rfl, trivial⟩
    ⟨Nat.le_refl _, List.Perm.refl _, ?_, ?_, Below.refl _ _⟩ ?_
  · show SortedB lt (M.take 1)
    cases M with
    | nil => exact List.Pairwise.nil
    | cons x r => simp [SortedB]
  · show RowD B w (.slice A n c) (P ++ (M.take 1 ++ (M.drop 1 ++ S)))
    rw [← List.append_assoc (M.take 1), List.take_append_drop]; exact ho
  rintro ⟨k, M1⟩ w1 ⟨hk', hp', hs', ho', b1⟩
  have hk : 1 ≤ k := hk'
  have hp : M1.Perm (M.take k) := hp'
  have hs : SortedB lt M1 := hs'
  have ho1 : RowD B w1 (.slice A n c) (P ++ (M1 ++ (M.drop k ++ S))) := ho'
  clear hk' hp' hs' ho'
  refine brE_dec (fun hlt => ?_) (fun hge => ?_)
  · have hlt : k < M.length := by have : ((a + k : Nat) : Int) < (b : Nat) := hlt; omega
    have hM1 : M1.length = k := by rw [hp.length_eq, List.length_take]; omega
    generalize hx : M[k] = x
    have hdrop : M.drop k = x :: M.drop (k + 1) := by rw [← hx]; exact List.drop_eq_getElem_cons hlt
    rw [hdrop] at ho1
    refine loopE C_ok (fun (p : List Due × List Due) => [(0, .slice A n c), (1, .int .i64 (a : Nat)), (2, .int .i64 (b : Nat)), (3, .func (.func gd) #[] cb), (8, .int .i64 ((a + k : Nat) : Int)), (9, .int .i64 ((a + p.1.length : Nat) : Int))])
      (fun p w' => M1 = p.1 ++ p.2 ∧ (∀ z ∈ p.2, lt x z = true) ∧ RowD B w' (.slice A n c) (P ++ (p.1 ++ x :: (p.2 ++ (M.drop (k + 1) ++ S)))) ∧ Below B w w') (fun p => p.1.length) (M1, []) ⟨rfl, rfl, rfl, rfl, rfl, congrArg (fun q : Nat => some (Value.int IntKind.i64 ((a + q : Nat) : Int))) hM1.symm, trivial⟩
      ⟨(List.append_nil _).symm, (fun z hz => by cases hz), ho1, b1⟩ ?_
    rintro ⟨Q, R⟩ w2 ⟨hQR', hR', ho', b2⟩
    have hQR : M1 = Q ++ R := hQR'
    have hR : ∀ z ∈ R, lt x z = true := hR'
    have ho2 : RowD B w2 (.slice A n c) (P ++ (Q ++ x :: (R ++ (M.drop (k + 1) ++ S)))) := ho'
    clear hQR' hR' ho'
    have hQl : Q.length ≤ k := by rw [← hM1, hQR, List.length_append]; omega
    -- when the place is found
    have done : ∀ w3, (∀ z ∈ Q, lt x z = false) → RowD B w3 (.slice A n c) (P ++ (Q ++ x :: (R ++ (M.drop (k + 1) ++ S)))) → (Q ++ x :: R).Perm (M.take (k + 1)) ∧ SortedB lt (Q ++ x :: R) ∧ RowD B w3 (.slice A n c) (P ++ ((Q ++ x :: R) ++ (M.drop (k + 1) ++ S))) := fun w3 hq h3 => by
      refine ⟨?_, sorted_insert (by rw [← hQR]; exact hs) hq fun z hz => O.asym _ _ (hR z hz), ?_⟩
      · rw [List.take_succ_eq_append_getElem hlt, hx]
        refine List.perm_middle.trans ?_
        rw [← hQR]
        exact (List.Perm.cons x hp).trans (List.perm_append_singleton x (M.take k)).symm
      · have : (Q ++ x :: R) ++ (M.drop (k + 1) ++ S) = Q ++ x :: (R ++ (M.drop (k + 1) ++ S)) := by simp
        rw [this]; exact h3
    have fin : ∀ w3, (∀ z ∈ Q, lt x z = false) → RowD B w3 (.slice A n c) (P ++ (Q ++ x :: (R ++ (M.drop (k + 1) ++ S)))) → Below B w w3 → IntKind.i64.wrap (((a + k : Nat) : Int) + 1) = ((a + (k + 1) : Nat) : Int) := fun _ _ _ _ => fit ⟨by omega, by omega⟩
    refine brE_dec (fun hj => ?_) (fun hj => ?_)
    · have hj : 0 < Q.length := by have : ((a + Q.length : Nat) : Int) > (a : Nat) := hj; omega
      obtain ⟨I, y, rfl⟩ : ∃ I y, Q = I ++ [y] := ⟨Q.dropLast, Q.getLast (by intro e; rw [e] at hj; exact Nat.lt_irrefl _ hj), (List.dropLast_concat_getLast _).symm⟩
      have hIl : (I ++ [y]).length = I.length + 1 := by simp
      have eL : P ++ ((I ++ [y]) ++ x :: (R ++ (M.drop (k + 1) ++ S))) = (P ++ I) ++ y :: x :: (R ++ (M.drop (k + 1) ++ S)) := by simp
      rw [eL] at ho2
      have hpl : (P ++ I).length = a + I.length := by rw [List.length_append, ha]
      have hLl : ((P ++ I) ++ y :: x :: (R ++ (M.drop (k + 1) ++ S))).length = n := by
        obtain ⟨A', c', e, _⟩ := NewL.hl ho2
        cases e; rfl
      have hi0 : (P ++ I).length < ((P ++ I) ++ y :: x :: (R ++ (M.drop (k + 1) ++ S))).length := by simp only [List.length_append, List.length_cons]; omega
      have hi1 : (P ++ I).length + 1 < ((P ++ I) ++ y :: x :: (R ++ (M.drop (k + 1) ++ S))).length := by simp only [List.length_append, List.length_cons]; omega
      have sub1 : IntKind.i64.wrap (((a + (I ++ [y]).length : Nat) : Int) - 1) = ((a + I.length : Nat) : Int) := by rw [hIl, fit ⟨by omega, by omega⟩]; omega
      have idx1 : a + (I ++ [y]).length = (P ++ I).length + 1 := by rw [hIl, hpl]; omega
      have idx0 : a + I.length = (P ++ I).length := hpl.symm
      obtain ⟨g1, hA1, _, hr1, _⟩ := rowD_at ho2 hi1
      obtain ⟨g0, hA0, _, hr0, _⟩ := rowD_at ho2 hi0
      rw [get_adj1 hi1] at hr1
      rw [get_adj0 hi0] at hr0
      refine ⟨a + (I ++ [y]).length, g1, 0, rfl, by rw [idx1, ← hLl]; exact hi1, hA1, ?_⟩
      refine ⟨x.cells, rfl, by rw [idx1]; exact hr1, ?_⟩
      refine ⟨((a + I.length : Nat) : Int), sub1, ?_⟩
      refine ⟨a + I.length, g0, 0, rfl, by rw [idx0, ← hLl]; exact hi0, hA0, ?_⟩
      refine ⟨y.cells, rfl, by rw [idx0]; exact hr0, ?_⟩
      refine brE_true hgd ?_
      refine (hcmp x y w2).mono ?_
      rintro v w3 ⟨⟨z, rfl, hz⟩, e3⟩
      have ho3 := ho2.ext e3
      have b3 : Below B w w3 := b2.trans (e3.mono (Nat.le_trans hB b2.size))
      refine brE_dec (fun hc => ?_) (fun hc => ?_)
      · have hc : z < 0 := hc
        have hlt2 := hz.1 hc
        obtain ⟨g, cur, hA, hg, hb1, hput⟩ := rowD_swap ho3 hi1 hi0
        have hrd := rowD_at ho3 hi1
        have hrd0 := rowD_at ho3 hi0
        rw [get_adj1 hi1] at hrd
        rw [get_adj0 hi0] at hrd0
        obtain ⟨g1', hA1', _, hr1', _⟩ := hrd
        obtain ⟨g0', hA0', _, hr0', _⟩ := hrd0
        rw [get_adj1 hi1, get_adj0 hi0, swap_adj] at hput
        refine ⟨((a + I.length : Nat) : Int), sub1, ?_⟩
        refine ⟨((a + I.length : Nat) : Int), sub1, ?_⟩
        refine ⟨a + I.length, g0', 0, rfl, by rw [idx0, ← hLl]; exact hi0, hA0', ?_⟩
        refine ⟨y.cells, rfl, by rw [idx0]; exact hr0', ?_⟩
        refine ⟨a + (I ++ [y]).length, g1', 0, rfl, by rw [idx1, ← hLl]; exact hi1, hA1', ?_⟩
        refine ⟨x.cells, rfl, by rw [idx1]; exact hr1', ?_⟩
        refine ⟨a + (I ++ [y]).length, g, 0, rfl, by rw [idx1, ← hLl]; exact hi1, hA, ?_⟩
        rw [idx1]
        refine ⟨rfl, _, _, hg, hb1, rfl, ?_⟩
        intro w4 h4
        obtain ⟨cur1, hg1, hb2, hput2⟩ := hput w4 h4
        refine ⟨a + I.length, g, 0, rfl, by rw [idx0, ← hLl]; exact hi0, hA, ?_⟩
        rw [idx0]
        refine ⟨rfl, _, _, hg1, hb2, rfl, ?_⟩
        intro w5 h5
        obtain ⟨ho5, b5⟩ := hput2 w5 h5
        rw [← idx1]
        refine ⟨((a + I.length : Nat) : Int), sub1, ?_⟩
        refine ⟨(I, y :: R), ⟨rfl, rfl, rfl, rfl, rfl, rfl, trivial⟩, ⟨?_, ?_, ?_, b3.trans b5⟩, by show I.length < (I ++ [y]).length; rw [hIl]; omega⟩
        · show M1 = I ++ y :: R
          rw [hQR]; simp
        · intro z hz
          rcases List.mem_cons.1 hz with rfl | hz
          · exact hlt2
          · exact hR z hz
        · show RowD B w5 (.slice A n c) (P ++ (I ++ x :: ((y :: R) ++ (M.drop (k + 1) ++ S))))
          have : P ++ (I ++ x :: ((y :: R) ++ (M.drop (k + 1) ++ S))) = (P ++ I) ++ x :: y :: (R ++ (M.drop (k + 1) ++ S)) := by simp
          rw [this]; exact ho5
      · have hc : ¬ z < 0 := hc
        have hnl : lt x y = false := by
          cases e : lt x y with
          | false => rfl
          | true => exact absurd (hz.2 e) hc
        have hall : ∀ z ∈ I ++ [y], lt x z = false := sorted_last O (by rw [hQR] at hs; exact (List.pairwise_append.1 hs).1) hnl
        rw [← eL] at ho3
        obtain ⟨d1, d2, d3⟩ := done w3 hall ho3
        refine ⟨((a + (k + 1) : Nat) : Int), fin w3 hall ho3 b3, ?_⟩
        exact ⟨(k + 1, (I ++ [y]) ++ x :: R), ⟨rfl, rfl, rfl, rfl, rfl, trivial⟩, ⟨by show 1 ≤ k + 1; omega, d1, d2, d3, b3⟩, by show M.length - (k + 1) < M.length - k; omega⟩
    · have hj : Q = [] := List.length_eq_zero_iff.1 (by have : ¬ ((a + Q.length : Nat) : Int) > (a : Nat) := hj; omega)
      have hall : ∀ z ∈ Q, lt x z = false := fun z hz => by rw [hj] at hz; cases hz
      obtain ⟨d1, d2, d3⟩ := done w2 hall ho2
      refine ⟨((a + (k + 1) : Nat) : Int), fin w2 hall ho2 b2, ?_⟩
      exact ⟨(k + 1, Q ++ x :: R), ⟨rfl, rfl, rfl, rfl, rfl, trivial⟩, ⟨by show 1 ≤ k + 1; omega, d1, d2, d3, b2⟩, by show M.length - (k + 1) < M.length - k; omega⟩
  · have hge : M.length ≤ k := by have : ¬ ((a + k : Nat) : Int) < (b : Nat) := hge; omega
    rw [List.take_of_length_le hge] at hp
    rw [List.drop_eq_nil_of_le hge] at ho1
    exact ⟨M1, hp, hs, ho1, b1⟩

end Go.Proofs.YtcnbpfecgokhiaaGreatDoor
