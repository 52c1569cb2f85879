/- Proved: for every number and string the law FactsLimit returns true, and its arguments read behind the call as they did before; what the library's variables hold is tied to the program's text. No further condition. -/
import Derived.Test.YthpdkdmbfdmamaaGreatDoorGDf
import Derived.Test.YthpdkdmbfdmamaaGreatDoorGAb
import Derived.Test.YthpdkdmbfdmamaaGreatDoorGEe
import Derived.Test.YthpdkdmbfdmamaaGreatDoorGDd
import Derived.Test.YthpdkdmbfdmamaaGreatDoorGDe
set_option linter.unusedVariables false
set_option linter.unusedSimpArgs false
set_option linter.unnecessarySimpa false
set_option linter.unusedSectionVars false
namespace Go.Proofs.YthpdkdmbfdmamaaGreatDoor
open Go.Eng Go.RowKit

theorem lim_nums {k : Int} {nm : ByteArray} (hk : In64 k) (hn : nm.size ≤ 9223372036854775807) {n wh : Int} (h1 : In64 n) (h2 : In64 wh) : (limF k nm n wh).Nums :=
  ⟨h1, hk, ⟨by show (0 : Int) ≤ 1; decide, by show (1 : Int) ≤ 255; decide⟩, h2, ⟨by show (-9223372036854775808 : Int) ≤ 0; decide, by show (0 : Int) ≤ 9223372036854775807; decide⟩, ⟨by show (-9223372036854775808 : Int) ≤ 1; decide, by show (1 : Int) ≤ 9223372036854775807; decide⟩,
    ⟨by show (-9223372036854775808 : Int) ≤ 0; decide, by show (0 : Int) ≤ 9223372036854775807; decide⟩, ⟨by show (-9223372036854775808 : Int) ≤ 0; decide, by show (0 : Int) ≤ 9223372036854775807; decide⟩, hn⟩
theorem limL_nums {k : Int} {nm : ByteArray} (hk : In64 k) (hn : nm.size ≤ 9223372036854775807) {n : Nat} (h : n ≤ 300) : ∀ x ∈ limL k nm n, x.Nums := fun x hx => by
  obtain ⟨i, hi, rfl⟩ := limL_mem hx
  exact lim_nums hk hn ⟨by omega, by omega⟩ ⟨by omega, by omega⟩
theorem newF_snoc1 {B : Nat} {w : World} {v : Value} {l : List Fact} {x : Fact} (h : w.ownsRow B 29 9 v (l.length + 1) (fcells l ++ x.cells)) : NewF B w v (l ++ [x]) := by
  unfold NewF
  rw [fcells_append, fcells_one, List.length_append]
  exact h

set_option maxRecDepth 100000 in
set_option maxHeartbeats 4000000 in
theorem FactsLimit_spec {k : Int} {nm : ByteArray} (hk : In64 k) (hn : nm.size ≤ 9223372036854775807) (w : World) (T : Tabs w) :
    CallsW C.P 4 #[.int .i64 k, .string nm] w fun v w' => v = .bool true ∧ Ext w w' := by
  refine callsV_of Cw_ok (args := [_, _]) (plans := plans4) Tryz.func4 rfl Tryz.ntmps4 (by kernel_rfl) (Nat.le_of_ble_eq_true rfl) ?_
  intro g5 w1 h1
  refine ⟨rfl, _, _, h1.here, Nat.le_of_ble_eq_true rfl, rfl, ?_⟩
  intro w2 h2
  have M2 : Mem w w2 [(g5, .cells (firstF k nm).cells.toArray 29 (0, 0))] := ((Mem.start w).alloc h1).put 0 rfl h2
  clear h1 h2
  refine ⟨(firstF k nm).cells, rfl, M2.rd 0 rfl, ?_⟩
  intro g3 w3 h3
  have M3 := M2.grow h3.ext
  have hf3 : HF w3 (some ⟨g3, 0, none⟩) [firstF k nm] 1 := ⟨fun x hx => by
    rw [List.mem_singleton.1 hx]
    exact lim_nums hk hn ⟨by decide, by decide⟩ ⟨by decide, by decide⟩, .inr ⟨g3, 0, rfl, by rw [show fcells [firstF k nm] = (firstF k nm).cells from fcells_one _]; exact Rd.of_block h3.here⟩, Nat.le_refl _, by show (1 : Nat) ≤ _; decide⟩
  refine (Check_spec hf3 (by show (1 : Nat) ≤ _; decide)).weak.mono ?_
  rintro _ w4 ⟨rfl, e4⟩
  have M4 := M3.grow e4
  refine brE_ndec (fun a1 => ?_) (fun a1 => ?_)
  · refine (alive_spec w4 (T.ext M4.ext)).mono ?_
    rintro _ w5 ⟨rfl, e5⟩
    exact ⟨rfl, M4.ext.trans e5⟩
  have a1 : (chkF [firstF k nm]).2 = 0 := a1
  have hform := lim_first a1
  clear a1 hf3 h3 e4 M3 M2
  refine loopE Cw_ok (fun (s : Nat × Value) => [(5, .pointer (some ⟨g5, 0, none⟩)), (8, s.2), (31, .int .i64 s.1)])
    (fun s w' => s.1 ≤ 300 ∧ Ext w4 w' ∧ NewF w4.heap.size w' s.2 (limL k nm s.1)) (fun s => 300 - s.1) (0, .slice none 0 0)
    ⟨rfl, rfl, rfl, trivial⟩ ⟨Nat.zero_le _, Ext.refl _, newF_nil _ _⟩ ?_
  rintro ⟨i, v⟩ w5 ⟨hi', e5', ho5'⟩
  have hi : i ≤ 300 := hi'
  have e5 : Ext w4 w5 := e5'
  have ho5 : NewF w4.heap.size w5 v (limL k nm i) := ho5'
  clear hi' e5' ho5'
  have M5 := M4.grow e5
  have hll := limL_length k nm i
  refine brE_dec (fun hlt2 => ?_) (fun hge => ?_)
  · have hlt : i < 300 := by have : (i : Int) < 300 := hlt2; omega
    clear hlt2
    refine ⟨(firstF k nm).cells, rfl, M5.rd 0 rfl, ?_⟩
    intro g10 w6 h6
    have N6 := (Mem.start w5).alloc h6
    refine ⟨rfl, _, _, N6.get 0 rfl, Nat.le_of_ble_eq_true rfl, rfl, ?_⟩
    intro w7 h7
    have N7 : Mem w5 w7 [(g10, .cells (limF k nm 1 1).cells.toArray 29 (0, 0))] := N6.put 0 rfl h7
    refine ⟨((i + 1 : Nat) : Int), fit ⟨by omega, by omega⟩, ?_⟩
    refine ⟨rfl, _, _, N7.get 0 rfl, Nat.le_of_ble_eq_true rfl, rfl, ?_⟩
    intro w8 h8
    have N8 : Mem w5 w8 [(g10, .cells (limF k nm ((i + 1 : Nat) : Int) 1).cells.toArray 29 (0, 0))] := N7.put 0 rfl h8
    refine ⟨by decide, ((i % 200 : Nat) : Int), by rw [Int.tmod_eq_emod_of_nonneg (by omega)]; omega, ?_⟩
    refine ⟨((1 + i % 200 : Nat) : Int), by rw [fit ⟨by omega, by omega⟩]; omega, ?_⟩
    refine ⟨rfl, _, _, N8.get 0 rfl, Nat.le_of_ble_eq_true rfl, rfl, ?_⟩
    intro w9 h9
    have N9 : Mem w5 w9 [(g10, .cells (limF k nm ((i + 1 : Nat) : Int) ((1 + i % 200 : Nat) : Int)).cells.toArray 29 (0, 0))] := N8.put 0 rfl h9
    refine ⟨(limF k nm ((i + 1 : Nat) : Int) ((1 + i % 200 : Nat) : Int)).cells, rfl, N9.rd 0 rfl, ?_⟩
    intro g11 w11 h11
    have e511 := N9.ext.trans h11.ext
    have ho11 : w11.ownsRow w4.heap.size 29 9 v _ _ := ownsRow_ext ho5 e511
    have e411 := e5.trans e511
    refine ⟨rfl, rfl, rfl, w4.heap.size, _, _, (limF k nm ((i + 1 : Nat) : Int) ((1 + i % 200 : Nat) : Int)).cells, ho11, e411.size, Nat.le_of_ble_eq_true rfl, rfl, rfl, .inr ⟨g11, 0, rfl, Rd.of_block h11.here⟩, rfl, rfl, by omega, by simp only [maxLen]; omega, ?_⟩
    intro v12 w12 ho12 hg12 _
    refine ⟨((i + 1 : Nat) : Int), fit ⟨by omega, by omega⟩, ?_⟩
    refine ⟨(i + 1, v12), ⟨rfl, rfl, rfl, trivial⟩, ⟨hlt, app_ext e411 ho11 hg12, ?_⟩, by show 300 - (i + 1) < 300 - i; omega⟩
    show NewF w4.heap.size w12 v12 (limL k nm (i + 1))
    rw [limL_succ]
    exact newF_snoc1 ho12
  · have hi3 : i = 300 := by have : ¬ (i : Int) < 300 := hge; omega
    subst hi3
    clear hge hi
    have hnum := limL_nums hk hn (Nat.le_refl 300)
    have hnum2 := limL_nums hk hn (show 250 ≤ 300 by decide)
    obtain ⟨A8, c8, rfl, hf5⟩ := ho5.hf hnum
    have hl250 : (limL k nm 250).length = 250 := limL_length k nm 250
    refine ⟨fun q => q = g5, ?_⟩
    refine ⟨(firstF k nm).cells, rfl, M5.rd 0 rfl, ?_⟩
    refine ⟨(firstF k nm).val, fun u hu => ⟨(firstF k nm).cells, rfl, hu.rd rfl (M5.rd 0 rfl), rfl⟩, ?_⟩
    refine ⟨?_, ?_⟩
    · intro g11 w6 h6
      refine ⟨h6.ext, ?_⟩
      intro g12 w7 h7
      refine ⟨h7.ext, ?_⟩
      have N7 := (((Mem.start w5).alloc h6).alloc h7).swap
      refine ⟨rfl, _, _, N7.get 0 rfl, Nat.le_of_ble_eq_true rfl, rfl, ?_⟩
      intro w8 h8
      have N8 : Mem w5 w8 [(g11, .cells (limF k nm 1 1).cells.toArray 29 (0, 0)), (g12, .cells (factZ).cells.toArray 29 (0, 0))] := N7.put 0 rfl h8
      refine ⟨⟨N8.ext.os, N8.ext.tape, N8.ext.output, N8.ext.size, fun q _ hq => N8.ext.block q hq⟩, ?_⟩
      refine ⟨rfl, _, _, N8.get 1 rfl, Nat.le_of_ble_eq_true rfl, rfl, ?_⟩
      intro w9 h9
      have N9 : Mem w5 w9 [(g11, .cells (limF k nm 1 1).cells.toArray 29 (0, 0)), (g12, .cells (limF k nm 1 1).cells.toArray 29 (0, 0))] := N8.put 1 rfl h9
      refine ⟨rfl, _, _, N9.get 0 rfl, Nat.le_of_ble_eq_true rfl, rfl, ?_⟩
      intro w10 h10
      have N10 : Mem w5 w10 [(g11, .cells (limF k nm 301 1).cells.toArray 29 (0, 0)), (g12, .cells (limF k nm 1 1).cells.toArray 29 (0, 0))] := N9.put 0 rfl h10
      refine ⟨rfl, _, _, N10.get 1 rfl, Nat.le_of_ble_eq_true rfl, rfl, ?_⟩
      intro w11 h11
      have N11 : Mem w5 w11 [(g11, .cells (limF k nm 301 1).cells.toArray 29 (0, 0)), (g12, .cells (limF k nm 1000 1).cells.toArray 29 (0, 0))] := N10.put 1 rfl h11
      refine ⟨rfl, _, _, N11.get 1 rfl, Nat.le_of_ble_eq_true rfl, rfl, ?_⟩
      intro w12 h12
      have N12 : Mem w5 w12 [(g11, .cells (limF k nm 301 1).cells.toArray 29 (0, 0)), (g12, .cells (limF k nm 1000 201).cells.toArray 29 (0, 0))] := N11.put 1 rfl h12
      clear N11 N10 N9 N8 N7
      have hf12 := hf5.ext N12.ext
      have hc0 := Check_spec hf12 (by rw [hll]; decide)
      rw [chkF_valid (lim_valid hform (Nat.le_refl 300))] at hc0
      refine hc0.weak.mono ?_
      rintro _ w13 ⟨rfl, e13⟩
      have N13 := N12.grow e13
      have hf13 := hf12.ext e13
      clear hc0 hf12 N12 e13
      refine ⟨fun q => q < w13.heap.size, ?_⟩
      refine ⟨(limF k nm 301 1).val, fun u hu => ⟨(limF k nm 301 1).cells, rfl, hu.rd (N13.lt (g := g11) (o := .cells (limF k nm 301 1).cells.toArray 29 (0, 0)) (by simp)) (N13.rd 0 rfl), rfl⟩, ?_⟩
      refine ⟨?_, ?_⟩
      · intro ga wa ha
        refine ⟨ha.ext, ?_⟩
        have ho0 : wa.ownsRow w13.heap.size 29 9 (.slice (some ⟨ga, 0, none⟩) 0 0) 0 [] := owns_block (cs := []) ha.here (by rw [ha.new]; exact Nat.le_refl _) rfl (Nat.zero_le _)
        refine ⟨?_, ?_⟩
        · have hrl := (hf13.reads).ext ha.ext
          refine ⟨rfl, rfl, rfl, w13.heap.size, 0, [], fcells (limL k nm 300), ho0, ha.ext.size, Nat.le_of_ble_eq_true rfl, rfl, fcells_length _, hrl, someF hrl, oneF _, by rw [hll]; decide, by rw [hll]; simp only [maxLen]; decide, ?_⟩
          intro v3 w3 ho3 hg3 _
          have e3 : Ext w13 w3 := app_ext ha.ext ho0 hg3
          refine ⟨Keep.below e3, ?_⟩
          intro gx wx hx
          refine ⟨hx.ext, ?_⟩
          have eX := e3.trans hx.ext
          have hoX : wx.ownsRow w13.heap.size 29 9 v3 _ _ := ownsRow_ext ho3 hx.ext
          have rX : Rd wx gx 0 (limF k nm 301 1).cells := Rd.of_block hx.here
          rw [Nat.zero_add, List.nil_append] at hoX
          refine ⟨rfl, rfl, rfl, w13.heap.size, _, _, (limF k nm 301 1).cells, hoX, eX.size, Nat.le_of_ble_eq_true rfl, rfl, rfl, .inr ⟨gx, 0, rfl, rX⟩, rfl, rfl, by rw [hll]; decide, by rw [hll]; simp only [maxLen]; decide, ?_⟩
          intro v5 w513 ho513 hg513 _
          have e513 : Ext w13 w513 := app_ext eX hoX hg513
          have hn513 : NewF w13.heap.size w513 v5 (limL k nm 300 ++ [limF k nm 301 1]) := newF_snoc1 ho513
          obtain ⟨A513, c513, rfl, hf513⟩ := hn513.hf (nums_append hnum fun y hy => by rw [List.mem_singleton.1 hy]; exact lim_nums hk hn ⟨by decide, by decide⟩ ⟨by decide, by decide⟩)
          have hc13 := Check_spec hf513 (by rw [List.length_append, hll, List.length_singleton]; decide)
          rw [lim_more hform] at hc13
          refine hc13.weak.mono ?_
          rintro _ w15 ⟨rfl, e613⟩
          have e1315 := e513.trans e613
          have N15 := N13.grow e1315
          have hf15 := hf13.ext e1315
          have hfr : Reads w15 (if c8 = 0 then A8 else A8.map (·.add (0 * 9))) (fcells (limL k nm 250)) := by
            have := Reads.front (c := c8) (i := 250) hf15.reads
            rw [limL_take k nm (show 250 ≤ 300 by decide)] at this
            exact this
          have hc8 : 250 ≤ c8 := by have := hf15.len; rw [hll] at this; omega
          refine ⟨fun q => q < w15.heap.size, ?_⟩
          refine ⟨0, 250, rfl, rfl, Nat.zero_le _, hc8, ?_⟩
          refine ⟨(limF k nm 1000 201).val, fun u hu => ⟨(limF k nm 1000 201).cells, rfl, hu.rd (N15.lt (g := g12) (o := .cells (limF k nm 1000 201).cells.toArray 29 (0, 0)) (by simp)) (N15.rd 1 rfl), rfl⟩, ?_⟩
          refine ⟨?_, ?_⟩
          · intro ga wa ha
            refine ⟨ha.ext, ?_⟩
            have ho0 : wa.ownsRow w15.heap.size 29 9 (.slice (some ⟨ga, 0, none⟩) 0 0) 0 [] := owns_block (cs := []) ha.here (by rw [ha.new]; exact Nat.le_refl _) rfl (Nat.zero_le _)
            refine ⟨?_, ?_⟩
            · have hrl := (hfr).ext ha.ext
              refine ⟨rfl, rfl, rfl, w15.heap.size, 0, [], fcells (limL k nm 250), ho0, ha.ext.size, Nat.le_of_ble_eq_true rfl, rfl, by rw [fcells_length, hl250], hrl, by have := someF hrl; rw [hl250] at this; exact this, oneF _, by decide, by simp only [maxLen]; decide, ?_⟩
              intro v3 w3 ho3 hg3 _
              have e3 : Ext w15 w3 := app_ext ha.ext ho0 hg3
              refine ⟨Keep.below e3, ?_⟩
              intro gx wx hx
              refine ⟨hx.ext, ?_⟩
              have eX := e3.trans hx.ext
              have hoX : wx.ownsRow w15.heap.size 29 9 v3 _ _ := ownsRow_ext ho3 hx.ext
              have rX : Rd wx gx 0 (limF k nm 1000 201).cells := Rd.of_block hx.here
              rw [Nat.zero_add, List.nil_append] at hoX
              refine ⟨rfl, rfl, rfl, w15.heap.size, _, _, (limF k nm 1000 201).cells, hoX, eX.size, Nat.le_of_ble_eq_true rfl, rfl, rfl, .inr ⟨gx, 0, rfl, rX⟩, rfl, rfl, by decide, by simp only [maxLen]; decide, ?_⟩
              intro v5 w515 ho515 hg515 _
              have e515 : Ext w15 w515 := app_ext eX hoX hg515
              have hn515 : NewF w15.heap.size w515 v5 (limL k nm 250 ++ [limF k nm 1000 201]) := newF_snoc1 (by rw [hl250]; exact ho515)
              obtain ⟨A515, c515, rfl, hf515⟩ := hn515.hf (nums_append hnum2 fun y hy => by rw [List.mem_singleton.1 hy]; exact lim_nums hk hn ⟨by decide, by decide⟩ ⟨by decide, by decide⟩)
              have hc15 := Check_spec hf515 (by rw [List.length_append, hl250, List.length_singleton]; decide)
              rw [lim_other hform] at hc15
              refine hc15.weak.mono ?_
              rintro _ w17 ⟨rfl, e615⟩
              have e417 : Ext w4 w17 := e5.trans (N15.grow (e515.trans e615)).ext
              refine (alive_spec w17 (T.ext (M4.grow e417).ext)).mono ?_
              rintro _ w18 ⟨rfl, e18⟩
              exact ⟨rfl, (M4.grow e417).ext.trans e18⟩
            · intro gx w2 hx
              refine ⟨hx.ext, ?_⟩
              have e2 := ha.ext.trans hx.ext
              have ho2 := ownsRow_ext ho0 hx.ext
              have hrl := (hfr).ext e2
              refine ⟨rfl, rfl, rfl, w15.heap.size, 0, [], fcells (limL k nm 250), ho2, e2.size, Nat.le_of_ble_eq_true rfl, rfl, by rw [fcells_length, hl250], hrl, by have := someF hrl; rw [hl250] at this; exact this, oneF _, by decide, by simp only [maxLen]; decide, ?_⟩
              intro v3 wx hoX hg3 _
              have eX : Ext w15 wx := app_ext e2 ho2 hg3
              refine ⟨Keep.below eX, ?_⟩
              have rX : Rd wx gx 0 (limF k nm 1000 201).cells := rd_grown (Rd.of_block hx.here) hg3 (fun e => by
                have e : some ga = some gx := e
                injection e with e
                have h1 := hx.new
                have h2 := ha.new
                have h3 := ha.size
                omega)
              rw [Nat.zero_add, List.nil_append] at hoX
              refine ⟨rfl, rfl, rfl, w15.heap.size, _, _, (limF k nm 1000 201).cells, hoX, eX.size, Nat.le_of_ble_eq_true rfl, rfl, rfl, .inr ⟨gx, 0, rfl, rX⟩, rfl, rfl, by decide, by simp only [maxLen]; decide, ?_⟩
              intro v5 w515 ho515 hg515 _
              have e515 : Ext w15 w515 := app_ext eX hoX hg515
              have hn515 : NewF w15.heap.size w515 v5 (limL k nm 250 ++ [limF k nm 1000 201]) := newF_snoc1 (by rw [hl250]; exact ho515)
              obtain ⟨A515, c515, rfl, hf515⟩ := hn515.hf (nums_append hnum2 fun y hy => by rw [List.mem_singleton.1 hy]; exact lim_nums hk hn ⟨by decide, by decide⟩ ⟨by decide, by decide⟩)
              have hc15 := Check_spec hf515 (by rw [List.length_append, hl250, List.length_singleton]; decide)
              rw [lim_other hform] at hc15
              refine hc15.weak.mono ?_
              rintro _ w17 ⟨rfl, e615⟩
              have e417 : Ext w4 w17 := e5.trans (N15.grow (e515.trans e615)).ext
              refine (alive_spec w17 (T.ext (M4.grow e417).ext)).mono ?_
              rintro _ w18 ⟨rfl, e18⟩
              exact ⟨rfl, (M4.grow e417).ext.trans e18⟩
          · intro gx w2 hx
            refine ⟨hx.ext, ?_⟩
            intro ga wa ha
            refine ⟨ha.ext, ?_⟩
            have e2 := hx.ext.trans ha.ext
            have ho2 : wa.ownsRow w15.heap.size 29 9 (.slice (some ⟨ga, 0, none⟩) 0 0) 0 [] := owns_block (cs := []) ha.here (by rw [ha.new]; exact hx.ext.size) rfl (Nat.zero_le _)
            have hrl := (hfr).ext e2
            refine ⟨rfl, rfl, rfl, w15.heap.size, 0, [], fcells (limL k nm 250), ho2, e2.size, Nat.le_of_ble_eq_true rfl, rfl, by rw [fcells_length, hl250], hrl, by have := someF hrl; rw [hl250] at this; exact this, oneF _, by decide, by simp only [maxLen]; decide, ?_⟩
            intro v3 wx hoX hg3 _
            have eX : Ext w15 wx := app_ext e2 ho2 hg3
            refine ⟨Keep.below eX, ?_⟩
            have rX : Rd wx gx 0 (limF k nm 1000 201).cells := rd_grown ((Rd.of_block hx.here).ext ha.ext) hg3 (fun e => by
              have e : some ga = some gx := e
              injection e with e
              have h1 := hx.new
              have h2 := ha.new
              have h3 := hx.size
              omega)
            rw [Nat.zero_add, List.nil_append] at hoX
            refine ⟨rfl, rfl, rfl, w15.heap.size, _, _, (limF k nm 1000 201).cells, hoX, eX.size, Nat.le_of_ble_eq_true rfl, rfl, rfl, .inr ⟨gx, 0, rfl, rX⟩, rfl, rfl, by decide, by simp only [maxLen]; decide, ?_⟩
            intro v5 w515 ho515 hg515 _
            have e515 : Ext w15 w515 := app_ext eX hoX hg515
            have hn515 : NewF w15.heap.size w515 v5 (limL k nm 250 ++ [limF k nm 1000 201]) := newF_snoc1 (by rw [hl250]; exact ho515)
            obtain ⟨A515, c515, rfl, hf515⟩ := hn515.hf (nums_append hnum2 fun y hy => by rw [List.mem_singleton.1 hy]; exact lim_nums hk hn ⟨by decide, by decide⟩ ⟨by decide, by decide⟩)
            have hc15 := Check_spec hf515 (by rw [List.length_append, hl250, List.length_singleton]; decide)
            rw [lim_other hform] at hc15
            refine hc15.weak.mono ?_
            rintro _ w17 ⟨rfl, e615⟩
            have e417 : Ext w4 w17 := e5.trans (N15.grow (e515.trans e615)).ext
            refine (alive_spec w17 (T.ext (M4.grow e417).ext)).mono ?_
            rintro _ w18 ⟨rfl, e18⟩
            exact ⟨rfl, (M4.grow e417).ext.trans e18⟩
        · intro gx w2 hx
          refine ⟨hx.ext, ?_⟩
          have e2 := ha.ext.trans hx.ext
          have ho2 := ownsRow_ext ho0 hx.ext
          have hrl := (hf13.reads).ext e2
          refine ⟨rfl, rfl, rfl, w13.heap.size, 0, [], fcells (limL k nm 300), ho2, e2.size, Nat.le_of_ble_eq_true rfl, rfl, fcells_length _, hrl, someF hrl, oneF _, by rw [hll]; decide, by rw [hll]; simp only [maxLen]; decide, ?_⟩
          intro v3 wx hoX hg3 _
          have eX : Ext w13 wx := app_ext e2 ho2 hg3
          refine ⟨Keep.below eX, ?_⟩
          have rX : Rd wx gx 0 (limF k nm 301 1).cells := rd_grown (Rd.of_block hx.here) hg3 (fun e => by
            have e : some ga = some gx := e
            injection e with e
            have h1 := hx.new
            have h2 := ha.new
            have h3 := ha.size
            omega)
          rw [Nat.zero_add, List.nil_append] at hoX
          refine ⟨rfl, rfl, rfl, w13.heap.size, _, _, (limF k nm 301 1).cells, hoX, eX.size, Nat.le_of_ble_eq_true rfl, rfl, rfl, .inr ⟨gx, 0, rfl, rX⟩, rfl, rfl, by rw [hll]; decide, by rw [hll]; simp only [maxLen]; decide, ?_⟩
          intro v5 w513 ho513 hg513 _
          have e513 : Ext w13 w513 := app_ext eX hoX hg513
          have hn513 : NewF w13.heap.size w513 v5 (limL k nm 300 ++ [limF k nm 301 1]) := newF_snoc1 ho513
          obtain ⟨A513, c513, rfl, hf513⟩ := hn513.hf (nums_append hnum fun y hy => by rw [List.mem_singleton.1 hy]; exact lim_nums hk hn ⟨by decide, by decide⟩ ⟨by decide, by decide⟩)
          have hc13 := Check_spec hf513 (by rw [List.length_append, hll, List.length_singleton]; decide)
          rw [lim_more hform] at hc13
          refine hc13.weak.mono ?_
          rintro _ w15 ⟨rfl, e613⟩
          have e1315 := e513.trans e613
          have N15 := N13.grow e1315
          have hf15 := hf13.ext e1315
          have hfr : Reads w15 (if c8 = 0 then A8 else A8.map (·.add (0 * 9))) (fcells (limL k nm 250)) := by
            have := Reads.front (c := c8) (i := 250) hf15.reads
            rw [limL_take k nm (show 250 ≤ 300 by decide)] at this
            exact this
          have hc8 : 250 ≤ c8 := by have := hf15.len; rw [hll] at this; omega
          refine ⟨fun q => q < w15.heap.size, ?_⟩
          refine ⟨0, 250, rfl, rfl, Nat.zero_le _, hc8, ?_⟩
          refine ⟨(limF k nm 1000 201).val, fun u hu => ⟨(limF k nm 1000 201).cells, rfl, hu.rd (N15.lt (g := g12) (o := .cells (limF k nm 1000 201).cells.toArray 29 (0, 0)) (by simp)) (N15.rd 1 rfl), rfl⟩, ?_⟩
          refine ⟨?_, ?_⟩
          · intro ga wa ha
            refine ⟨ha.ext, ?_⟩
            have ho0 : wa.ownsRow w15.heap.size 29 9 (.slice (some ⟨ga, 0, none⟩) 0 0) 0 [] := owns_block (cs := []) ha.here (by rw [ha.new]; exact Nat.le_refl _) rfl (Nat.zero_le _)
            refine ⟨?_, ?_⟩
            · have hrl := (hfr).ext ha.ext
              refine ⟨rfl, rfl, rfl, w15.heap.size, 0, [], fcells (limL k nm 250), ho0, ha.ext.size, Nat.le_of_ble_eq_true rfl, rfl, by rw [fcells_length, hl250], hrl, by have := someF hrl; rw [hl250] at this; exact this, oneF _, by decide, by simp only [maxLen]; decide, ?_⟩
              intro v3 w3 ho3 hg3 _
              have e3 : Ext w15 w3 := app_ext ha.ext ho0 hg3
              refine ⟨Keep.below e3, ?_⟩
              intro gx wx hx
              refine ⟨hx.ext, ?_⟩
              have eX := e3.trans hx.ext
              have hoX : wx.ownsRow w15.heap.size 29 9 v3 _ _ := ownsRow_ext ho3 hx.ext
              have rX : Rd wx gx 0 (limF k nm 1000 201).cells := Rd.of_block hx.here
              rw [Nat.zero_add, List.nil_append] at hoX
              refine ⟨rfl, rfl, rfl, w15.heap.size, _, _, (limF k nm 1000 201).cells, hoX, eX.size, Nat.le_of_ble_eq_true rfl, rfl, rfl, .inr ⟨gx, 0, rfl, rX⟩, rfl, rfl, by decide, by simp only [maxLen]; decide, ?_⟩
              intro v5 w515 ho515 hg515 _
              have e515 : Ext w15 w515 := app_ext eX hoX hg515
              have hn515 : NewF w15.heap.size w515 v5 (limL k nm 250 ++ [limF k nm 1000 201]) := newF_snoc1 (by rw [hl250]; exact ho515)
              obtain ⟨A515, c515, rfl, hf515⟩ := hn515.hf (nums_append hnum2 fun y hy => by rw [List.mem_singleton.1 hy]; exact lim_nums hk hn ⟨by decide, by decide⟩ ⟨by decide, by decide⟩)
              have hc15 := Check_spec hf515 (by rw [List.length_append, hl250, List.length_singleton]; decide)
              rw [lim_other hform] at hc15
              refine hc15.weak.mono ?_
              rintro _ w17 ⟨rfl, e615⟩
              have e417 : Ext w4 w17 := e5.trans (N15.grow (e515.trans e615)).ext
              refine (alive_spec w17 (T.ext (M4.grow e417).ext)).mono ?_
              rintro _ w18 ⟨rfl, e18⟩
              exact ⟨rfl, (M4.grow e417).ext.trans e18⟩
            · intro gx w2 hx
              refine ⟨hx.ext, ?_⟩
              have e2 := ha.ext.trans hx.ext
              have ho2 := ownsRow_ext ho0 hx.ext
              have hrl := (hfr).ext e2
              refine ⟨rfl, rfl, rfl, w15.heap.size, 0, [], fcells (limL k nm 250), ho2, e2.size, Nat.le_of_ble_eq_true rfl, rfl, by rw [fcells_length, hl250], hrl, by have := someF hrl; rw [hl250] at this; exact this, oneF _, by decide, by simp only [maxLen]; decide, ?_⟩
              intro v3 wx hoX hg3 _
              have eX : Ext w15 wx := app_ext e2 ho2 hg3
              refine ⟨Keep.below eX, ?_⟩
              have rX : Rd wx gx 0 (limF k nm 1000 201).cells := rd_grown (Rd.of_block hx.here) hg3 (fun e => by
                have e : some ga = some gx := e
                injection e with e
                have h1 := hx.new
                have h2 := ha.new
                have h3 := ha.size
                omega)
              rw [Nat.zero_add, List.nil_append] at hoX
              refine ⟨rfl, rfl, rfl, w15.heap.size, _, _, (limF k nm 1000 201).cells, hoX, eX.size, Nat.le_of_ble_eq_true rfl, rfl, rfl, .inr ⟨gx, 0, rfl, rX⟩, rfl, rfl, by decide, by simp only [maxLen]; decide, ?_⟩
              intro v5 w515 ho515 hg515 _
              have e515 : Ext w15 w515 := app_ext eX hoX hg515
              have hn515 : NewF w15.heap.size w515 v5 (limL k nm 250 ++ [limF k nm 1000 201]) := newF_snoc1 (by rw [hl250]; exact ho515)
              obtain ⟨A515, c515, rfl, hf515⟩ := hn515.hf (nums_append hnum2 fun y hy => by rw [List.mem_singleton.1 hy]; exact lim_nums hk hn ⟨by decide, by decide⟩ ⟨by decide, by decide⟩)
              have hc15 := Check_spec hf515 (by rw [List.length_append, hl250, List.length_singleton]; decide)
              rw [lim_other hform] at hc15
              refine hc15.weak.mono ?_
              rintro _ w17 ⟨rfl, e615⟩
              have e417 : Ext w4 w17 := e5.trans (N15.grow (e515.trans e615)).ext
              refine (alive_spec w17 (T.ext (M4.grow e417).ext)).mono ?_
              rintro _ w18 ⟨rfl, e18⟩
              exact ⟨rfl, (M4.grow e417).ext.trans e18⟩
          · intro gx w2 hx
            refine ⟨hx.ext, ?_⟩
            intro ga wa ha
            refine ⟨ha.ext, ?_⟩
            have e2 := hx.ext.trans ha.ext
            have ho2 : wa.ownsRow w15.heap.size 29 9 (.slice (some ⟨ga, 0, none⟩) 0 0) 0 [] := owns_block (cs := []) ha.here (by rw [ha.new]; exact hx.ext.size) rfl (Nat.zero_le _)
            have hrl := (hfr).ext e2
            refine ⟨rfl, rfl, rfl, w15.heap.size, 0, [], fcells (limL k nm 250), ho2, e2.size, Nat.le_of_ble_eq_true rfl, rfl, by rw [fcells_length, hl250], hrl, by have := someF hrl; rw [hl250] at this; exact this, oneF _, by decide, by simp only [maxLen]; decide, ?_⟩
            intro v3 wx hoX hg3 _
            have eX : Ext w15 wx := app_ext e2 ho2 hg3
            refine ⟨Keep.below eX, ?_⟩
            have rX : Rd wx gx 0 (limF k nm 1000 201).cells := rd_grown ((Rd.of_block hx.here).ext ha.ext) hg3 (fun e => by
              have e : some ga = some gx := e
              injection e with e
              have h1 := hx.new
              have h2 := ha.new
              have h3 := hx.size
              omega)
            rw [Nat.zero_add, List.nil_append] at hoX
            refine ⟨rfl, rfl, rfl, w15.heap.size, _, _, (limF k nm 1000 201).cells, hoX, eX.size, Nat.le_of_ble_eq_true rfl, rfl, rfl, .inr ⟨gx, 0, rfl, rX⟩, rfl, rfl, by decide, by simp only [maxLen]; decide, ?_⟩
            intro v5 w515 ho515 hg515 _
            have e515 : Ext w15 w515 := app_ext eX hoX hg515
            have hn515 : NewF w15.heap.size w515 v5 (limL k nm 250 ++ [limF k nm 1000 201]) := newF_snoc1 (by rw [hl250]; exact ho515)
            obtain ⟨A515, c515, rfl, hf515⟩ := hn515.hf (nums_append hnum2 fun y hy => by rw [List.mem_singleton.1 hy]; exact lim_nums hk hn ⟨by decide, by decide⟩ ⟨by decide, by decide⟩)
            have hc15 := Check_spec hf515 (by rw [List.length_append, hl250, List.length_singleton]; decide)
            rw [lim_other hform] at hc15
            refine hc15.weak.mono ?_
            rintro _ w17 ⟨rfl, e615⟩
            have e417 : Ext w4 w17 := e5.trans (N15.grow (e515.trans e615)).ext
            refine (alive_spec w17 (T.ext (M4.grow e417).ext)).mono ?_
            rintro _ w18 ⟨rfl, e18⟩
            exact ⟨rfl, (M4.grow e417).ext.trans e18⟩
      · intro gx w2 hx
        refine ⟨hx.ext, ?_⟩
        intro ga wa ha
        refine ⟨ha.ext, ?_⟩
        have e2 := hx.ext.trans ha.ext
        have ho2 : wa.ownsRow w13.heap.size 29 9 (.slice (some ⟨ga, 0, none⟩) 0 0) 0 [] := owns_block (cs := []) ha.here (by rw [ha.new]; exact hx.ext.size) rfl (Nat.zero_le _)
        have hrl := (hf13.reads).ext e2
        refine ⟨rfl, rfl, rfl, w13.heap.size, 0, [], fcells (limL k nm 300), ho2, e2.size, Nat.le_of_ble_eq_true rfl, rfl, fcells_length _, hrl, someF hrl, oneF _, by rw [hll]; decide, by rw [hll]; simp only [maxLen]; decide, ?_⟩
        intro v3 wx hoX hg3 _
        have eX : Ext w13 wx := app_ext e2 ho2 hg3
        refine ⟨Keep.below eX, ?_⟩
        have rX : Rd wx gx 0 (limF k nm 301 1).cells := rd_grown ((Rd.of_block hx.here).ext ha.ext) hg3 (fun e => by
          have e : some ga = some gx := e
          injection e with e
          have h1 := hx.new
          have h2 := ha.new
          have h3 := hx.size
          omega)
        rw [Nat.zero_add, List.nil_append] at hoX
        refine ⟨rfl, rfl, rfl, w13.heap.size, _, _, (limF k nm 301 1).cells, hoX, eX.size, Nat.le_of_ble_eq_true rfl, rfl, rfl, .inr ⟨gx, 0, rfl, rX⟩, rfl, rfl, by rw [hll]; decide, by rw [hll]; simp only [maxLen]; decide, ?_⟩
        intro v5 w513 ho513 hg513 _
        have e513 : Ext w13 w513 := app_ext eX hoX hg513
        have hn513 : NewF w13.heap.size w513 v5 (limL k nm 300 ++ [limF k nm 301 1]) := newF_snoc1 ho513
        obtain ⟨A513, c513, rfl, hf513⟩ := hn513.hf (nums_append hnum fun y hy => by rw [List.mem_singleton.1 hy]; exact lim_nums hk hn ⟨by decide, by decide⟩ ⟨by decide, by decide⟩)
        have hc13 := Check_spec hf513 (by rw [List.length_append, hll, List.length_singleton]; decide)
        rw [lim_more hform] at hc13
        refine hc13.weak.mono ?_
        rintro _ w15 ⟨rfl, e613⟩
        have e1315 := e513.trans e613
        have N15 := N13.grow e1315
        have hf15 := hf13.ext e1315
        have hfr : Reads w15 (if c8 = 0 then A8 else A8.map (·.add (0 * 9))) (fcells (limL k nm 250)) := by
          have := Reads.front (c := c8) (i := 250) hf15.reads
          rw [limL_take k nm (show 250 ≤ 300 by decide)] at this
          exact this
        have hc8 : 250 ≤ c8 := by have := hf15.len; rw [hll] at this; omega
        refine ⟨fun q => q < w15.heap.size, ?_⟩
        refine ⟨0, 250, rfl, rfl, Nat.zero_le _, hc8, ?_⟩
        refine ⟨(limF k nm 1000 201).val, fun u hu => ⟨(limF k nm 1000 201).cells, rfl, hu.rd (N15.lt (g := g12) (o := .cells (limF k nm 1000 201).cells.toArray 29 (0, 0)) (by simp)) (N15.rd 1 rfl), rfl⟩, ?_⟩
        refine ⟨?_, ?_⟩
        · intro ga wa ha
          refine ⟨ha.ext, ?_⟩
          have ho0 : wa.ownsRow w15.heap.size 29 9 (.slice (some ⟨ga, 0, none⟩) 0 0) 0 [] := owns_block (cs := []) ha.here (by rw [ha.new]; exact Nat.le_refl _) rfl (Nat.zero_le _)
          refine ⟨?_, ?_⟩
          · have hrl := (hfr).ext ha.ext
            refine ⟨rfl, rfl, rfl, w15.heap.size, 0, [], fcells (limL k nm 250), ho0, ha.ext.size, Nat.le_of_ble_eq_true rfl, rfl, by rw [fcells_length, hl250], hrl, by have := someF hrl; rw [hl250] at this; exact this, oneF _, by decide, by simp only [maxLen]; decide, ?_⟩
            intro v3 w3 ho3 hg3 _
            have e3 : Ext w15 w3 := app_ext ha.ext ho0 hg3
            refine ⟨Keep.below e3, ?_⟩
            intro gx wx hx
            refine ⟨hx.ext, ?_⟩
            have eX := e3.trans hx.ext
            have hoX : wx.ownsRow w15.heap.size 29 9 v3 _ _ := ownsRow_ext ho3 hx.ext
            have rX : Rd wx gx 0 (limF k nm 1000 201).cells := Rd.of_block hx.here
            rw [Nat.zero_add, List.nil_append] at hoX
            refine ⟨rfl, rfl, rfl, w15.heap.size, _, _, (limF k nm 1000 201).cells, hoX, eX.size, Nat.le_of_ble_eq_true rfl, rfl, rfl, .inr ⟨gx, 0, rfl, rX⟩, rfl, rfl, by decide, by simp only [maxLen]; decide, ?_⟩
            intro v5 w515 ho515 hg515 _
            have e515 : Ext w15 w515 := app_ext eX hoX hg515
            have hn515 : NewF w15.heap.size w515 v5 (limL k nm 250 ++ [limF k nm 1000 201]) := newF_snoc1 (by rw [hl250]; exact ho515)
            obtain ⟨A515, c515, rfl, hf515⟩ := hn515.hf (nums_append hnum2 fun y hy => by rw [List.mem_singleton.1 hy]; exact lim_nums hk hn ⟨by decide, by decide⟩ ⟨by decide, by decide⟩)
            have hc15 := Check_spec hf515 (by rw [List.length_append, hl250, List.length_singleton]; decide)
            rw [lim_other hform] at hc15
            refine hc15.weak.mono ?_
            rintro _ w17 ⟨rfl, e615⟩
            have e417 : Ext w4 w17 := e5.trans (N15.grow (e515.trans e615)).ext
            refine (alive_spec w17 (T.ext (M4.grow e417).ext)).mono ?_
            rintro _ w18 ⟨rfl, e18⟩
            exact ⟨rfl, (M4.grow e417).ext.trans e18⟩
          · intro gx w2 hx
            refine ⟨hx.ext, ?_⟩
            have e2 := ha.ext.trans hx.ext
            have ho2 := ownsRow_ext ho0 hx.ext
            have hrl := (hfr).ext e2
            refine ⟨rfl, rfl, rfl, w15.heap.size, 0, [], fcells (limL k nm 250), ho2, e2.size, Nat.le_of_ble_eq_true rfl, rfl, by rw [fcells_length, hl250], hrl, by have := someF hrl; rw [hl250] at this; exact this, oneF _, by decide, by simp only [maxLen]; decide, ?_⟩
            intro v3 wx hoX hg3 _
            have eX : Ext w15 wx := app_ext e2 ho2 hg3
            refine ⟨Keep.below eX, ?_⟩
            have rX : Rd wx gx 0 (limF k nm 1000 201).cells := rd_grown (Rd.of_block hx.here) hg3 (fun e => by
              have e : some ga = some gx := e
              injection e with e
              have h1 := hx.new
              have h2 := ha.new
              have h3 := ha.size
              omega)
            rw [Nat.zero_add, List.nil_append] at hoX
            refine ⟨rfl, rfl, rfl, w15.heap.size, _, _, (limF k nm 1000 201).cells, hoX, eX.size, Nat.le_of_ble_eq_true rfl, rfl, rfl, .inr ⟨gx, 0, rfl, rX⟩, rfl, rfl, by decide, by simp only [maxLen]; decide, ?_⟩
            intro v5 w515 ho515 hg515 _
            have e515 : Ext w15 w515 := app_ext eX hoX hg515
            have hn515 : NewF w15.heap.size w515 v5 (limL k nm 250 ++ [limF k nm 1000 201]) := newF_snoc1 (by rw [hl250]; exact ho515)
            obtain ⟨A515, c515, rfl, hf515⟩ := hn515.hf (nums_append hnum2 fun y hy => by rw [List.mem_singleton.1 hy]; exact lim_nums hk hn ⟨by decide, by decide⟩ ⟨by decide, by decide⟩)
            have hc15 := Check_spec hf515 (by rw [List.length_append, hl250, List.length_singleton]; decide)
            rw [lim_other hform] at hc15
            refine hc15.weak.mono ?_
            rintro _ w17 ⟨rfl, e615⟩
            have e417 : Ext w4 w17 := e5.trans (N15.grow (e515.trans e615)).ext
            refine (alive_spec w17 (T.ext (M4.grow e417).ext)).mono ?_
            rintro _ w18 ⟨rfl, e18⟩
            exact ⟨rfl, (M4.grow e417).ext.trans e18⟩
        · intro gx w2 hx
          refine ⟨hx.ext, ?_⟩
          intro ga wa ha
          refine ⟨ha.ext, ?_⟩
          have e2 := hx.ext.trans ha.ext
          have ho2 : wa.ownsRow w15.heap.size 29 9 (.slice (some ⟨ga, 0, none⟩) 0 0) 0 [] := owns_block (cs := []) ha.here (by rw [ha.new]; exact hx.ext.size) rfl (Nat.zero_le _)
          have hrl := (hfr).ext e2
          refine ⟨rfl, rfl, rfl, w15.heap.size, 0, [], fcells (limL k nm 250), ho2, e2.size, Nat.le_of_ble_eq_true rfl, rfl, by rw [fcells_length, hl250], hrl, by have := someF hrl; rw [hl250] at this; exact this, oneF _, by decide, by simp only [maxLen]; decide, ?_⟩
          intro v3 wx hoX hg3 _
          have eX : Ext w15 wx := app_ext e2 ho2 hg3
          refine ⟨Keep.below eX, ?_⟩
          have rX : Rd wx gx 0 (limF k nm 1000 201).cells := rd_grown ((Rd.of_block hx.here).ext ha.ext) hg3 (fun e => by
            have e : some ga = some gx := e
            injection e with e
            have h1 := hx.new
            have h2 := ha.new
            have h3 := hx.size
            omega)
          rw [Nat.zero_add, List.nil_append] at hoX
          refine ⟨rfl, rfl, rfl, w15.heap.size, _, _, (limF k nm 1000 201).cells, hoX, eX.size, Nat.le_of_ble_eq_true rfl, rfl, rfl, .inr ⟨gx, 0, rfl, rX⟩, rfl, rfl, by decide, by simp only [maxLen]; decide, ?_⟩
          intro v5 w515 ho515 hg515 _
          have e515 : Ext w15 w515 := app_ext eX hoX hg515
          have hn515 : NewF w15.heap.size w515 v5 (limL k nm 250 ++ [limF k nm 1000 201]) := newF_snoc1 (by rw [hl250]; exact ho515)
          obtain ⟨A515, c515, rfl, hf515⟩ := hn515.hf (nums_append hnum2 fun y hy => by rw [List.mem_singleton.1 hy]; exact lim_nums hk hn ⟨by decide, by decide⟩ ⟨by decide, by decide⟩)
          have hc15 := Check_spec hf515 (by rw [List.length_append, hl250, List.length_singleton]; decide)
          rw [lim_other hform] at hc15
          refine hc15.weak.mono ?_
          rintro _ w17 ⟨rfl, e615⟩
          have e417 : Ext w4 w17 := e5.trans (N15.grow (e515.trans e615)).ext
          refine (alive_spec w17 (T.ext (M4.grow e417).ext)).mono ?_
          rintro _ w18 ⟨rfl, e18⟩
          exact ⟨rfl, (M4.grow e417).ext.trans e18⟩
    · intro g12 w6 h6
      refine ⟨h6.ext, ?_⟩
      intro g11 w7 h7
      refine ⟨h7.ext, ?_⟩
      have N7 := ((Mem.start w5).alloc h6).alloc h7
      refine ⟨rfl, _, _, N7.get 0 rfl, Nat.le_of_ble_eq_true rfl, rfl, ?_⟩
      intro w8 h8
      have N8 : Mem w5 w8 [(g11, .cells (limF k nm 1 1).cells.toArray 29 (0, 0)), (g12, .cells (factZ).cells.toArray 29 (0, 0))] := N7.put 0 rfl h8
      refine ⟨⟨N8.ext.os, N8.ext.tape, N8.ext.output, N8.ext.size, fun q _ hq => N8.ext.block q hq⟩, ?_⟩
      refine ⟨rfl, _, _, N8.get 1 rfl, Nat.le_of_ble_eq_true rfl, rfl, ?_⟩
      intro w9 h9
      have N9 : Mem w5 w9 [(g11, .cells (limF k nm 1 1).cells.toArray 29 (0, 0)), (g12, .cells (limF k nm 1 1).cells.toArray 29 (0, 0))] := N8.put 1 rfl h9
      refine ⟨rfl, _, _, N9.get 0 rfl, Nat.le_of_ble_eq_true rfl, rfl, ?_⟩
      intro w10 h10
      have N10 : Mem w5 w10 [(g11, .cells (limF k nm 301 1).cells.toArray 29 (0, 0)), (g12, .cells (limF k nm 1 1).cells.toArray 29 (0, 0))] := N9.put 0 rfl h10
      refine ⟨rfl, _, _, N10.get 1 rfl, Nat.le_of_ble_eq_true rfl, rfl, ?_⟩
      intro w11 h11
      have N11 : Mem w5 w11 [(g11, .cells (limF k nm 301 1).cells.toArray 29 (0, 0)), (g12, .cells (limF k nm 1000 1).cells.toArray 29 (0, 0))] := N10.put 1 rfl h11
      refine ⟨rfl, _, _, N11.get 1 rfl, Nat.le_of_ble_eq_true rfl, rfl, ?_⟩
      intro w12 h12
      have N12 : Mem w5 w12 [(g11, .cells (limF k nm 301 1).cells.toArray 29 (0, 0)), (g12, .cells (limF k nm 1000 201).cells.toArray 29 (0, 0))] := N11.put 1 rfl h12
      clear N11 N10 N9 N8 N7
      have hf12 := hf5.ext N12.ext
      have hc0 := Check_spec hf12 (by rw [hll]; decide)
      rw [chkF_valid (lim_valid hform (Nat.le_refl 300))] at hc0
      refine hc0.weak.mono ?_
      rintro _ w13 ⟨rfl, e13⟩
      have N13 := N12.grow e13
      have hf13 := hf12.ext e13
      clear hc0 hf12 N12 e13
      refine ⟨fun q => q < w13.heap.size, ?_⟩
      refine ⟨(limF k nm 301 1).val, fun u hu => ⟨(limF k nm 301 1).cells, rfl, hu.rd (N13.lt (g := g11) (o := .cells (limF k nm 301 1).cells.toArray 29 (0, 0)) (by simp)) (N13.rd 0 rfl), rfl⟩, ?_⟩
      refine ⟨?_, ?_⟩
      · intro ga wa ha
        refine ⟨ha.ext, ?_⟩
        have ho0 : wa.ownsRow w13.heap.size 29 9 (.slice (some ⟨ga, 0, none⟩) 0 0) 0 [] := owns_block (cs := []) ha.here (by rw [ha.new]; exact Nat.le_refl _) rfl (Nat.zero_le _)
        refine ⟨?_, ?_⟩
        · have hrl := (hf13.reads).ext ha.ext
          refine ⟨rfl, rfl, rfl, w13.heap.size, 0, [], fcells (limL k nm 300), ho0, ha.ext.size, Nat.le_of_ble_eq_true rfl, rfl, fcells_length _, hrl, someF hrl, oneF _, by rw [hll]; decide, by rw [hll]; simp only [maxLen]; decide, ?_⟩
          intro v3 w3 ho3 hg3 _
          have e3 : Ext w13 w3 := app_ext ha.ext ho0 hg3
          refine ⟨Keep.below e3, ?_⟩
          intro gx wx hx
          refine ⟨hx.ext, ?_⟩
          have eX := e3.trans hx.ext
          have hoX : wx.ownsRow w13.heap.size 29 9 v3 _ _ := ownsRow_ext ho3 hx.ext
          have rX : Rd wx gx 0 (limF k nm 301 1).cells := Rd.of_block hx.here
          rw [Nat.zero_add, List.nil_append] at hoX
          refine ⟨rfl, rfl, rfl, w13.heap.size, _, _, (limF k nm 301 1).cells, hoX, eX.size, Nat.le_of_ble_eq_true rfl, rfl, rfl, .inr ⟨gx, 0, rfl, rX⟩, rfl, rfl, by rw [hll]; decide, by rw [hll]; simp only [maxLen]; decide, ?_⟩
          intro v5 w513 ho513 hg513 _
          have e513 : Ext w13 w513 := app_ext eX hoX hg513
          have hn513 : NewF w13.heap.size w513 v5 (limL k nm 300 ++ [limF k nm 301 1]) := newF_snoc1 ho513
          obtain ⟨A513, c513, rfl, hf513⟩ := hn513.hf (nums_append hnum fun y hy => by rw [List.mem_singleton.1 hy]; exact lim_nums hk hn ⟨by decide, by decide⟩ ⟨by decide, by decide⟩)
          have hc13 := Check_spec hf513 (by rw [List.length_append, hll, List.length_singleton]; decide)
          rw [lim_more hform] at hc13
          refine hc13.weak.mono ?_
          rintro _ w15 ⟨rfl, e613⟩
          have e1315 := e513.trans e613
          have N15 := N13.grow e1315
          have hf15 := hf13.ext e1315
          have hfr : Reads w15 (if c8 = 0 then A8 else A8.map (·.add (0 * 9))) (fcells (limL k nm 250)) := by
            have := Reads.front (c := c8) (i := 250) hf15.reads
            rw [limL_take k nm (show 250 ≤ 300 by decide)] at this
            exact this
          have hc8 : 250 ≤ c8 := by have := hf15.len; rw [hll] at this; omega
          refine ⟨fun q => q < w15.heap.size, ?_⟩
          refine ⟨0, 250, rfl, rfl, Nat.zero_le _, hc8, ?_⟩
          refine ⟨(limF k nm 1000 201).val, fun u hu => ⟨(limF k nm 1000 201).cells, rfl, hu.rd (N15.lt (g := g12) (o := .cells (limF k nm 1000 201).cells.toArray 29 (0, 0)) (by simp)) (N15.rd 1 rfl), rfl⟩, ?_⟩
          refine ⟨?_, ?_⟩
          · intro ga wa ha
            refine ⟨ha.ext, ?_⟩
            have ho0 : wa.ownsRow w15.heap.size 29 9 (.slice (some ⟨ga, 0, none⟩) 0 0) 0 [] := owns_block (cs := []) ha.here (by rw [ha.new]; exact Nat.le_refl _) rfl (Nat.zero_le _)
            refine ⟨?_, ?_⟩
            · have hrl := (hfr).ext ha.ext
              refine ⟨rfl, rfl, rfl, w15.heap.size, 0, [], fcells (limL k nm 250), ho0, ha.ext.size, Nat.le_of_ble_eq_true rfl, rfl, by rw [fcells_length, hl250], hrl, by have := someF hrl; rw [hl250] at this; exact this, oneF _, by decide, by simp only [maxLen]; decide, ?_⟩
              intro v3 w3 ho3 hg3 _
              have e3 : Ext w15 w3 := app_ext ha.ext ho0 hg3
              refine ⟨Keep.below e3, ?_⟩
              intro gx wx hx
              refine ⟨hx.ext, ?_⟩
              have eX := e3.trans hx.ext
              have hoX : wx.ownsRow w15.heap.size 29 9 v3 _ _ := ownsRow_ext ho3 hx.ext
              have rX : Rd wx gx 0 (limF k nm 1000 201).cells := Rd.of_block hx.here
              rw [Nat.zero_add, List.nil_append] at hoX
              refine ⟨rfl, rfl, rfl, w15.heap.size, _, _, (limF k nm 1000 201).cells, hoX, eX.size, Nat.le_of_ble_eq_true rfl, rfl, rfl, .inr ⟨gx, 0, rfl, rX⟩, rfl, rfl, by decide, by simp only [maxLen]; decide, ?_⟩
              intro v5 w515 ho515 hg515 _
              have e515 : Ext w15 w515 := app_ext eX hoX hg515
              have hn515 : NewF w15.heap.size w515 v5 (limL k nm 250 ++ [limF k nm 1000 201]) := newF_snoc1 (by rw [hl250]; exact ho515)
              obtain ⟨A515, c515, rfl, hf515⟩ := hn515.hf (nums_append hnum2 fun y hy => by rw [List.mem_singleton.1 hy]; exact lim_nums hk hn ⟨by decide, by decide⟩ ⟨by decide, by decide⟩)
              have hc15 := Check_spec hf515 (by rw [List.length_append, hl250, List.length_singleton]; decide)
              rw [lim_other hform] at hc15
              refine hc15.weak.mono ?_
              rintro _ w17 ⟨rfl, e615⟩
              have e417 : Ext w4 w17 := e5.trans (N15.grow (e515.trans e615)).ext
              refine (alive_spec w17 (T.ext (M4.grow e417).ext)).mono ?_
              rintro _ w18 ⟨rfl, e18⟩
              exact ⟨rfl, (M4.grow e417).ext.trans e18⟩
            · intro gx w2 hx
              refine ⟨hx.ext, ?_⟩
              have e2 := ha.ext.trans hx.ext
              have ho2 := ownsRow_ext ho0 hx.ext
              have hrl := (hfr).ext e2
              refine ⟨rfl, rfl, rfl, w15.heap.size, 0, [], fcells (limL k nm 250), ho2, e2.size, Nat.le_of_ble_eq_true rfl, rfl, by rw [fcells_length, hl250], hrl, by have := someF hrl; rw [hl250] at this; exact this, oneF _, by decide, by simp only [maxLen]; decide, ?_⟩
              intro v3 wx hoX hg3 _
              have eX : Ext w15 wx := app_ext e2 ho2 hg3
              refine ⟨Keep.below eX, ?_⟩
              have rX : Rd wx gx 0 (limF k nm 1000 201).cells := rd_grown (Rd.of_block hx.here) hg3 (fun e => by
                have e : some ga = some gx := e
                injection e with e
                have h1 := hx.new
                have h2 := ha.new
                have h3 := ha.size
                omega)
              rw [Nat.zero_add, List.nil_append] at hoX
              refine ⟨rfl, rfl, rfl, w15.heap.size, _, _, (limF k nm 1000 201).cells, hoX, eX.size, Nat.le_of_ble_eq_true rfl, rfl, rfl, .inr ⟨gx, 0, rfl, rX⟩, rfl, rfl, by decide, by simp only [maxLen]; decide, ?_⟩
              intro v5 w515 ho515 hg515 _
              have e515 : Ext w15 w515 := app_ext eX hoX hg515
              have hn515 : NewF w15.heap.size w515 v5 (limL k nm 250 ++ [limF k nm 1000 201]) := newF_snoc1 (by rw [hl250]; exact ho515)
              obtain ⟨A515, c515, rfl, hf515⟩ := hn515.hf (nums_append hnum2 fun y hy => by rw [List.mem_singleton.1 hy]; exact lim_nums hk hn ⟨by decide, by decide⟩ ⟨by decide, by decide⟩)
              have hc15 := Check_spec hf515 (by rw [List.length_append, hl250, List.length_singleton]; decide)
              rw [lim_other hform] at hc15
              refine hc15.weak.mono ?_
              rintro _ w17 ⟨rfl, e615⟩
              have e417 : Ext w4 w17 := e5.trans (N15.grow (e515.trans e615)).ext
              refine (alive_spec w17 (T.ext (M4.grow e417).ext)).mono ?_
              rintro _ w18 ⟨rfl, e18⟩
              exact ⟨rfl, (M4.grow e417).ext.trans e18⟩
          · intro gx w2 hx
            refine ⟨hx.ext, ?_⟩
            intro ga wa ha
            refine ⟨ha.ext, ?_⟩
            have e2 := hx.ext.trans ha.ext
            have ho2 : wa.ownsRow w15.heap.size 29 9 (.slice (some ⟨ga, 0, none⟩) 0 0) 0 [] := owns_block (cs := []) ha.here (by rw [ha.new]; exact hx.ext.size) rfl (Nat.zero_le _)
            have hrl := (hfr).ext e2
            refine ⟨rfl, rfl, rfl, w15.heap.size, 0, [], fcells (limL k nm 250), ho2, e2.size, Nat.le_of_ble_eq_true rfl, rfl, by rw [fcells_length, hl250], hrl, by have := someF hrl; rw [hl250] at this; exact this, oneF _, by decide, by simp only [maxLen]; decide, ?_⟩
            intro v3 wx hoX hg3 _
            have eX : Ext w15 wx := app_ext e2 ho2 hg3
            refine ⟨Keep.below eX, ?_⟩
            have rX : Rd wx gx 0 (limF k nm 1000 201).cells := rd_grown ((Rd.of_block hx.here).ext ha.ext) hg3 (fun e => by
              have e : some ga = some gx := e
              injection e with e
              have h1 := hx.new
              have h2 := ha.new
              have h3 := hx.size
              omega)
            rw [Nat.zero_add, List.nil_append] at hoX
            refine ⟨rfl, rfl, rfl, w15.heap.size, _, _, (limF k nm 1000 201).cells, hoX, eX.size, Nat.le_of_ble_eq_true rfl, rfl, rfl, .inr ⟨gx, 0, rfl, rX⟩, rfl, rfl, by decide, by simp only [maxLen]; decide, ?_⟩
            intro v5 w515 ho515 hg515 _
            have e515 : Ext w15 w515 := app_ext eX hoX hg515
            have hn515 : NewF w15.heap.size w515 v5 (limL k nm 250 ++ [limF k nm 1000 201]) := newF_snoc1 (by rw [hl250]; exact ho515)
            obtain ⟨A515, c515, rfl, hf515⟩ := hn515.hf (nums_append hnum2 fun y hy => by rw [List.mem_singleton.1 hy]; exact lim_nums hk hn ⟨by decide, by decide⟩ ⟨by decide, by decide⟩)
            have hc15 := Check_spec hf515 (by rw [List.length_append, hl250, List.length_singleton]; decide)
            rw [lim_other hform] at hc15
            refine hc15.weak.mono ?_
            rintro _ w17 ⟨rfl, e615⟩
            have e417 : Ext w4 w17 := e5.trans (N15.grow (e515.trans e615)).ext
            refine (alive_spec w17 (T.ext (M4.grow e417).ext)).mono ?_
            rintro _ w18 ⟨rfl, e18⟩
            exact ⟨rfl, (M4.grow e417).ext.trans e18⟩
        · intro gx w2 hx
          refine ⟨hx.ext, ?_⟩
          have e2 := ha.ext.trans hx.ext
          have ho2 := ownsRow_ext ho0 hx.ext
          have hrl := (hf13.reads).ext e2
          refine ⟨rfl, rfl, rfl, w13.heap.size, 0, [], fcells (limL k nm 300), ho2, e2.size, Nat.le_of_ble_eq_true rfl, rfl, fcells_length _, hrl, someF hrl, oneF _, by rw [hll]; decide, by rw [hll]; simp only [maxLen]; decide, ?_⟩
          intro v3 wx hoX hg3 _
          have eX : Ext w13 wx := app_ext e2 ho2 hg3
          refine ⟨Keep.below eX, ?_⟩
          have rX : Rd wx gx 0 (limF k nm 301 1).cells := rd_grown (Rd.of_block hx.here) hg3 (fun e => by
            have e : some ga = some gx := e
            injection e with e
            have h1 := hx.new
            have h2 := ha.new
            have h3 := ha.size
            omega)
          rw [Nat.zero_add, List.nil_append] at hoX
          refine ⟨rfl, rfl, rfl, w13.heap.size, _, _, (limF k nm 301 1).cells, hoX, eX.size, Nat.le_of_ble_eq_true rfl, rfl, rfl, .inr ⟨gx, 0, rfl, rX⟩, rfl, rfl, by rw [hll]; decide, by rw [hll]; simp only [maxLen]; decide, ?_⟩
          intro v5 w513 ho513 hg513 _
          have e513 : Ext w13 w513 := app_ext eX hoX hg513
          have hn513 : NewF w13.heap.size w513 v5 (limL k nm 300 ++ [limF k nm 301 1]) := newF_snoc1 ho513
          obtain ⟨A513, c513, rfl, hf513⟩ := hn513.hf (nums_append hnum fun y hy => by rw [List.mem_singleton.1 hy]; exact lim_nums hk hn ⟨by decide, by decide⟩ ⟨by decide, by decide⟩)
          have hc13 := Check_spec hf513 (by rw [List.length_append, hll, List.length_singleton]; decide)
          rw [lim_more hform] at hc13
          refine hc13.weak.mono ?_
          rintro _ w15 ⟨rfl, e613⟩
          have e1315 := e513.trans e613
          have N15 := N13.grow e1315
          have hf15 := hf13.ext e1315
          have hfr : Reads w15 (if c8 = 0 then A8 else A8.map (·.add (0 * 9))) (fcells (limL k nm 250)) := by
            have := Reads.front (c := c8) (i := 250) hf15.reads
            rw [limL_take k nm (show 250 ≤ 300 by decide)] at this
            exact this
          have hc8 : 250 ≤ c8 := by have := hf15.len; rw [hll] at this; omega
          refine ⟨fun q => q < w15.heap.size, ?_⟩
          refine ⟨0, 250, rfl, rfl, Nat.zero_le _, hc8, ?_⟩
          refine ⟨(limF k nm 1000 201).val, fun u hu => ⟨(limF k nm 1000 201).cells, rfl, hu.rd (N15.lt (g := g12) (o := .cells (limF k nm 1000 201).cells.toArray 29 (0, 0)) (by simp)) (N15.rd 1 rfl), rfl⟩, ?_⟩
          refine ⟨?_, ?_⟩
          · intro ga wa ha
            refine ⟨ha.ext, ?_⟩
            have ho0 : wa.ownsRow w15.heap.size 29 9 (.slice (some ⟨ga, 0, none⟩) 0 0) 0 [] := owns_block (cs := []) ha.here (by rw [ha.new]; exact Nat.le_refl _) rfl (Nat.zero_le _)
            refine ⟨?_, ?_⟩
            · have hrl := (hfr).ext ha.ext
              refine ⟨rfl, rfl, rfl, w15.heap.size, 0, [], fcells (limL k nm 250), ho0, ha.ext.size, Nat.le_of_ble_eq_true rfl, rfl, by rw [fcells_length, hl250], hrl, by have := someF hrl; rw [hl250] at this; exact this, oneF _, by decide, by simp only [maxLen]; decide, ?_⟩
              intro v3 w3 ho3 hg3 _
              have e3 : Ext w15 w3 := app_ext ha.ext ho0 hg3
              refine ⟨Keep.below e3, ?_⟩
              intro gx wx hx
              refine ⟨hx.ext, ?_⟩
              have eX := e3.trans hx.ext
              have hoX : wx.ownsRow w15.heap.size 29 9 v3 _ _ := ownsRow_ext ho3 hx.ext
              have rX : Rd wx gx 0 (limF k nm 1000 201).cells := Rd.of_block hx.here
              rw [Nat.zero_add, List.nil_append] at hoX
              refine ⟨rfl, rfl, rfl, w15.heap.size, _, _, (limF k nm 1000 201).cells, hoX, eX.size, Nat.le_of_ble_eq_true rfl, rfl, rfl, .inr ⟨gx, 0, rfl, rX⟩, rfl, rfl, by decide, by simp only [maxLen]; decide, ?_⟩
              intro v5 w515 ho515 hg515 _
              have e515 : Ext w15 w515 := app_ext eX hoX hg515
              have hn515 : NewF w15.heap.size w515 v5 (limL k nm 250 ++ [limF k nm 1000 201]) := newF_snoc1 (by rw [hl250]; exact ho515)
              obtain ⟨A515, c515, rfl, hf515⟩ := hn515.hf (nums_append hnum2 fun y hy => by rw [List.mem_singleton.1 hy]; exact lim_nums hk hn ⟨by decide, by decide⟩ ⟨by decide, by decide⟩)
              have hc15 := Check_spec hf515 (by rw [List.length_append, hl250, List.length_singleton]; decide)
              rw [lim_other hform] at hc15
              refine hc15.weak.mono ?_
              rintro _ w17 ⟨rfl, e615⟩
              have e417 : Ext w4 w17 := e5.trans (N15.grow (e515.trans e615)).ext
              refine (alive_spec w17 (T.ext (M4.grow e417).ext)).mono ?_
              rintro _ w18 ⟨rfl, e18⟩
              exact ⟨rfl, (M4.grow e417).ext.trans e18⟩
            · intro gx w2 hx
              refine ⟨hx.ext, ?_⟩
              have e2 := ha.ext.trans hx.ext
              have ho2 := ownsRow_ext ho0 hx.ext
              have hrl := (hfr).ext e2
              refine ⟨rfl, rfl, rfl, w15.heap.size, 0, [], fcells (limL k nm 250), ho2, e2.size, Nat.le_of_ble_eq_true rfl, rfl, by rw [fcells_length, hl250], hrl, by have := someF hrl; rw [hl250] at this; exact this, oneF _, by decide, by simp only [maxLen]; decide, ?_⟩
              intro v3 wx hoX hg3 _
              have eX : Ext w15 wx := app_ext e2 ho2 hg3
              refine ⟨Keep.below eX, ?_⟩
              have rX : Rd wx gx 0 (limF k nm 1000 201).cells := rd_grown (Rd.of_block hx.here) hg3 (fun e => by
                have e : some ga = some gx := e
                injection e with e
                have h1 := hx.new
                have h2 := ha.new
                have h3 := ha.size
                omega)
              rw [Nat.zero_add, List.nil_append] at hoX
              refine ⟨rfl, rfl, rfl, w15.heap.size, _, _, (limF k nm 1000 201).cells, hoX, eX.size, Nat.le_of_ble_eq_true rfl, rfl, rfl, .inr ⟨gx, 0, rfl, rX⟩, rfl, rfl, by decide, by simp only [maxLen]; decide, ?_⟩
              intro v5 w515 ho515 hg515 _
              have e515 : Ext w15 w515 := app_ext eX hoX hg515
              have hn515 : NewF w15.heap.size w515 v5 (limL k nm 250 ++ [limF k nm 1000 201]) := newF_snoc1 (by rw [hl250]; exact ho515)
              obtain ⟨A515, c515, rfl, hf515⟩ := hn515.hf (nums_append hnum2 fun y hy => by rw [List.mem_singleton.1 hy]; exact lim_nums hk hn ⟨by decide, by decide⟩ ⟨by decide, by decide⟩)
              have hc15 := Check_spec hf515 (by rw [List.length_append, hl250, List.length_singleton]; decide)
              rw [lim_other hform] at hc15
              refine hc15.weak.mono ?_
              rintro _ w17 ⟨rfl, e615⟩
              have e417 : Ext w4 w17 := e5.trans (N15.grow (e515.trans e615)).ext
              refine (alive_spec w17 (T.ext (M4.grow e417).ext)).mono ?_
              rintro _ w18 ⟨rfl, e18⟩
              exact ⟨rfl, (M4.grow e417).ext.trans e18⟩
          · intro gx w2 hx
            refine ⟨hx.ext, ?_⟩
            intro ga wa ha
            refine ⟨ha.ext, ?_⟩
            have e2 := hx.ext.trans ha.ext
            have ho2 : wa.ownsRow w15.heap.size 29 9 (.slice (some ⟨ga, 0, none⟩) 0 0) 0 [] := owns_block (cs := []) ha.here (by rw [ha.new]; exact hx.ext.size) rfl (Nat.zero_le _)
            have hrl := (hfr).ext e2
            refine ⟨rfl, rfl, rfl, w15.heap.size, 0, [], fcells (limL k nm 250), ho2, e2.size, Nat.le_of_ble_eq_true rfl, rfl, by rw [fcells_length, hl250], hrl, by have := someF hrl; rw [hl250] at this; exact this, oneF _, by decide, by simp only [maxLen]; decide, ?_⟩
            intro v3 wx hoX hg3 _
            have eX : Ext w15 wx := app_ext e2 ho2 hg3
            refine ⟨Keep.below eX, ?_⟩
            have rX : Rd wx gx 0 (limF k nm 1000 201).cells := rd_grown ((Rd.of_block hx.here).ext ha.ext) hg3 (fun e => by
              have e : some ga = some gx := e
              injection e with e
              have h1 := hx.new
              have h2 := ha.new
              have h3 := hx.size
              omega)
            rw [Nat.zero_add, List.nil_append] at hoX
            refine ⟨rfl, rfl, rfl, w15.heap.size, _, _, (limF k nm 1000 201).cells, hoX, eX.size, Nat.le_of_ble_eq_true rfl, rfl, rfl, .inr ⟨gx, 0, rfl, rX⟩, rfl, rfl, by decide, by simp only [maxLen]; decide, ?_⟩
            intro v5 w515 ho515 hg515 _
            have e515 : Ext w15 w515 := app_ext eX hoX hg515
            have hn515 : NewF w15.heap.size w515 v5 (limL k nm 250 ++ [limF k nm 1000 201]) := newF_snoc1 (by rw [hl250]; exact ho515)
            obtain ⟨A515, c515, rfl, hf515⟩ := hn515.hf (nums_append hnum2 fun y hy => by rw [List.mem_singleton.1 hy]; exact lim_nums hk hn ⟨by decide, by decide⟩ ⟨by decide, by decide⟩)
            have hc15 := Check_spec hf515 (by rw [List.length_append, hl250, List.length_singleton]; decide)
            rw [lim_other hform] at hc15
            refine hc15.weak.mono ?_
            rintro _ w17 ⟨rfl, e615⟩
            have e417 : Ext w4 w17 := e5.trans (N15.grow (e515.trans e615)).ext
            refine (alive_spec w17 (T.ext (M4.grow e417).ext)).mono ?_
            rintro _ w18 ⟨rfl, e18⟩
            exact ⟨rfl, (M4.grow e417).ext.trans e18⟩
      · intro gx w2 hx
        refine ⟨hx.ext, ?_⟩
        intro ga wa ha
        refine ⟨ha.ext, ?_⟩
        have e2 := hx.ext.trans ha.ext
        have ho2 : wa.ownsRow w13.heap.size 29 9 (.slice (some ⟨ga, 0, none⟩) 0 0) 0 [] := owns_block (cs := []) ha.here (by rw [ha.new]; exact hx.ext.size) rfl (Nat.zero_le _)
        have hrl := (hf13.reads).ext e2
        refine ⟨rfl, rfl, rfl, w13.heap.size, 0, [], fcells (limL k nm 300), ho2, e2.size, Nat.le_of_ble_eq_true rfl, rfl, fcells_length _, hrl, someF hrl, oneF _, by rw [hll]; decide, by rw [hll]; simp only [maxLen]; decide, ?_⟩
        intro v3 wx hoX hg3 _
        have eX : Ext w13 wx := app_ext e2 ho2 hg3
        refine ⟨Keep.below eX, ?_⟩
        have rX : Rd wx gx 0 (limF k nm 301 1).cells := rd_grown ((Rd.of_block hx.here).ext ha.ext) hg3 (fun e => by
          have e : some ga = some gx := e
          injection e with e
          have h1 := hx.new
          have h2 := ha.new
          have h3 := hx.size
          omega)
        rw [Nat.zero_add, List.nil_append] at hoX
        refine ⟨rfl, rfl, rfl, w13.heap.size, _, _, (limF k nm 301 1).cells, hoX, eX.size, Nat.le_of_ble_eq_true rfl, rfl, rfl, .inr ⟨gx, 0, rfl, rX⟩, rfl, rfl, by rw [hll]; decide, by rw [hll]; simp only [maxLen]; decide, ?_⟩
        intro v5 w513 ho513 hg513 _
        have e513 : Ext w13 w513 := app_ext eX hoX hg513
        have hn513 : NewF w13.heap.size w513 v5 (limL k nm 300 ++ [limF k nm 301 1]) := newF_snoc1 ho513
        obtain ⟨A513, c513, rfl, hf513⟩ := hn513.hf (nums_append hnum fun y hy => by rw [List.mem_singleton.1 hy]; exact lim_nums hk hn ⟨by decide, by decide⟩ ⟨by decide, by decide⟩)
        have hc13 := Check_spec hf513 (by rw [List.length_append, hll, List.length_singleton]; decide)
        rw [lim_more hform] at hc13
        refine hc13.weak.mono ?_
        rintro _ w15 ⟨rfl, e613⟩
        have e1315 := e513.trans e613
        have N15 := N13.grow e1315
        have hf15 := hf13.ext e1315
        have hfr : Reads w15 (if c8 = 0 then A8 else A8.map (·.add (0 * 9))) (fcells (limL k nm 250)) := by
          have := Reads.front (c := c8) (i := 250) hf15.reads
          rw [limL_take k nm (show 250 ≤ 300 by decide)] at this
          exact this
        have hc8 : 250 ≤ c8 := by have := hf15.len; rw [hll] at this; omega
        refine ⟨fun q => q < w15.heap.size, ?_⟩
        refine ⟨0, 250, rfl, rfl, Nat.zero_le _, hc8, ?_⟩
        refine ⟨(limF k nm 1000 201).val, fun u hu => ⟨(limF k nm 1000 201).cells, rfl, hu.rd (N15.lt (g := g12) (o := .cells (limF k nm 1000 201).cells.toArray 29 (0, 0)) (by simp)) (N15.rd 1 rfl), rfl⟩, ?_⟩
        refine ⟨?_, ?_⟩
        · intro ga wa ha
          refine ⟨ha.ext, ?_⟩
          have ho0 : wa.ownsRow w15.heap.size 29 9 (.slice (some ⟨ga, 0, none⟩) 0 0) 0 [] := owns_block (cs := []) ha.here (by rw [ha.new]; exact Nat.le_refl _) rfl (Nat.zero_le _)
          refine ⟨?_, ?_⟩
          · have hrl := (hfr).ext ha.ext
            refine ⟨rfl, rfl, rfl, w15.heap.size, 0, [], fcells (limL k nm 250), ho0, ha.ext.size, Nat.le_of_ble_eq_true rfl, rfl, by rw [fcells_length, hl250], hrl, by have := someF hrl; rw [hl250] at this; exact this, oneF _, by decide, by simp only [maxLen]; decide, ?_⟩
            intro v3 w3 ho3 hg3 _
            have e3 : Ext w15 w3 := app_ext ha.ext ho0 hg3
            refine ⟨Keep.below e3, ?_⟩
            intro gx wx hx
            refine ⟨hx.ext, ?_⟩
            have eX := e3.trans hx.ext
            have hoX : wx.ownsRow w15.heap.size 29 9 v3 _ _ := ownsRow_ext ho3 hx.ext
            have rX : Rd wx gx 0 (limF k nm 1000 201).cells := Rd.of_block hx.here
            rw [Nat.zero_add, List.nil_append] at hoX
            refine ⟨rfl, rfl, rfl, w15.heap.size, _, _, (limF k nm 1000 201).cells, hoX, eX.size, Nat.le_of_ble_eq_true rfl, rfl, rfl, .inr ⟨gx, 0, rfl, rX⟩, rfl, rfl, by decide, by simp only [maxLen]; decide, ?_⟩
            intro v5 w515 ho515 hg515 _
            have e515 : Ext w15 w515 := app_ext eX hoX hg515
            have hn515 : NewF w15.heap.size w515 v5 (limL k nm 250 ++ [limF k nm 1000 201]) := newF_snoc1 (by rw [hl250]; exact ho515)
            obtain ⟨A515, c515, rfl, hf515⟩ := hn515.hf (nums_append hnum2 fun y hy => by rw [List.mem_singleton.1 hy]; exact lim_nums hk hn ⟨by decide, by decide⟩ ⟨by decide, by decide⟩)
            have hc15 := Check_spec hf515 (by rw [List.length_append, hl250, List.length_singleton]; decide)
            rw [lim_other hform] at hc15
            refine hc15.weak.mono ?_
            rintro _ w17 ⟨rfl, e615⟩
            have e417 : Ext w4 w17 := e5.trans (N15.grow (e515.trans e615)).ext
            refine (alive_spec w17 (T.ext (M4.grow e417).ext)).mono ?_
            rintro _ w18 ⟨rfl, e18⟩
            exact ⟨rfl, (M4.grow e417).ext.trans e18⟩
          · intro gx w2 hx
            refine ⟨hx.ext, ?_⟩
            have e2 := ha.ext.trans hx.ext
            have ho2 := ownsRow_ext ho0 hx.ext
            have hrl := (hfr).ext e2
            refine ⟨rfl, rfl, rfl, w15.heap.size, 0, [], fcells (limL k nm 250), ho2, e2.size, Nat.le_of_ble_eq_true rfl, rfl, by rw [fcells_length, hl250], hrl, by have := someF hrl; rw [hl250] at this; exact this, oneF _, by decide, by simp only [maxLen]; decide, ?_⟩
            intro v3 wx hoX hg3 _
            have eX : Ext w15 wx := app_ext e2 ho2 hg3
            refine ⟨Keep.below eX, ?_⟩
            have rX : Rd wx gx 0 (limF k nm 1000 201).cells := rd_grown (Rd.of_block hx.here) hg3 (fun e => by
              have e : some ga = some gx := e
              injection e with e
              have h1 := hx.new
              have h2 := ha.new
              have h3 := ha.size
              omega)
            rw [Nat.zero_add, List.nil_append] at hoX
            refine ⟨rfl, rfl, rfl, w15.heap.size, _, _, (limF k nm 1000 201).cells, hoX, eX.size, Nat.le_of_ble_eq_true rfl, rfl, rfl, .inr ⟨gx, 0, rfl, rX⟩, rfl, rfl, by decide, by simp only [maxLen]; decide, ?_⟩
            intro v5 w515 ho515 hg515 _
            have e515 : Ext w15 w515 := app_ext eX hoX hg515
            have hn515 : NewF w15.heap.size w515 v5 (limL k nm 250 ++ [limF k nm 1000 201]) := newF_snoc1 (by rw [hl250]; exact ho515)
            obtain ⟨A515, c515, rfl, hf515⟩ := hn515.hf (nums_append hnum2 fun y hy => by rw [List.mem_singleton.1 hy]; exact lim_nums hk hn ⟨by decide, by decide⟩ ⟨by decide, by decide⟩)
            have hc15 := Check_spec hf515 (by rw [List.length_append, hl250, List.length_singleton]; decide)
            rw [lim_other hform] at hc15
            refine hc15.weak.mono ?_
            rintro _ w17 ⟨rfl, e615⟩
            have e417 : Ext w4 w17 := e5.trans (N15.grow (e515.trans e615)).ext
            refine (alive_spec w17 (T.ext (M4.grow e417).ext)).mono ?_
            rintro _ w18 ⟨rfl, e18⟩
            exact ⟨rfl, (M4.grow e417).ext.trans e18⟩
        · intro gx w2 hx
          refine ⟨hx.ext, ?_⟩
          intro ga wa ha
          refine ⟨ha.ext, ?_⟩
          have e2 := hx.ext.trans ha.ext
          have ho2 : wa.ownsRow w15.heap.size 29 9 (.slice (some ⟨ga, 0, none⟩) 0 0) 0 [] := owns_block (cs := []) ha.here (by rw [ha.new]; exact hx.ext.size) rfl (Nat.zero_le _)
          have hrl := (hfr).ext e2
          refine ⟨rfl, rfl, rfl, w15.heap.size, 0, [], fcells (limL k nm 250), ho2, e2.size, Nat.le_of_ble_eq_true rfl, rfl, by rw [fcells_length, hl250], hrl, by have := someF hrl; rw [hl250] at this; exact this, oneF _, by decide, by simp only [maxLen]; decide, ?_⟩
          intro v3 wx hoX hg3 _
          have eX : Ext w15 wx := app_ext e2 ho2 hg3
          refine ⟨Keep.below eX, ?_⟩
          have rX : Rd wx gx 0 (limF k nm 1000 201).cells := rd_grown ((Rd.of_block hx.here).ext ha.ext) hg3 (fun e => by
            have e : some ga = some gx := e
            injection e with e
            have h1 := hx.new
            have h2 := ha.new
            have h3 := hx.size
            omega)
          rw [Nat.zero_add, List.nil_append] at hoX
          refine ⟨rfl, rfl, rfl, w15.heap.size, _, _, (limF k nm 1000 201).cells, hoX, eX.size, Nat.le_of_ble_eq_true rfl, rfl, rfl, .inr ⟨gx, 0, rfl, rX⟩, rfl, rfl, by decide, by simp only [maxLen]; decide, ?_⟩
          intro v5 w515 ho515 hg515 _
          have e515 : Ext w15 w515 := app_ext eX hoX hg515
          have hn515 : NewF w15.heap.size w515 v5 (limL k nm 250 ++ [limF k nm 1000 201]) := newF_snoc1 (by rw [hl250]; exact ho515)
          obtain ⟨A515, c515, rfl, hf515⟩ := hn515.hf (nums_append hnum2 fun y hy => by rw [List.mem_singleton.1 hy]; exact lim_nums hk hn ⟨by decide, by decide⟩ ⟨by decide, by decide⟩)
          have hc15 := Check_spec hf515 (by rw [List.length_append, hl250, List.length_singleton]; decide)
          rw [lim_other hform] at hc15
          refine hc15.weak.mono ?_
          rintro _ w17 ⟨rfl, e615⟩
          have e417 : Ext w4 w17 := e5.trans (N15.grow (e515.trans e615)).ext
          refine (alive_spec w17 (T.ext (M4.grow e417).ext)).mono ?_
          rintro _ w18 ⟨rfl, e18⟩
          exact ⟨rfl, (M4.grow e417).ext.trans e18⟩

end Go.Proofs.YthpdkdmbfdmamaaGreatDoor

namespace Go.Proofs.YthpdkdmbfdmamaaGreatDoor
open Go.Eng Go.RowKit Go.ChangeShapes Go.WideShapes Go.ChangeAt
open Go.ChangeMaps (open_string shut_string)

set_option maxRecDepth 100000 in
theorem factsLimit_lifted (os : Os) (started : os.Started) (H : Type) (enc : TypeId × Value → H) :
    ReturnsInHanded {} Tryz.checked os 4 .any (fun w args => (Rows.factsLimitSpec.pre enc Tryz.prog Tryz.f4 Rows.factsLimitRow.domain false w args ∧ laidMet Tryz.prog laidL w) ∧ sizedMet enc Tryz.prog Tryz.f4 (OpenSpec.ofChange Rows.factsLimitSpec) false w args)
      (Rows.factsLimitSpec.post enc Tryz.prog Tryz.f4 false true false false) := by
  refine returnsInHanded_of_change_and (C := Tryz.checked) (X := fun w _ => laidMet Tryz.prog laidL w) (fun _ _ _ hh h => h.of_heap hh) own started (by kernel_rfl) Tryz.func4
    (ChangeSpec.witness_at (enc := enc) (C := Tryz.checked) (os := os) (X := fun w _ => laidMet Tryz.prog laidL w) false (laidWorld os) #[.int .i64 0, .string ⟨#[]⟩] 8 rfl (by kernel_rfl) (by kernel_rfl) (by kernel_rfl) (by kernel_rfl) (by kernel_rfl) (laidWorld_met os _)) ?_
  intro W base args ds gs before hval0 hW _ hsz0 hL _
  have T := tabs_of_laid hL
  have hval : ∀ (j : Nat) t v, Tryz.f4.params[j]? = some t → args[j]? = some v → Value.okWide Tryz.prog W .any base t v := hval0
  have hW' := hW
  obtain ⟨p, q, hA0, hV, rfl, hfz, hnd⟩ := hW
  have hA : DataW.TrodAll enc Tryz.prog W 0 (fun _ => true) true [3, 9] args.toList ds p := hA0
  obtain ⟨v0, v1, d0, d1, p0, p1, rfl, rfl, rfl, h0, h1⟩ := trodAll_two hA
  obtain ⟨rfl, rfl⟩ := trodVars_none hV
  obtain ⟨i0, rfl, _, _, wf0⟩ := open_int under3 (hval 0 3 v0 rfl rfl) h0
  obtain ⟨s1, rfl, es1, _, hs1⟩ := open_string Tryz.underlying9 (hval 1 9 v1 rfl rfl) h1
  refine (FactsLimit_spec (wf_in64 wf0) (by have := hs1; simp only [maxLen] at this; omega) W T W (Same.refl W)).mono ?_
  rintro e W' ⟨⟨v, w'', rfl, ⟨rfl, he⟩, hs⟩, _⟩
  have he' : Ext W W' := he.same_right hs
  refine ⟨_, rfl, ?_⟩
  refine ⟨[d0, d1], [], (p0 ++ p1) ++ [], [], p0 ++ (p1), [], hW', ?_, ?_, rfl, Below.frame he' _, fun h => by cases h⟩
  · exact trodAll_mk1 (shut_bool under4 true)
  · exact trodAll_mk2 (Below.trod laidOut rec3 row3 h0 he' fun x hx => hW'.lt x (by simp [hx])) (Below.trod laidOut rec9 row9 h1 he' fun x hx => hW'.lt x (by simp [hx]))

set_option maxHeartbeats 4000000 in
theorem factsLimit_closed : joinedFacts Tryz.pinned.checked.prog 4 Tryz.f4 Rows.factsLimitSpec Rows.factsLimitRow = true := by
  unfold joinedFacts
  iterate 31 refine Bool.and_eq_true_iff.2 ⟨?_, ?_⟩
  · as_aux_lemma => kernel_rfl
  · exact kLaid
  · exact kMaps
  · as_aux_lemma => kernel_rfl
  · as_aux_lemma => kernel_rfl
  · as_aux_lemma => kernel_rfl
  · exact kStops
  · as_aux_lemma => kernel_rfl
  · exact kKnobs
  · as_aux_lemma => kernel_rfl
  · as_aux_lemma => kernel_rfl
  · as_aux_lemma => kernel_rfl
  · as_aux_lemma => kernel_rfl
  · as_aux_lemma => kernel_rfl
  · as_aux_lemma => kernel_rfl
  · as_aux_lemma => kernel_rfl
  · as_aux_lemma => kernel_rfl
  · as_aux_lemma => kernel_rfl
  · as_aux_lemma => kernel_rfl
  · as_aux_lemma => kernel_rfl
  · as_aux_lemma => kernel_rfl
  · as_aux_lemma => kernel_rfl
  · exact beq_iff_eq.2 kPlain.symm
  · as_aux_lemma => kernel_rfl
  · exact kHeard
  · exact kEnter
  · exact beq_iff_eq.2 kLifts.symm
  · as_aux_lemma => kernel_rfl
  · as_aux_lemma => kernel_rfl
  · as_aux_lemma => kernel_rfl
  · as_aux_lemma => kernel_rfl
  · as_aux_lemma => kernel_rfl

theorem factsLimit_named : Tryz.pinned.checked.prog.funcNamed Rows.factsLimitRow.func = some 4 := by kernel_rfl
theorem factsLimit_func : Tryz.pinned.checked.prog.funcs[4]? = some Tryz.f4 := Tryz.func4
theorem factsLimit_inst : Tryz.f4.isInstance Tryz.pinned.checked.prog Rows.factsLimitRow.origin Rows.factsLimitRow.targs := of_decide_eq_true (by kernel_rfl)
theorem factsLimit_wrap : Tryz.f4.isWrapper Tryz.pinned.checked.prog Rows.factsLimitRow.wrapper Rows.factsLimitRow.mainSum := by
  unfold Func.isWrapper; first | (rw [if_pos (by decide +kernel)]; kernel_rfl) | (rw [if_neg (by decide +kernel)]; exact ⟨rfl, rfl⟩)
theorem factsLimit_text : Rows.factsLimitRow.wfByText (OpenSpec.ofChange Rows.factsLimitSpec) = true := by kernel_rfl
theorem factsLimit_main : Tryz.pinned.checked.prog.mainIs = some (Rows.factsLimitCard.stood.harness.1, Rows.factsLimitCard.stood.harness.2.toList) := by kernel_rfl
theorem factsLimit_looks : true = Tryz.pinned.checked.prog.looks [] := by kernel_rfl
theorem factsLimit_goes : false = Rows.factsLimitRow.goesBy Tryz.pinned.checked.prog := by kernel_rfl
theorem factsLimit_stand : (Tryz.f4.params.toList.all fun t => !Tryz.pinned.checked.prog.wantsStandIn t) = true := by kernel_rfl

theorem factsLimit_holds : Rows.FactsLimitSaid :=
  OpenClaim.holds_of_wide 4 Tryz.f4 rfl rfl rfl rfl rfl rfl rfl ⟨rfl, rfl, rfl, rfl, rfl⟩ rfl rfl rfl rfl rfl factsLimit_named factsLimit_func factsLimit_closed factsLimit_inst factsLimit_wrap
    (fun os started H enc _ => factsLimit_lifted os started H enc)

theorem factsLimit : Rows.FactsLimitCardSaid :=
  Claim7.holds_tied_plain_at .later [] [.data, .data, .data, .sentinel, .sentinel] true Rows.factsLimitCard.stood.harness true
    factsLimit_holds (fun _ h => by cases h) factsLimit_text (fun _ h => by cases h) factsLimit_row_tie rfl ⟨rfl, rfl⟩ factsLimit_main rfl
    (fun f fn hf hfn => by
      obtain rfl : f = 4 := Option.some.inj (factsLimit_named.symm.trans hf) |>.symm
      obtain rfl : fn = Tryz.f4 := (Option.some.inj (factsLimit_func.symm.trans hfn)).symm
      refine ⟨factsLimit_looks, fun j t ht => ?_⟩
      have hm : t ∈ Tryz.f4.params.toList := by
        have := Array.mem_of_getElem? ht
        simpa using this
      exact Bool.not_eq_true' _ |>.mp (List.all_eq_true.1 factsLimit_stand t hm))
    factsLimit_goes

#print axioms factsLimit
end Go.Proofs.YthpdkdmbfdmamaaGreatDoor
