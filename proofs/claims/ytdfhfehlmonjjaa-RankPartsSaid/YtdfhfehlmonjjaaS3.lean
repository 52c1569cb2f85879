/- rank.Restrict: the walk. -/
import Derived.Test.YtdfhfehlmonjjaaS2
namespace Go.Proofs.Ytdfhfehlmonjjaa
open Go.Eng Go.RowKit

theorem Restrict_spec {N : Int} {A B : Option Addr} {xs : List Arrow} {c d : Nat} {keep : List Int} {w : World} (h : HRel w N A xs c) (hx : xs.length ≤ 2 ^ 40) (hr : Reads w B (ints keep)) (hkl : keep.length ≤ 60) :
    CallsV C.P 50 #[relVal N A xs.length c, .slice B keep.length d] w fun v w' => (∃ u, v = .tuple #[u, .int .i64 (restrictE N xs keep)] ∧ NewRel w.heap.size w' u (if restrictE N xs keep = 0 then keep.length else 0) (if restrictE N xs keep = 0 then restrictL N xs keep else [])) ∧ Ext w w' := by
  refine callsV_of C_ok (args := [_, _]) (plans := []) Try.func50 rfl Try.ntmps50 (by kernel_rfl) (Nat.le_of_ble_eq_true rfl) ?_
  intro g2 w1 h1
  intro g4 w2 h2
  have M2 : Mem w w2 [(g4, .cells #[.int .i64 0, .slice none 0 0] 24 (0, 0)), (g2, .cells #[.int .i64 N, .slice A xs.length c] 24 (0, 0))] := ((Mem.start w).alloc h1).alloc h2
  refine ⟨[.int .i64 N, .slice A xs.length c], rfl, M2.rd 1 rfl, ?_⟩
  refine (Check_spec (h.ext M2.ext)).mono ?_
  rintro v w3 ⟨rfl, e3⟩
  have M3 := M2.grow e3
  have wrong : ∀ {e : Int} {u : Value} {w' : World}, e = restrictE N xs keep → e ≠ 0 → u = .agg #[.int .i64 0, .slice none 0 0] → Ext w w' →
      (∃ u', Value.tuple #[u, .int .i64 e] = .tuple #[u', .int .i64 (restrictE N xs keep)] ∧ NewRel w.heap.size w' u' (if restrictE N xs keep = 0 then keep.length else 0) (if restrictE N xs keep = 0 then restrictL N xs keep else [])) ∧ Ext w w' := by
    intro e u w' he hne hu hE
    subst hu
    refine ⟨⟨_, by rw [he], ?_⟩, hE⟩
    rw [← he, if_neg hne, if_neg hne]
    exact newRel_zero _ _
  refine brE_mk (fun hb => ?_) (fun hb => ?_)
  · have hv : chk N xs ≠ 0 := by simpa using hb
    refine ⟨rfl, _, _, M3.get 0 rfl, Nat.le_of_ble_eq_true rfl, rfl, ?_⟩
    intro w4 h4
    have M4 := M3.put 0 rfl h4
    refine ⟨[.int .i64 0, .slice none 0 0], rfl, M4.rd 0 rfl, ?_⟩
    exact wrong (by rw [restrictE, if_neg hv]) hv rfl M4.ext
  have hv : chk N xs = 0 := by simpa using hb
  have hok := valid_of_chk hv
  have hlo := hok.lo
  have hhi := hok.hi
  have hE : restrictE N xs keep = keepErr N [] keep := by rw [restrictE, if_pos hv]
  intro gm w4 h4
  have M4 := M3.alloc h4
  refine loopE C_ok (fun (i : Nat) => [(1, .slice B keep.length d), (2, .pointer (some ⟨g2, 0, none⟩)), (4, .pointer (some ⟨g4, 0, none⟩)), (7, .map (some gm)), (26, .slice B keep.length d), (27, .int .i64 keep.length), (28, .int .i64 i)])
    (fun i w' => i ≤ keep.length ∧ (∃ om, Mem w w' [(gm, om), (g4, .cells #[.int .i64 0, .slice none 0 0] 24 (0, 0)), (g2, .cells #[.int .i64 N, .slice A xs.length c] 24 (0, 0))]) ∧ PlaceIs w' gm (keep.take i) ∧ keepErr N [] keep = keepErr N (keep.take i) (keep.drop i)) (fun i => keep.length - i) 0
    ⟨rfl, rfl, rfl, rfl, rfl, rfl, rfl, trivial⟩ ⟨Nat.zero_le _, ⟨_, M4⟩, ⟨_, MapIs.empty h4.here, fun q => rfl⟩, rfl⟩ ?_
  rintro i w5 ⟨hi, ⟨om, M5⟩, hmap, hloop⟩
  refine brE_dec (fun hlt => ?_) (fun hge => ?_)
  · have hlt : i < keep.length := by have : (i : Int) < (keep.length : Nat) := hlt; omega
    rw [keepErr_at hlt] at hloop
    obtain ⟨b1, o1, hB1, hc1⟩ := Reads.int (hr.ext M5.ext) hlt
    refine ⟨i, b1, o1, rfl, hlt, hB1, ?_⟩
    refine ⟨_, by simpa using hc1, ?_⟩
    refine ⟨_, M5.cell 2 rfl rfl, ?_⟩
    refine ⟨N - 1, fit ⟨by omega, by omega⟩, ?_⟩
    refine (in_spec keep[i] 0 (N - 1) w5).mono ?_
    rintro v w6 ⟨rfl, rfl⟩
    refine brE_mk (fun hb => ?_) (fun hb => ?_)
    · rw [Bool.not_eq_true'] at hb
      rw [if_neg (by show ¬ inR N keep[i] = true; rw [show inR N keep[i] = false from hb]; decide)] at hloop
      refine ⟨rfl, _, _, M5.get 1 rfl, Nat.le_of_ble_eq_true rfl, rfl, ?_⟩
      intro w6 h6
      have M6 := M5.put 1 rfl h6
      refine ⟨[.int .i64 0, .slice none 0 0], rfl, M6.rd 1 rfl, ?_⟩
      exact wrong (by rw [hE, hloop]) (by decide) rfl M6.ext
    rw [Bool.not_eq_false'] at hb
    rw [if_pos (show inR N keep[i] = true from hb)] at hloop
    have hin := of_decide_eq_true hb
    have h64 : In64 keep[i] := ⟨by omega, by omega⟩
    obtain ⟨f, hf, hfv⟩ := hmap
    refine ⟨.tuple #[(((posOf (keep.take i) keep[i]).map fun (k : Nat) => Value.int .i64 (k : Int)).getD (.int .i64 0)), .bool (posOf (keep.take i) keep[i]).isSome], mapGet2 C_ok (te := ty3) (x := .int .i64 keep[i]) (intKey h64) hf intK rfl rfl rfl rfl rfl rfl (by rw [hfv]; rfl) (by rw [hfv, Option.isSome_map]), ?_⟩
    refine brE_mk (fun hm => ?_) (fun hm => ?_)
    · have hm : keep[i] ∈ keep.take i := by rw [posOf_isSome] at hm; exact of_decide_eq_true hm
      rw [if_pos hm] at hloop
      refine ⟨rfl, _, _, M5.get 1 rfl, Nat.le_of_ble_eq_true rfl, rfl, ?_⟩
      intro w6 h6
      have M6 := M5.put 1 rfl h6
      refine ⟨[.int .i64 0, .slice none 0 0], rfl, M6.rd 1 rfl, ?_⟩
      exact wrong (by rw [hE, hloop]) (by decide) rfl M6.ext
    have hm : keep[i] ∉ keep.take i := by rw [posOf_isSome] at hm; exact of_decide_eq_false hm
    rw [if_neg hm] at hloop
    refine mapPut C_ok rfl rfl (x := .int .i64 keep[i]) rfl rfl rfl rfl intK (intKey h64) hf ?_
    intro o' w6 h6 hmap6
    have M6 := M5.put 0 rfl h6
    refine ⟨((i + 1 : Nat) : Int), fit ⟨by omega, by omega⟩, ?_⟩
    refine ⟨i + 1, ⟨rfl, rfl, rfl, rfl, rfl, rfl, rfl, trivial⟩, ⟨hlt, ⟨_, M6⟩, ?_, hloop⟩, by omega⟩
    rw [List.take_succ_eq_append_getElem hlt]
    have hl : (keep.take i).length = i := by rw [List.length_take]; omega
    exact PlaceIs.snoc hfv hm (by rw [hl]; exact hmap6)
  have : i = keep.length := by have : ¬ (i : Int) < (keep.length : Nat) := hge; omega
  subst this
  rw [List.drop_length] at hloop
  rw [List.take_length] at hmap
  have hE0 : restrictE N xs keep = 0 := by rw [hE, hloop]; rfl
  have hk0 : keepErr N [] keep = 0 := by rw [hloop]; rfl
  obtain ⟨hkin, hkn, _⟩ := keepErr_zero hk0
  rw [hE0, if_pos rfl, if_pos rfl]
  intro g12 w6 h6
  have M6 := M5.alloc h6
  refine ⟨rfl, _, _, M6.get 0 rfl, Nat.le_of_ble_eq_true rfl, rfl, ?_⟩
  intro w7 h7
  have M7 : Mem w w7 [(g12, .cells #[.int .i64 keep.length, .slice none 0 0] 24 (0, 0)), (gm, om), (g4, .cells #[.int .i64 0, .slice none 0 0] 24 (0, 0)), (g2, .cells #[.int .i64 N, .slice A xs.length c] 24 (0, 0))] := M6.put 0 rfl h7
  have hgm5 := M5.lt (g := gm) (o := om) (by simp)
  obtain ⟨f, hf5, hfv⟩ := hmap
  have hf7 : MapIs C.P 3 w7 gm f := (hf5.ext h6.ext).put h7 (by rw [h6.new]; omega)
  refine ⟨_, M7.cell 3 rfl rfl, ?_⟩
  refine loopE C_ok (fun (s : Nat × Value) => [(4, .pointer (some ⟨g4, 0, none⟩)), (7, .map (some gm)), (12, .pointer (some ⟨g12, 0, none⟩)), (56, .slice A xs.length c), (57, .int .i64 xs.length), (58, .int .i64 s.1)])
    (fun s w' => s.1 ≤ xs.length ∧ Mem w w' [(g12, .cells #[.int .i64 keep.length, s.2] 24 (0, 0)), (gm, om), (g4, .cells #[.int .i64 0, .slice none 0 0] 24 (0, 0))] ∧ MapIs C.P 3 w' gm f ∧
      w'.ownsRow w.heap.size 43 4 s.2 (mapsR keep (xs.take s.1)).length (arrows (mapsR keep (xs.take s.1))))
    (fun s => xs.length - s.1) (0, .slice none 0 0) ⟨rfl, rfl, rfl, rfl, rfl, rfl, trivial⟩
    ⟨Nat.zero_le _, M7.sub (List.Sublist.cons_cons _ (List.Sublist.cons_cons _ (List.Sublist.cons_cons _ (List.nil_sublist _)))), hf7, World.ownsRow_nil _ _ _ _⟩ ?_
  rintro ⟨i, v⟩ w8 ⟨hi8, M8, hf8, ho8⟩
  have hi8 : i ≤ xs.length := hi8
  have M8 : Mem w w8 [(g12, .cells #[.int .i64 keep.length, v] 24 (0, 0)), (gm, om), (g4, .cells #[.int .i64 0, .slice none 0 0] 24 (0, 0))] := M8
  have ho8 : w8.ownsRow w.heap.size 43 4 v (mapsR keep (xs.take i)).length (arrows (mapsR keep (xs.take i))) := ho8
  refine brE_dec (fun hlt => ?_) (fun hge => ?_)
  · have hlt : i < xs.length := by have : (i : Int) < xs.length := hlt; omega
    obtain ⟨b, o, hA, hrd⟩ := Reads.arrow h.reads hlt
    refine ⟨i, b, o, rfl, hlt, hA, ?_⟩
    refine ⟨xs[i].cells, rfl, M8.oldRd hrd, ?_⟩
    intro g14 w9 h9
    have M9 := M8.alloc h9
    refine ⟨rfl, _, _, M9.get 0 rfl, Nat.le_of_ble_eq_true rfl, rfl, ?_⟩
    intro w10 h10
    have M10 : Mem w w10 [(g14, .cells xs[i].cells.toArray 43 (0, 0)), (g12, .cells #[.int .i64 keep.length, v] 24 (0, 0)), (gm, om), (g4, .cells #[.int .i64 0, .slice none 0 0] 24 (0, 0))] := M9.put 0 rfl h10
    have hgm8 := M8.lt (g := gm) (o := om) (by simp)
    have hf10 : MapIs C.P 3 w10 gm f := (hf8.ext h9.ext).put h10 (by rw [h9.new]; omega)
    have hne14 : v.ownBlock ≠ some g14 := by
      intro e
      have := (ho8.lt g14 e).2
      rw [h9.new] at this
      exact Nat.lt_irrefl _ this
    have ho10 : w10.ownsRow w.heap.size 43 4 v (mapsR keep (xs.take i)).length (arrows (mapsR keep (xs.take i))) := ownsRow_put (ownsRow_ext ho8 h9.ext) h10 hne14
    have hnum := h.nums xs[i] (List.getElem_mem _)
    have htake := mapsR_take (keep := keep) hlt
    have next : IntKind.i64.wrap ((i : Int) + 1) = ((i + 1 : Nat) : Int) := fit ⟨by omega, by omega⟩
    have hwl := mapsR_length keep (xs.take i)
    have htl : (xs.take i).length ≤ i := by simp; omega
    have miss : mapA keep xs[i] = none → i + 1 ≤ xs.length ∧ Mem w w10 [(g12, .cells #[.int .i64 keep.length, v] 24 (0, 0)), (gm, om), (g4, .cells #[.int .i64 0, .slice none 0 0] 24 (0, 0))] ∧ MapIs C.P 3 w10 gm f ∧ w10.ownsRow w.heap.size 43 4 v (mapsR keep (xs.take (i + 1))).length (arrows (mapsR keep (xs.take (i + 1)))) := by
      intro hn
      rw [hn, Option.toList_none, List.append_nil] at htake
      exact ⟨hlt, M10.tail, hf10, by rw [htake]; exact ho10⟩
    refine ⟨_, M10.cell 0 rfl rfl, ?_⟩
    refine ⟨.tuple #[(((posOf keep xs[i].fr).map fun (k : Nat) => Value.int .i64 (k : Int)).getD (.int .i64 0)), .bool (posOf keep xs[i].fr).isSome], mapGet2 C_ok (te := ty3) (x := .int .i64 xs[i].fr) (intKey hnum.1) hf10 intK rfl rfl rfl rfl rfl rfl (by rw [hfv]; rfl) (by rw [hfv, Option.isSome_map]), ?_⟩
    refine ⟨_, M10.cell 0 rfl rfl, ?_⟩
    refine ⟨.tuple #[(((posOf keep xs[i].to).map fun (k : Nat) => Value.int .i64 (k : Int)).getD (.int .i64 0)), .bool (posOf keep xs[i].to).isSome], mapGet2 C_ok (te := ty3) (x := .int .i64 xs[i].to) (intKey hnum.2.1) hf10 intK rfl rfl rfl rfl rfl rfl (by rw [hfv]; rfl) (by rw [hfv, Option.isSome_map]), ?_⟩
    refine brE_mk (fun ha => ?_) (fun ha => ?_)
    case' refine_2 =>
      have hn : mapA keep xs[i] = none := by
        cases hp : posOf keep xs[i].fr with
        | none => simp [mapA, hp]
        | some q => rw [hp] at ha; cases ha
      refine ⟨_, next, ?_⟩
      exact ⟨(i + 1, v), ⟨rfl, rfl, rfl, rfl, rfl, rfl, trivial⟩, miss hn, by show xs.length - (i + 1) < xs.length - i; omega⟩
    refine brE_mk (fun hb => ?_) (fun hb => ?_)
    case' refine_2 =>
      have hn : mapA keep xs[i] = none := by
        cases hp : posOf keep xs[i].to with
        | none => simp [mapA, hp]
        | some q => rw [hp] at hb; cases hb
      refine ⟨_, next, ?_⟩
      exact ⟨(i + 1, v), ⟨rfl, rfl, rfl, rfl, rfl, rfl, trivial⟩, miss hn, by show xs.length - (i + 1) < xs.length - i; omega⟩
    obtain ⟨p, hp⟩ := Option.isSome_iff_exists.1 ha
    obtain ⟨q, hq⟩ := Option.isSome_iff_exists.1 hb
    have hmA : mapA keep xs[i] = some ⟨(p : Int), (q : Int), xs[i].rule, xs[i].wt⟩ := by simp [mapA, hp, hq]
    rw [hp, hq]
    clear miss
    refine ⟨_, M10.cell 1 rfl rfl, ?_⟩
    refine ⟨_, M10.cell 0 rfl rfl, ?_⟩
    refine ⟨_, M10.cell 0 rfl rfl, ?_⟩
    intro g15 w11 h11
    have M11 := M10.alloc h11
    have ho11 := ownsRow_ext ho10 h11.ext
    refine ⟨rfl, rfl, rfl, w.heap.size, _, _, [.int .i64 p, .int .i64 q, .int .i64 xs[i].rule, .int .i64 xs[i].wt], ho11, M11.ext.size, Nat.le_of_ble_eq_true rfl, rfl, rfl, .inr ⟨g15, 0, rfl, Rd.of_block h11.here⟩, rfl, rfl, by omega, by simp only [maxLen]; omega, ?_⟩
    intro v12 w12 ho12 hg12 _
    have M12 : Mem w w12 [(g12, .cells #[.int .i64 keep.length, v] 24 (0, 0)), (gm, om), (g4, .cells #[.int .i64 0, .slice none 0 0] 24 (0, 0))] := by
      refine M11.tail.tail.grown hg12 (fun k hk => (ho11.lt k hk).1) ?_
      intro p hp
      simp only [List.tail_cons, List.mem_cons, List.not_mem_nil, or_false] at hp
      rcases hp with rfl | rfl | rfl
      · exact own_ne ho11 (M11.get 2 rfl) (fun c fr e => by cases e)
      · obtain ⟨es, clk, hb, _⟩ := hf10.ext h11.ext
        exact own_ne ho11 hb (fun c fr e => by cases e)
      · exact own_ne ho11 (M11.get 4 rfl) (fun c fr e => by cases e)
    have hf12 : MapIs C.P 3 w12 gm f := by
      obtain ⟨es, clk, hb, _⟩ := hf10.ext h11.ext
      exact (hf10.ext h11.ext).same (hg12.block gm (lt_of_heap hb) (own_ne ho11 hb (fun c fr e => by cases e)))
    obtain ⟨A12, c12, rfl, _, _⟩ := reads_of_owns ho12
    refine ⟨rfl, _, _, M12.get 0 rfl, Nat.le_of_ble_eq_true rfl, rfl, ?_⟩
    intro w13 h13
    have M13 := M12.put 0 rfl h13
    refine ⟨_, next, ?_⟩
    refine ⟨(i + 1, _), ⟨rfl, rfl, rfl, rfl, rfl, rfl, trivial⟩, ⟨hlt, M13, hf12.put h13 (by
      have h5 := M12.nodup
      simp at h5
      exact fun e => h5.1.1 e.symm), ?_⟩, by show xs.length - (i + 1) < xs.length - i; omega⟩
    show w13.ownsRow _ _ _ _ (mapsR keep (xs.take (i + 1))).length (arrows (mapsR keep (xs.take (i + 1))))
    rw [htake, hmA, List.length_append, arrows_append]
    exact ownsRow_put ho12 h13 (fun e => own_ne ho12 (M12.get 0 rfl) (fun c fr e => by cases e) e.symm)
  · have : i = xs.length := by have : ¬ (i : Int) < xs.length := hge; omega
    subst this
    rw [List.take_length] at ho8
    have hml := mapsR_length keep xs
    obtain ⟨A8, c8, rfl, _, _⟩ := reads_of_owns ho8
    refine ⟨_, M8.cell 0 rfl rfl, ?_⟩
    refine (SortArrows_spec ho8 (by omega)).mono ?_
    rintro v9 w9 ⟨rfl, l', hperm, hsort, ho9, hg9, on9⟩
    have hl' := sorted_restrict hok hkn hperm hsort
    subst hl'
    have hlen := hperm.length_eq
    have E9 := app_ext M8.ext ho8 hg9
    have M9 : Mem w w9 [(g12, .cells #[.int .i64 keep.length, .slice A8 (mapsR keep xs).length c8] 24 (0, 0)), (g4, .cells #[.int .i64 0, .slice none 0 0] 24 (0, 0))] :=
      (M8.sub (List.Sublist.cons_cons _ (List.Sublist.cons _ (List.Sublist.refl _)))).onlyT E9 on9 rfl
    refine ⟨[.int .i64 keep.length, .slice A8 (mapsR keep xs).length c8], rfl, M9.rd 0 rfl, ?_⟩
    refine ⟨rfl, _, _, M9.get 1 rfl, Nat.le_of_ble_eq_true rfl, rfl, ?_⟩
    intro w10 h10
    have M10 := M9.put 1 rfl h10
    refine ⟨[.int .i64 keep.length, .slice A8 (mapsR keep xs).length c8], rfl, M10.rd 1 rfl, ?_⟩
    refine ⟨⟨_, rfl, A8, c8, by rw [hlen]; rfl, ?_⟩, M10.ext⟩
    rw [hlen]
    rw [hlen] at ho9
    exact ownsRow_only ho9 (only_put h10 (M9.get 1 rfl)) (by decide)

end Go.Proofs.Ytdfhfehlmonjjaa
