/- The law's function: RankArrows. -/
import Derived.Test.YtdfhfehlmonjjaaR33
namespace Go.Proofs.Ytdfhfehlmonjjaa
open Go.Eng Go.RowKit

theorem neqSame4 (x y : Operand) (a : Bool) : EqIs C.P .neq 4 x y (.bool a) (.bool a) false := by
  have := neqBool x y a a
  simpa using this
theorem eqSame4 (x y : Operand) (a : Bool) : EqIs C.P .eql 4 x y (.bool a) (.bool a) true := by
  intro w
  rw [Sem.run_bind]
  have hu : C.P.underlying 4 = some .bool := under4
  have : (eqGuard .eql 4 x y (.bool a) (.bool a)).run C.P w = .ok () w := by simp [eqGuard]
  rw [this]
  simp only [Result.andThen_ok]
  have h2 := run_equalIn_bool' w 9999 4 a a hu
  simp only [binOp]
  simp [Op.equal, Op.maxDepth] at h2 ⊢
  rw [h2]
  simp
theorem neqSame43 (x y : Operand) (p : Arrow) : EqIs C.P .neq 43 x y p.val p.val false := by
  have := neq43 x y p p
  simpa using this

theorem ChainPost.read {w w' : World} {r : Option (List Int)} {v : Value} (h : ChainPost w r v w') : ∃ A c, v = .tuple #[.slice A (r.getD []).length c, .bool r.isSome] ∧ Reads w' A (ints (r.getD [])) ∧ (r.getD []).length ≤ 9223372036854775807 := by
  obtain ⟨h, _⟩ := h
  cases r with
  | none => exact ⟨none, 0, h, .inl rfl, by simp⟩
  | some l =>
    obtain ⟨s, rfl, hn⟩ := h
    have := ownsRow_len hn
    obtain ⟨A, c, rfl, hr, _⟩ := hn.slice
    exact ⟨A, c, rfl, hr, this⟩

theorem RankArrows_spec {N : Int} {A B : Option Addr} {xs : List Arrow} {c d : Nat} {w : World} (h : HRel w N A xs c) (i j : Int) {l : List Int} (hr : Reads w B (ints l)) :
    CallsV C.P 9 #[relVal N A xs.length c, .int .i64 i, .int .i64 j, .slice B l.length d] w fun v w' => v = .bool true ∧ Ext w w' := by
  refine callsV_of C_ok (args := [_, _, _, _]) (plans := plans9) Try.func9 rfl Try.ntmps9 (by kernel_rfl) (Nat.le_of_ble_eq_true rfl) ?_
  intro g1 w1 h1
  have M1 := (Mem.start w).alloc h1
  refine ⟨[.int .i64 N, .slice A xs.length c], rfl, M1.rd 0 rfl, ?_⟩
  refine (huge_spec w1).mono ?_
  rintro v w2 ⟨rfl, e2⟩
  have M2 := M1.grow e2
  have stop : ∀ {w' : World}, Ext w w' → CallsV C.P 16 #[] w' fun v w'' => v = .bool true ∧ Ext w w'' := fun e => (stands_spec _).mono fun v w'' hh => ⟨hh.1, e.trans hh.2⟩
  refine brE_dec (fun _ => ?_) (fun h600 => ?_)
  · exact stop M2.ext
  have hx6 : xs.length ≤ 600 := by have : ¬ (xs.length : Int) > 600 := h600; omega
  refine brE_dec (fun _ => ?_) (fun h60 => ?_)
  · exact stop M2.ext
  have hl : l.length ≤ 60 := by have : ¬ (l.length : Int) > 60 := h60; omega
  refine ⟨[.int .i64 N, .slice A xs.length c], rfl, M2.rd 0 rfl, ?_⟩
  refine (Arrow_spec (h.ext M2.ext) (by omega) i j).mono ?_
  rintro v w3 ⟨rfl, e3⟩
  have M3 := M2.grow e3
  generalize hq : (arrowS N xs i j) = r at *
  intro g4 w4 h4
  have M4 := M3.alloc h4
  refine ⟨rfl, _, _, M4.get 0 rfl, Nat.le_of_ble_eq_true rfl, rfl, ?_⟩
  intro w5 h5
  have M5 : Mem w w5 [(g4, .cells (r.getD arrowZ).cells.toArray 43 (0, 0)), (g1, .cells #[.int .i64 N, .slice A xs.length c] 24 (0, 0))] := M4.put 0 rfl h5
  refine ⟨[.int .i64 N, .slice A xs.length c], rfl, M5.rd 1 rfl, ?_⟩
  refine (refArrow_spec (h.ext M5.ext) i j).mono ?_
  rintro v w6 ⟨rfl, e6⟩
  have M6 := M5.grow e6
  rw [hq]
  intro g7 w7 h7
  have M7 := M6.alloc h7
  refine ⟨rfl, _, _, M7.get 0 rfl, Nat.le_of_ble_eq_true rfl, rfl, ?_⟩
  intro w8 h8
  have M8 : Mem w w8 [(g7, .cells (r.getD arrowZ).cells.toArray 43 (0, 0)), (g4, .cells (r.getD arrowZ).cells.toArray 43 (0, 0)), (g1, .cells #[.int .i64 N, .slice A xs.length c] 24 (0, 0))] := M7.put 0 rfl h8
  refine ⟨[.int .i64 N, .slice A xs.length c], rfl, M8.rd 2 rfl, ?_⟩
  refine (Chain_spec (h.ext M8.ext) i j).mono ?_
  intro v w9 hc9
  obtain ⟨A9, c9, rfl, hr9, hl9⟩ := hc9.read
  have M9 := M8.grow hc9.2
  refine ⟨[.int .i64 N, .slice A xs.length c], rfl, M9.rd 2 rfl, ?_⟩
  refine (refChain_spec (h.ext M9.ext) i j).mono ?_
  intro v w10 hc10
  obtain ⟨A10, c10, rfl, hr10, _⟩ := hc10.read
  have M10 := M9.grow hc10.2
  refine ⟨(r.getD arrowZ).cells, rfl, M10.rd 1 rfl, ?_⟩
  refine ⟨(r.getD arrowZ).cells, rfl, M10.rd 0 rfl, ?_⟩
  refine ⟨false, neqSame43 _ _ _, ?_⟩
  refine ⟨false, neqSame4 _ _ _, ?_⟩
  refine ⟨false, neqSame4 _ _ _, ?_⟩
  refine (SameInts_spec (hr9.ext hc10.2) hr10 hl9).mono ?_
  rintro v w11 ⟨hv, e11⟩
  rw [decide_eq_true rfl] at hv
  subst hv
  have M11 := M10.grow e11
  refine (stands_spec w11).mono ?_
  rintro v w12 ⟨rfl, e12⟩
  have M12 := M11.grow e12
  refine ⟨[.int .i64 N, .slice A xs.length c], rfl, M12.rd 2 rfl, ?_⟩
  refine ⟨[.int .i64 N, .slice A xs.length c], rfl, M12.rd 2 rfl, ?_⟩
  refine (Standing_spec (h.ext M12.ext) i j).mono ?_
  rintro v w13 ⟨rfl, e13⟩
  refine ⟨e13, ?_⟩
  have M13 := M12.grow e13
  refine (refStanding_spec (h.ext M13.ext) i j).mono ?_
  rintro v w14 ⟨rfl, e14⟩
  have M14 := M13.grow e14
  refine brE_true (decide_eq_true rfl) ?_
  refine ⟨[.int .i64 N, .slice A xs.length c], rfl, M14.rd 2 rfl, ?_⟩
  refine ⟨[.int .i64 N, .slice A xs.length c], rfl, M14.rd 2 rfl, ?_⟩
  refine (CheckChain_spec (l := l) (h.ext M14.ext) i j (hr.ext M14.ext) (by omega)).mono ?_
  rintro v w15 ⟨rfl, e15⟩
  refine ⟨e15, ?_⟩
  have M15 := M14.grow e15
  refine (refCheckChain_spec (l := l) (h.ext M15.ext) i j (hr.ext M15.ext) (by omega)).mono ?_
  rintro v w16 ⟨rfl, e16⟩
  have M16 := M15.grow e16
  refine ⟨true, eqSame4 _ _ _, ?_⟩
  refine ⟨[.int .i64 N, .slice A xs.length c], rfl, M16.rd 2 rfl, ?_⟩
  refine ⟨[.int .i64 N, .slice A xs.length c], rfl, M16.rd 2 rfl, ?_⟩
  refine (Before_spec (h.ext M16.ext) i).mono ?_
  rintro v w17 ⟨hn17, e17⟩
  obtain ⟨A17, c17, rfl, hr17, _⟩ := hn17.slice
  refine ⟨e17, ?_⟩
  have M17 := M16.grow e17
  refine (refBefore_spec (h.ext M17.ext) i).mono ?_
  rintro v w18 ⟨hn18, e18⟩
  have hl18 := ownsRow_len hn18
  obtain ⟨A18, c18, rfl, hr18, _⟩ := hn18.slice
  have M18 := M17.grow e18
  refine (SameInts_spec (hr17.ext e18) hr18 hl18).mono ?_
  rintro v w19 ⟨hv, e19⟩
  rw [decide_eq_true rfl] at hv
  subst hv
  exact ⟨rfl, (M18.grow e19).ext⟩

end Go.Proofs.Ytdfhfehlmonjjaa
