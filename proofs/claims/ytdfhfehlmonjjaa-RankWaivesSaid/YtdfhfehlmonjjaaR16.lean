/- SameInts, the sample, stands. -/
import Derived.Test.YtdfhfehlmonjjaaR15
namespace Go.Proofs.Ytdfhfehlmonjjaa
open Go.Eng Go.RowKit

theorem SameInts_spec {w : World} {A B : Option Addr} {xs ys : List Int} {c d : Nat} (hx : Reads w A (ints xs)) (hy : Reads w B (ints ys)) (hl : xs.length ≤ 9223372036854775807) :
    CallsV C.P 32 #[.slice A xs.length c, .slice B ys.length d] w fun v w' => v = .bool (decide (xs = ys)) ∧ Ext w w' := by
  refine callsV_of C_ok (args := [_, _]) (plans := plans32) Try.func32 rfl Try.ntmps32 (by kernel_rfl) (Nat.le_of_ble_eq_true rfl) ?_
  refine brE_mk (fun hb => ?_) (fun hb => ?_)
  · have hb : ¬ (xs.length : Int) = (ys.length : Int) := by simpa using hb
    have hne : xs ≠ ys := fun e => hb (by rw [e])
    exact ⟨by rw [decide_eq_false hne], Ext.refl _⟩
  · have hb : (xs.length : Int) = (ys.length : Int) := by simpa using hb
    have hlen : xs.length = ys.length := by omega
    refine loopE C_ok (fun (i : Nat) => [(0, .slice A xs.length c), (1, .slice B ys.length d), (5, .int .i64 i)])
      (fun i w' => w' = w ∧ i ≤ xs.length ∧ xs.take i = ys.take i) (fun i => xs.length - i) 0 ⟨rfl, rfl, rfl, trivial⟩ ⟨rfl, Nat.zero_le _, rfl⟩ ?_
    rintro i w1 ⟨rfl, hi, ht⟩
    refine brE_dec (fun hlt => ?_) (fun hge => ?_)
    · have hlt : i < xs.length := by omega
      have hlt2 : i < ys.length := by omega
      obtain ⟨b1, o1, hA, hc1⟩ := Reads.int hx hlt
      obtain ⟨b2, o2, hB, hc2⟩ := Reads.int hy hlt2
      refine ⟨i, b1, o1, rfl, hlt, hA, ?_⟩
      refine ⟨_, by simpa using hc1, ?_⟩
      refine ⟨i, b2, o2, rfl, hlt2, hB, ?_⟩
      refine ⟨_, by simpa using hc2, ?_⟩
      refine brE_mk (fun hn => ?_) (fun hn => ?_)
      · have hn : ¬ xs[i] = ys[i] := by simpa using hn
        have hne : xs ≠ ys := fun e => hn (by subst e; rfl)
        exact ⟨by rw [decide_eq_false hne], Ext.refl _⟩
      · have hn : xs[i] = ys[i] := by simpa using hn
        refine ⟨((i + 1 : Nat) : Int), fit ⟨by omega, by omega⟩, ?_⟩
        exact ⟨i + 1, ⟨rfl, rfl, rfl, trivial⟩, ⟨rfl, hlt, by rw [List.take_succ_eq_append_getElem hlt, List.take_succ_eq_append_getElem hlt2, ht, hn]⟩, by omega⟩
    · have : i = xs.length := by omega
      subst this
      have e : xs = ys := by rw [List.take_length, hlen, List.take_length] at ht; exact ht
      exact ⟨by rw [decide_eq_true e], Ext.refl _⟩

theorem sample_spec (w : World) : CallsV C.P 57 #[] w fun v w' => NewRel w.heap.size w' v 4 exX ∧ Ext w w' := by
  refine callsV_of C_ok (args := []) (plans := []) Try.func57 rfl Try.ntmps57 (by kernel_rfl) (Nat.le_of_ble_eq_true rfl) ?_
  intro g0 w1 h1
  intro g5 w2 h2
  have M2 := ((Mem.start w).alloc h1).alloc h2
  refine ⟨rfl, _, _, M2.get 1 rfl, Nat.le_of_ble_eq_true rfl, rfl, ?_⟩
  intro w3 h3
  have M3 := M2.put 1 rfl h3
  refine ⟨[.int .i64 4, .slice (some ⟨g5, 0, none⟩) 4 4], rfl, M3.rd 1 rfl, ?_⟩
  refine ⟨⟨some ⟨g5, 0, none⟩, 4, rfl, ?_⟩, M3.ext⟩
  exact owns_block (M3.get 0 rfl) (M3.new 0 rfl) rfl (Nat.le_of_ble_eq_true rfl)

theorem under4 : Try.prog.underlying 4 = some .bool := by kernel_rfl

theorem eqFields_run {P : Program} {w : World} {d : Nat} {xs ys : Array Value} {f : Field → Bool} : ∀ {fs : List Field}, (∀ x ∈ fs, x.name ≠ "_" ∧ ∃ u v, (part x.type xs x.offset).run P w = .ok u w ∧ (part x.type ys x.offset).run P w = .ok v w ∧ (Op.equalIn d x.type u v).run P w = .ok (f x) w) →
    (Op.eqFields d xs ys fs).run P w = .ok (fs.all f) w
  | [], _ => by simp [Op.eqFields]
  | x :: r, h => by
    obtain ⟨hn, u, v, h1, h2, h3⟩ := h x (by simp)
    rw [Op.eqFields, if_pos hn]
    simp only [Sem.run_bind, h1, h2, h3, Result.andThen_ok, List.all_cons]
    cases hf : f x with
    | false => simp
    | true => simpa using eqFields_run fun y hy => h y (by simp [hy])

theorem eqInt_run {P : Program} {t : Nat} {k : IntKind} (hu : P.underlying t = some (.int k)) (w : World) (d : Nat) (k' : IntKind) (a b : Int) : (Op.equalIn (d + 1) t (.int k' a) (.int k' b)).run P w = .ok (decide (a = b)) w := by
  simp only [Op.equalIn, Sem.run_bind, run_underlying hu, Result.andThen_ok, if_true, Sem.run_pure]
  congr 1

theorem eq58 (x y : Operand) (p q : Int × Int) : EqIs C.P .eql 58 x y (prVal p) (prVal q) (decide (p = q)) := by
  intro w
  have hm : C.P.eqGuardType C.P.depth 58 = false := by kernel_rfl
  have hs : C.P.stoodInHeld 58 = false := by kernel_rfl
  have hf : Try.prog.fieldsOf 58 = #[⟨ "A", 3, 0, false, "", "", 0⟩, ⟨ "B", 3, 1, false, "", "", 8⟩] := by kernel_rfl
  have hu : C.P.underlying 58 = some (.struct (C.P.fieldsOf 58)) := by show Try.prog.underlying 58 = some (.struct (Try.prog.fieldsOf 58)); rw [hf]; exact u58
  rw [Sem.run_bind, prVal, prVal, run_eqGuard_agg w .eql 58 x y _ _ hm]
  simp only [Result.andThen_ok]
  rw [run_eql_struct, run_equalIn_struct w 9999 58 _ _ hu hs]
  have h3 : C.P.underlying 3 = some (.int .i64) := under3
  have hp : ∀ (i : Nat) (cs : Array Value) (v : Value), cs[i]? = some v → (part 3 cs i).run C.P w = .ok v w := by
    intro i cs v hv
    have := (C_ok.ti (t := 3) (ti := ty3) rfl).run_agg
    simp [part, this, ty3, TD.agg, hv]
  show ((Op.eqFields 9999 _ _ (Try.prog.fieldsOf 58).toList).run C.P w).andThen _ = _
  rw [hf]
  rw [eqFields_run (f := fun x => if x.offset = 0 then decide (p.1 = q.1) else decide (p.2 = q.2))]
  · obtain ⟨a, b⟩ := p
    obtain ⟨c, d⟩ := q
    simp
  · intro f hf
    simp only [List.mem_cons, List.not_mem_nil, or_false] at hf
    rcases hf with rfl | rfl
    · exact ⟨by decide, .int .i64 p.1, .int .i64 q.1, hp 0 _ _ rfl, hp 0 _ _ rfl, eqInt_run h3 w 9998 .i64 p.1 q.1⟩
    · exact ⟨by decide, .int .i64 p.2, .int .i64 q.2, hp 1 _ _ rfl, hp 1 _ _ rfl, eqInt_run h3 w 9998 .i64 p.2 q.2⟩

end Go.Proofs.Ytdfhfehlmonjjaa
