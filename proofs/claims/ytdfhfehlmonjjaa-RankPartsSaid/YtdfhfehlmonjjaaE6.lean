/- Scopes; equality of arrays and structs. -/
import Derived.Test.YtdfhfehlmonjjaaE5
import Derived.Scope
import Derived.Laws.StructEq
namespace Go.Eng
open Go.RowKit

def noGotoE (Q : Exit → Env → World → Prop) : Exit → Env → World → Prop
  | .goto _, _, _ => False
  | e, l, w => Q e l w

theorem scopeE {C : Cfg} (hC : C.Ok) {n : Nat} {plans : List (Nat × PlanT)} {c : Code} {l : Env} {w : World} {Q : Exit → Env → World → Prop} (h : codeE C n plans c l w (noGotoE Q)) : ScopeE C n plans c l w Q := by
  intro hok d a w₁ hr hs hdw
  refine wp_scope_straight (wp_mono (codeE_sound hC c l w _ hok h d a w₁ hr hs hdw) ?_)
  rintro e a' w' ⟨l', w'', hq, hr', hs', hd'⟩
  cases e with
  | goto k => exact hq.elim
  | _ => exact ⟨l', w'', hq, hr', hs', hd'⟩

/-- Two values at a type: equal or not, in whatever world. -/
def eqRun (P : Program) (d : Nat) (t : Nat) (a b : Value) (r : Bool) : Prop := ∀ w : World, (Op.equalIn d t a b).run P w = .ok r w

theorem eqRun_arr {P : Program} {d t n e : Nat} {xs ys : Array Value} {te : TI} (hu : P.underlying t = some (.array n e)) (he : TIok P e te) (ha : te.d.agg = false) (hs : te.size = 1) {f : Nat → Bool}
    (hx : ∀ i < n, ∃ u v, xs[i]? = some u ∧ ys[i]? = some v ∧ eqRun P d e u v (f i)) : eqRun P (d + 1) t (.agg xs) (.agg ys) ((List.range n).all f) := by
  intro w
  simp only [Op.equalIn, Sem.run_bind, run_underlying hu, Result.andThen_ok, he.run_size, hs, Nat.mul_one]
  rw [Std.Legacy.Range.forIn_eq_forIn_range']
  have key : ∀ (m k : Nat), k + m = n → ((forIn (List.range' k m 1) ((none, ()) : Option Bool × Unit) fun i _ => (do
      let a ← part e xs i
      let b ← part e ys i
      let r ← Op.equalIn d e a b
      if (!r) = true then pure (ForInStep.done (some false, ())) else pure (ForInStep.yield (none, ())) : Sem (ForInStep (Option Bool × Unit)))).run P w) = .ok (if (List.range' k m 1).all f then none else some false, ()) w := by
    intro m
    induction m with
    | zero => intro k _; simp
    | succ m ih =>
      intro k hk
      obtain ⟨u, v, h1, h2, h3⟩ := hx k (by omega)
      rw [List.range'_succ, List.forIn_cons]
      have p1 : (part e xs k).run P w = .ok u w := by simp [part, he.run_agg, ha, h1]
      have p2 : (part e ys k).run P w = .ok v w := by simp [part, he.run_agg, ha, h2]
      simp only [Sem.run_bind, p1, p2, Result.andThen_ok, h3 w]
      cases hf : f k with
      | false => simp [hf]
      | true =>
        simp only [Bool.not_true, Bool.false_eq_true, if_false, Sem.run_pure, Result.andThen_ok, List.all_cons, hf, Bool.true_and]
        exact ih (k + 1) (by omega)
  have h0 := key n 0 (by omega)
  simp only [Std.Legacy.Range.size, Nat.sub_zero, Nat.add_sub_cancel, Nat.div_one] at h0 ⊢
  rw [h0]
  rw [List.range_eq_range']
  by_cases hall : (List.range' 0 n 1).all f = true
  · simp [hall]
  · have : (List.range' 0 n 1).all f = false := by simpa using hall
    simp [this]

end Go.Eng
