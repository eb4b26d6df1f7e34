/- Steps of a drawn region with an invariant: the general ones. -/
import Derived.Test.YtnfdbljeinlblaaGrowJ
namespace Go.Proofs.Ytnfdbljeinlblaa
open Go.RowKit
set_option linter.unusedVariables false
set_option linter.unusedSimpArgs false
section
variable {S : World → World → Prop} {I : (Nat → Bool) → World → Prop} {P : Program} {ops : Array Oper} {Q : Exit → Act → World → Prop} {a : Act} {o : Oper} {rest : List Oper} {done : List (Nat × Spec)} {k : Nat}
/-- An operation that leaves the world alone; its value by a spec. -/
theorem gi_valX (G : Spec) (hm : MonoS S G) (hS : ∀ w, S w w) (hI : ∀ (L : Nat → Bool) (w' : World), L k = false → I L w' → I (setL L k) w')
    (h1 : ∀ (a' : Act) (w' : World) (L : Nat → Bool), L k = false → (∀ e ∈ o.after, Region.binds .any e = true → L e.on = true) → I L w' → (∀ t ∈ o.looksAt ops, KnownAt done a a' w' t) → Region.wanted o (yielded ops a'.tmps) = true ∧ ∃ V, (execOp a'.eval o).run P w' = .ok (.value V) w' ∧ G V w')
    (h : GWI S I P ops Q a (k + 1) rest (consD o G done)) : GWI S I P ops Q a k (o :: rest) done := by
  refine ⟨G, hm, fun a' w' L hL haf hi hk => ?_, h⟩
  obtain ⟨h2, V, h3, h4⟩ := h1 a' w' L hL haf hi hk
  rw [if_pos h2]
  unfold Oper.wp
  rw [h3]
  exact ⟨V, rfl, h4, hS _, hI _ _ hL hi⟩
/-- A call whose arguments are known by a law. -/
theorem gi_callX (f : FuncId) (A : Array Value → World → Prop) (G : Spec) (hm : MonoS S G)
    (h1 : ∀ (a' : Act) (w' : World) (L : Nat → Bool), L k = false → (∀ e ∈ o.after, Region.binds .any e = true → L e.on = true) → I L w' → (∀ t ∈ o.looksAt ops, KnownAt done a a' w' t) → Region.wanted o (yielded ops a'.tmps) = true ∧ ∃ args, A args w' ∧ (execOp a'.eval o).run P w' = .ok (.enter f args) w')
    (hc : ∀ (w' : World) (L : Nat → Bool) (args : Array Value), L k = false → (∀ e ∈ o.after, Region.binds .any e = true → L e.on = true) → I L w' → A args w' → Calls P f args w' fun e w'' => ∃ v, e = .returned v ∧ G v w'' ∧ S w' w'' ∧ I (setL L k) w'')
    (h : GWI S I P ops Q a (k + 1) rest (consD o G done)) : GWI S I P ops Q a k (o :: rest) done := by
  refine ⟨G, hm, fun a' w' L hL haf hi hk => ?_, h⟩
  obtain ⟨h2, args, hA, h3⟩ := h1 a' w' L hL haf hi hk
  rw [if_pos h2]
  unfold Oper.wp
  rw [h3]
  simp only [Oper.upon]
  refine (hc w' L args hL haf hi hA).mono ?_
  rintro e w'' ⟨v, rfl, hg, hs, hii⟩
  exact ⟨v, rfl, hg, hs, hii⟩
theorem known_of {done : List (Nat × Spec)} {a a' : Act} {w' : World} {t : Nat} {G : Spec} (h : KnownAt done a a' w' t) (hd : done.lookup t = some G) : G (a'.tmps.getD t undef) w' := by
  unfold KnownAt at h; rw [hd] at h; exact h
end
end Go.Proofs.Ytnfdbljeinlblaa
