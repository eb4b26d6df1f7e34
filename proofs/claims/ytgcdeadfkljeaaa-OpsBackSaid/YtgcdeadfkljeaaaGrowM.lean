/- Operations of a growing region that their guards leave out. -/
import Derived.Test.YtgcdeadfkljeaaaGrowI
namespace Go.Proofs.Ytgcdeadfkljeaaa
open Go.RowKit
set_option linter.unusedVariables false
set_option linter.unusedSimpArgs false
section
variable {P : Program} {ops : Array Oper} {Q : Exit → Act → World → Prop} {a : Act} {w0 : World} {o : Oper} {rest : List Oper} {done : List (Nat × Spec)}
theorem gw_skip (h1 : ∀ (a' : Act) (w' : World), (∀ t ∈ o.looksAt ops, KnownAt done a a' w' t) → Region.wanted o (yielded ops a'.tmps) = false)
    (h : GW P ops Q a w0 rest (consD o (fun v _ => v = undef) done)) : GW P ops Q a w0 (o :: rest) done := by
  refine ⟨_, mono_eq undef, fun a' w' hb hk => ?_, h⟩
  rw [if_neg (by rw [h1 a' w' hk]; simp)]
theorem wanted_not {tm : Array Value} {j t : Nat} {b b' : Bool} (hg : o.guard = some (j, b)) (hj : ((ops[j]?).bind (·.dst)) = some t) (h : tm.getD t undef = .bool b') (hne : b' ≠ b) : Region.wanted o (yielded ops tm) = false := by
  have h2 : tm[t]? = some (.bool b') := by
    cases hx : tm[t]? with
    | none => simp [hx] at h; cases h
    | some v => simp [hx] at h; rw [h]
  obtain ⟨oj, h3, h4⟩ := Option.bind_eq_some_iff.1 hj
  simp [Region.wanted, hg, yielded, h3, h4, h2, hne]
/-- A call whose arguments are known by a law only. -/
theorem gw_callE (f : FuncId) (A : Array Value → World → Prop) (G : Spec) (hm : Mono G) (h1 : ∀ (a' : Act) (w' : World), (∀ t ∈ o.looksAt ops, KnownAt done a a' w' t) → Region.wanted o (yielded ops a'.tmps) = true ∧ ∃ args, A args w' ∧ (execOp a'.eval o).run P w' = .ok (.enter f args) w')
    (hc : ∀ w' args, Below w0.heap.size w0 w' → A args w' → Calls P f args w' fun e w'' => ∃ v, e = .returned v ∧ G v w'' ∧ Below w'.heap.size w' w'')
    (h : GW P ops Q a w0 rest (consD o G done)) : GW P ops Q a w0 (o :: rest) done := by
  refine ⟨G, hm, fun a' w' hb hk => ?_, h⟩
  obtain ⟨h2, args, hA, h3⟩ := h1 a' w' hk
  rw [if_pos h2]
  unfold Oper.wp
  rw [h3]
  simp only [Oper.upon]
  refine (hc w' args hb hA).mono ?_
  rintro e w'' ⟨v, rfl, hg, hbb⟩
  exact ⟨v, rfl, hg, hbb⟩
end
end Go.Proofs.Ytgcdeadfkljeaaa
