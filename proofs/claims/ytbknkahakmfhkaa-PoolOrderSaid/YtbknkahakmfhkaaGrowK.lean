/- From a list of one operation to the operation. -/
import Derived.Test.YtbknkahakmfhkaaGrowJ
namespace Go.Proofs.Ytbknkahakmfhkaa
open Go.RowKit
set_option linter.unusedVariables false
set_option linter.unusedSimpArgs false
theorem wp_of_list {P : Program} {ops : Array Oper} {o : Oper} {a : Act} {w : World} {K : Act → World → Prop} (hg : o.guard = none)
    (h : wpList P ops (fun e a w => e = .normal ∧ K a w) [o] a w) : o.wp P a w K (fun _ _ _ => False) := by
  unfold wpList at h
  simp only [Region.wanted, hg, if_true] at h
  rcases h with h | ⟨_, h⟩
  · unfold Oper.wp at *
    generalize (execOp a.eval o).run P w = r at *
    cases r with
    | ok n w'' =>
      cases n <;> simp only [Oper.upon] at h ⊢
      case enter f args =>
        refine h.mono ?_
        intro e w3 he
        cases e with
        | returned v => exact he.2
        | panicked c => exact absurd he.1 (by simp)
        | outgrown =>
          obtain ⟨_, _, hf⟩ := he
          exact absurd hf.1 (by simp)
      case row r args => exact h.mono fun _ _ he => he.2
      all_goals exact h.2
    | halt x w'' => cases x <;> simp only [Oper.upon] at h <;> exact absurd h.1 (by simp)
  · obtain ⟨a', w', hf⟩ := h
    exact absurd hf.1 (by simp)
end Go.Proofs.Ytbknkahakmfhkaa
