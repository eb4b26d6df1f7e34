/- Steps of a growing region. -/
import Derived.Test.YtgcdeadfkljeaaaGrow
import Derived.Test.YtgcdeadfkljeaaaBuf
namespace Go.Proofs.Ytgcdeadfkljeaaa
open Go.RowKit
set_option linter.unusedVariables false
set_option linter.unusedSimpArgs false
section
variable {P : Program} {ops : Array Oper} {Q : Exit → Act → World → Prop} {a : Act} {w0 : World} {o : Oper} {rest : List Oper} {done : List (Nat × Spec)}
theorem mono_eq (V : Value) : Mono (fun v _ => v = V) := fun _ _ _ h _ => h
theorem wanted_none {tm : Array Value} (hg : o.guard = none) : Region.wanted o (yielded ops tm) = true := by simp [Region.wanted, hg]
theorem wanted_guard {tm : Array Value} {j t : Nat} {b : Bool} (hg : o.guard = some (j, b)) (hj : ((ops[j]?).bind (·.dst)) = some t) (h : tm.getD t undef = .bool b) : Region.wanted o (yielded ops tm) = true := by
  have h2 : tm[t]? = some (.bool b) := by
    cases hx : tm[t]? with
    | none => simp [hx] at h; cases h
    | some v => simp [hx] at h; rw [h]
  obtain ⟨oj, h3, h4⟩ := Option.bind_eq_some_iff.1 hj
  simp [Region.wanted, hg, yielded, h3, h4, h2]
/-- An operation whose value is told outright. -/
theorem gw_val (V : Value) (h1 : ∀ (a' : Act) (w' : World), (∀ t ∈ o.looksAt ops, KnownAt done a a' w' t) → Region.wanted o (yielded ops a'.tmps) = true ∧ (execOp a'.eval o).run P w' = .ok (.value V) w')
    (h : GW P ops Q a w0 rest (consD o (fun v _ => v = V) done)) : GW P ops Q a w0 (o :: rest) done := by
  refine ⟨_, mono_eq V, fun a' w' hb hk => ?_, h⟩
  obtain ⟨h2, h3⟩ := h1 a' w' hk
  rw [if_pos h2]
  unfold Oper.wp
  rw [h3]
  exact ⟨V, rfl, rfl, Below.refl _ _⟩
/-- A call. -/
theorem gw_call (f : FuncId) (args : Array Value) (G : Spec) (hm : Mono G) (h1 : ∀ (a' : Act) (w' : World), (∀ t ∈ o.looksAt ops, KnownAt done a a' w' t) → Region.wanted o (yielded ops a'.tmps) = true ∧ (execOp a'.eval o).run P w' = .ok (.enter f args) w')
    (hc : ∀ w', Below w0.heap.size w0 w' → Calls P f args w' fun e w'' => ∃ v, e = .returned v ∧ G v w'' ∧ Below w'.heap.size w' w'')
    (h : GW P ops Q a w0 rest (consD o G done)) : GW P ops Q a w0 (o :: rest) done := by
  refine ⟨G, hm, fun a' w' hb hk => ?_, h⟩
  obtain ⟨h2, h3⟩ := h1 a' w' hk
  rw [if_pos h2]
  unfold Oper.wp
  rw [h3]
  simp only [Oper.upon]
  refine (hc w' hb).mono ?_
  rintro e w'' ⟨v, rfl, hg, hbb⟩
  exact ⟨v, rfl, hg, hbb⟩
/-- A slice of bytes that reads as L. -/
def BytesG (L : List UInt8) : Spec := fun v w => ∃ a n c, v = .slice a n c ∧ L.length = n ∧ Rd w bE a L
theorem mono_bytes (L : List UInt8) : Mono (BytesG L) := fun v w w' ⟨a, n, c, h1, h2, h3⟩ hb => ⟨a, n, c, h1, h2, h3.below hb⟩
/-- string(t), t a slice that reads as L. -/
theorem gw_str {T S e : TypeId} (hs : P.underlying T = some (.slice e)) (he : P.underlying e = some (.int .u8)) (hd : P.underlying S = some .string) (t : Nat) (L : List UInt8)
    (ho : o.op = .convert T S (.tmp t)) (ht : ∀ (a' : Act) (w' : World), Below w0.heap.size w0 w' → (∀ t ∈ o.looksAt ops, KnownAt done a a' w' t) → Region.wanted o (yielded ops a'.tmps) = true ∧ BytesG L (a'.tmps.getD t undef) w')
    (h : GW P ops Q a w0 rest (consD o (fun v _ => v = .string (strOf L)) done)) : GW P ops Q a w0 (o :: rest) done := by
  refine ⟨_, mono_eq _, fun a' w' hb hk => ?_, h⟩
  obtain ⟨h2, p, n, c, h3, h4, h5⟩ := ht a' w' hb hk
  rw [if_pos h2]
  have hrun : (execOp a'.eval o).run P w' = .ok (.value (.string (strOf L))) w' := by
    have := conv_str (P := P) hs he hd c h4 h5
    have e1 : a'.eval (.tmp t) = .slice p n c := h3
    simp [execOp, ho, e1, this]
  unfold Oper.wp
  rw [hrun]
  exact ⟨_, rfl, rfl, Below.refl _ _⟩
end
end Go.Proofs.Ytgcdeadfkljeaaa
