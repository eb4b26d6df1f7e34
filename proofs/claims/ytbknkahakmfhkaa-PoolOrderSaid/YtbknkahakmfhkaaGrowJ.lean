/- Steps of a drawn region with an invariant. -/
import Derived.Test.YtbknkahakmfhkaaGrowI
namespace Go.Proofs.Ytbknkahakmfhkaa
open Go.RowKit
set_option linter.unusedVariables false
set_option linter.unusedSimpArgs false
section
variable {S : World → World → Prop} {I : (Nat → Bool) → World → Prop} {P : Program} {ops : Array Oper} {Q : Exit → Act → World → Prop} {a : Act} {o : Oper} {rest : List Oper} {done : List (Nat × Spec)} {k : Nat}
theorem monoS_eq (V : Value) : MonoS S (fun v _ => v = V) := fun _ _ _ h _ => h
/-- An operation whose value is told outright, and that leaves the world alone. -/
theorem gi_val (V : Value) (hS : ∀ w, S w w) (hI : ∀ (L : Nat → Bool) (w' : World), L k = false → I L w' → I (setL L k) w')
    (h1 : ∀ (a' : Act) (w' : World) (L : Nat → Bool), L k = false → (∀ e ∈ o.after, Region.binds .any e = true → L e.on = true) → I L w' → (∀ t ∈ o.looksAt ops, KnownAt done a a' w' t) → Region.wanted o (yielded ops a'.tmps) = true ∧ (execOp a'.eval o).run P w' = .ok (.value V) w')
    (h : GWI S I P ops Q a (k + 1) rest (consD o (fun v _ => v = V) done)) : GWI S I P ops Q a k (o :: rest) done := by
  refine ⟨_, monoS_eq V, fun a' w' L hL haf hi hk => ?_, h⟩
  obtain ⟨h2, h3⟩ := h1 a' w' L hL haf hi hk
  rw [if_pos h2]
  unfold Oper.wp
  rw [h3]
  exact ⟨V, rfl, rfl, hS _, hI _ _ hL hi⟩
/-- An operation that its guard leaves out. -/
theorem gi_skip (hS : ∀ w, S w w) (hI : ∀ (L : Nat → Bool) (w' : World), L k = false → I L w' → I (setL L k) w')
    (h1 : ∀ (a' : Act) (w' : World), (∀ t ∈ o.looksAt ops, KnownAt done a a' w' t) → Region.wanted o (yielded ops a'.tmps) = false)
    (h : GWI S I P ops Q a (k + 1) rest (consD o (fun v _ => v = undef) done)) : GWI S I P ops Q a k (o :: rest) done := by
  refine ⟨_, monoS_eq undef, fun a' w' L hL haf hi hk => ?_, h⟩
  rw [if_neg (by rw [h1 a' w' hk]; simp)]
  exact ⟨rfl, hS _, hI _ _ hL hi⟩
/-- A call. -/
theorem gi_call (f : FuncId) (args : Array Value) (G : Spec) (hm : MonoS S G) (h1 : ∀ (a' : Act) (w' : World), (∀ t ∈ o.looksAt ops, KnownAt done a a' w' t) → Region.wanted o (yielded ops a'.tmps) = true ∧ (execOp a'.eval o).run P w' = .ok (.enter f args) w')
    (hc : ∀ (w' : World) (L : Nat → Bool), L k = false → (∀ e ∈ o.after, Region.binds .any e = true → L e.on = true) → I L w' → Calls P f args w' fun e w'' => ∃ v, e = .returned v ∧ G v w'' ∧ S w' w'' ∧ I (setL L k) w'')
    (h : GWI S I P ops Q a (k + 1) rest (consD o G done)) : GWI S I P ops Q a k (o :: rest) done := by
  refine ⟨G, hm, fun a' w' L hL haf hi hk => ?_, h⟩
  obtain ⟨h2, h3⟩ := h1 a' w' hk
  rw [if_pos h2]
  unfold Oper.wp
  rw [h3]
  simp only [Oper.upon]
  refine (hc w' L hL haf hi).mono ?_
  rintro e w'' ⟨v, rfl, hg, hs, hii⟩
  exact ⟨v, rfl, hg, hs, hii⟩
/-- string(t), t a slice that reads as L. -/
theorem gi_str {T Sg e : TypeId} (hs : P.underlying T = some (.slice e)) (he : P.underlying e = some (.int .u8)) (hd : P.underlying Sg = some .string) (t : Nat) (l : List UInt8)
    (hS : ∀ w, S w w) (hI : ∀ (L : Nat → Bool) (w' : World), L k = false → I L w' → I (setL L k) w')
    (ho : o.op = .convert T Sg (.tmp t)) (ht : ∀ (a' : Act) (w' : World) (L : Nat → Bool), I L w' → (∀ t ∈ o.looksAt ops, KnownAt done a a' w' t) → Region.wanted o (yielded ops a'.tmps) = true ∧ BytesG l (a'.tmps.getD t undef) w')
    (h : GWI S I P ops Q a (k + 1) rest (consD o (fun v _ => v = .string (strOf l)) done)) : GWI S I P ops Q a k (o :: rest) done := by
  refine ⟨_, monoS_eq _, fun a' w' L hL haf hi hk => ?_, h⟩
  obtain ⟨h2, p, n, c, h3, h4, h5⟩ := ht a' w' L hi hk
  rw [if_pos h2]
  have hrun : (execOp a'.eval o).run P w' = .ok (.value (.string (strOf l))) w' := by
    have := conv_str (P := P) hs he hd c h4 h5
    have e1 : a'.eval (.tmp t) = .slice p n c := h3
    simp [execOp, ho, e1, this]
  unfold Oper.wp
  rw [hrun]
  exact ⟨_, rfl, rfl, hS _, hI _ _ hL hi⟩
/-- What a store leaves of the rest. -/
theorem setL_ne {L : Nat → Bool} {k j : Nat} (h : j ≠ k) : setL L k j = L j := by simp [setL, h]
theorem setL_same {L : Nat → Bool} {k : Nat} : setL L k k = true := by simp [setL]
end
end Go.Proofs.Ytbknkahakmfhkaa
