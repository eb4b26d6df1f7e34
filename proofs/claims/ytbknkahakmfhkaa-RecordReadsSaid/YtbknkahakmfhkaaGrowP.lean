/- A drawn region with an invariant: an operation told by the frame and the world; reads and an alloc with its store; reads and one write. -/
import Derived.Test.YtbknkahakmfhkaaAppA
import Derived.Test.YtbknkahakmfhkaaGrowN
import Derived.Deep.WholeRow
namespace Go.Proofs.Ytbknkahakmfhkaa
open Go.RowKit
set_option linter.unusedVariables false
set_option linter.unusedSimpArgs false
section
variable {I : (Nat → Bool) → Act → World → Prop} {P : Program} {ops : Array Oper} {Q : Exit → Act → World → Prop} {a : Act} {o : Oper} {rest : List Oper} {done : List (Nat × Spec)} {k : Nat}
/-- An operation whose value and world are told by the frame and the world. -/
theorem ga_at (V : Act → World → Value) (W : World → World)
    (h1 : ∀ (a' : Act) (w' : World) (L : Nat → Bool), a'.tmps.size = a.tmps.size → L k = false → (∀ e ∈ o.after, Region.binds .any e = true → L e.on = true) → I L a' w' → (∀ t ∈ o.looksAt ops, KnownAt done a a' w' t) →
      Region.wanted o (yielded ops a'.tmps) = true ∧ (execOp a'.eval o).run P w' = .ok (.value (V a' w')) (W w') ∧ I (setL L k) (a'.put o.dst (V a' w')) (W w'))
    (h : GWA TS I P ops Q a (k + 1) rest (consD o (fun _ _ => True) done)) : GWA TS I P ops Q a k (o :: rest) done := by
  refine ga_op (fun _ _ => True) monoT_any (fun a' w' L hsz hL haf hi hk => ?_) h
  obtain ⟨h2, h3, h4⟩ := h1 a' w' L hsz hL haf hi hk
  refine ⟨h2, ?_⟩
  unfold Oper.wp
  rw [h3]
  exact ⟨_, rfl, trivial, h4⟩
end
/-- Reads, then an alloc (operation ka, slot s), then its store (ks). -/
def IAl (w0 : World) (s ka ks : Nat) (z v : Array Value) (T : TypeId) (L : Nat → Bool) (a : Act) (w : World) : Prop :=
  Below w0.heap.size w0 w ∧ (L ka = false → w = w0) ∧ (L ka = true → L ks = false → a.tmps.getD s undef = .pointer (some ⟨w0.heap.size, 0, none⟩) ∧ w = w0.alloc (.cells z T)) ∧ (L ks = true → a.tmps.getD s undef = .pointer (some ⟨w0.heap.size, 0, none⟩) ∧ w = w0.alloc (.cells v T)) ∧ (L ks = true → L ka = true)
section
variable {w0 : World} {s ka ks : Nat} {z v : Array Value} {T : TypeId} {L : Nat → Bool} {a : Act} {w : World}
theorem IAl.start (w0 : World) : IAl w0 s ka ks z v T (fun _ => false) a w0 := ⟨Below.refl _ _, fun _ => rfl, (fun h => by cases h), (fun h => by cases h), (fun h => by cases h)⟩
theorem IAl.below (h : IAl w0 s ka ks z v T L a w) : Below w0.heap.size w0 w := h.1
theorem IAl.pure (h : IAl w0 s ka ks z v T L a w) {k : Nat} (h1 : ka ≠ k) (h2 : ks ≠ k) {dst : Option Tmp} (hd : dst ≠ some s) (V : Value) : IAl w0 s ka ks z v T (setL L k) (a.put dst V) w := by
  unfold IAl
  rw [setL_ne h1, setL_ne h2, getD_put_ne hd]
  exact h
theorem IAl.lay (h : IAl w0 s ka ks z v T L a w) (hL : L ka = false) (hsz : s < a.tmps.size) (hne : ks ≠ ka := by decide) : IAl w0 s ka ks z v T (setL L ka) (a.put (some s) (.pointer (some ⟨w.heap.size, 0, none⟩))) (w.alloc (.cells z T)) := by
  have hks : L ks = false := by
    cases hh : L ks with
    | false => rfl
    | true => rw [h.2.2.2.2 hh] at hL; cases hL
  obtain ⟨h1, h2, h3, h4, h5⟩ := h
  have hw := h2 hL
  subst hw
  unfold IAl
  rw [setL_same, setL_ne hne, hks]
  exact ⟨below_alloc _ _, (fun h => by cases h), fun _ _ => ⟨getD_put_same hsz, rfl⟩, (fun h => by cases h), (fun h => by cases h)⟩
theorem IAl.mid (h : IAl w0 s ka ks z v T L a w) (hL : L ka = true) (hs : L ks = false) : a.tmps.getD s undef = .pointer (some ⟨w0.heap.size, 0, none⟩) ∧ w = w0.alloc (.cells z T) := h.2.2.1 hL hs
theorem IAl.store (h : IAl w0 s ka ks z v T L a w) (hs : L ks = false) (hL : L ka = true) (hne : ka ≠ ks := by decide) : IAl w0 s ka ks z v T (setL L ks) (a.put none undef) (w.setRow w0.heap.size v) := by
  obtain ⟨e1, e2⟩ := h.mid hL hs
  subst e2
  unfold IAl
  rw [setL_same, setL_ne hne, hL, World.setRow_alloc_new]
  exact ⟨below_alloc _ _, (fun h => by cases h), (fun _ h => by cases h), fun _ => ⟨e1, rfl⟩, fun _ => rfl⟩
end

/-- Reads, then one write (operation N) into block b. -/
def IT (w0 : World) (N b : Nat) (R : World → Prop) (L : Nat → Bool) (a : Act) (w : World) : Prop := w0.grownBy w (some b) ∧ (L N = false → w = w0) ∧ (L N = true → R w)
section
variable {w0 : World} {N b : Nat} {R : World → Prop} {L : Nat → Bool} {a : Act} {w : World}
theorem IT.start (w0 : World) : IT w0 N b R (fun _ => false) a w0 := ⟨World.grownBy.refl _ _, fun _ => rfl, (fun h => by cases h)⟩
theorem IT.pure (h : IT w0 N b R L a w) {k : Nat} (h1 : N ≠ k) (dst : Option Tmp) (V : Value) : IT w0 N b R (setL L k) (a.put dst V) w := by
  unfold IT
  rw [setL_ne h1]
  exact h
theorem IT.done (h : IT w0 N b R L a w) {w' : World} (hg : w0.grownBy w' (some b)) (hR : R w') (dst : Option Tmp) (V : Value) : IT w0 N b R (setL L N) (a.put dst V) w' := by
  unfold IT
  rw [setL_same]
  exact ⟨hg, (fun h => by cases h), fun _ => hR⟩
end
end Go.Proofs.Ytbknkahakmfhkaa
