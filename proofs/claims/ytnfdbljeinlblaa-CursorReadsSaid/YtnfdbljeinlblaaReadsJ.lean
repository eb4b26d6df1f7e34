/- Two cursors side by side: what a call of one leaves of the other. -/
import Derived.Test.YtnfdbljeinlblaaCurFix
import Derived.Test.YtnfdbljeinlblaaRef02D
import Derived.Test.YtnfdbljeinlblaaOpenS
namespace Go.Proofs.Ytnfdbljeinlblaa
open Go.RowKit
set_option linter.unusedVariables false
set_option linter.unusedSimpArgs false

theorem CurOk.nobyte {w : World} {g : Nat} {l : List UInt8} {p : Nat} {er : Int} (h : CurOk w g l p er) : ∀ off (z : UInt8), w.cell? ⟨g, off, none⟩ ≠ some (bE z) := by
  obtain ⟨a, n, c, hb, _⟩ := h.ex; exact blk_nobyte hb
theorem CurOk.keep {w w' : World} {g q : Nat} {l : List UInt8} {p : Nat} {er : Int} (h : CurOk w g l p er) (hk : ByteKeep w w') (hg : w.grownBy w' (some q)) (hne : g ≠ q) : CurOk w' g l p er := by
  obtain ⟨a, n, c, h1, h2, h3, h4, h5, h6, h7⟩ := h.ex
  exact ⟨a, n, c, h1.grown hg (by simpa using hne), h2, h3, h4, h5.keep hk, fun b off e => ⟨(h6 b off e).1, Nat.lt_of_lt_of_le (h6 b off e).2 hg.size⟩, h7⟩
theorem RefOk.keep {w w' : World} {g q : Nat} {l : List UInt8} {p : Nat} {er : Int} (h : RefOk w g l p er) (hk : ByteKeep w w') (hg : w.grownBy w' (some q)) (hne : g ≠ q) : RefOk w' g l p er := by
  obtain ⟨a, n, c, h1, h2, h3, h4, h5, h6⟩ := h.ex
  exact ⟨a, n, c, h1.grown hg (by simpa using hne), h2, h3, h4, h5.keep hk, h6⟩

/-- The two cursors while a region runs: j1 is the program's call, j2 the document's. -/
def IR (B : Nat) (w0 : World) (g h q : Nat) (m : Int) (l : List UInt8) (p : Nat) (er : Int) (p' : Nat) (er' : Int) (j1 j2 : Nat) (L : Nat → Bool) (w : World) : Prop :=
  CurOk w g l (cond (L j1) p' p) (cond (L j1) er' er) ∧ RefOk w h l (cond (L j2) p' p) (cond (L j2) er' er) ∧ w.cell? ⟨q, 1, none⟩ = some (.int .i64 m) ∧ Below B w0 w
section
variable {B : Nat} {w0 : World} {g h q : Nat} {m : Int} {l : List UInt8} {p : Nat} {er : Int} {p' : Nat} {er' : Int} {j1 j2 : Nat} {L : Nat → Bool} {w w' : World}
theorem IR.set (hi : IR B w0 g h q m l p er p' er' j1 j2 L w) {k : Nat} (h1 : j1 ≠ k) (h2 : j2 ≠ k) : IR B w0 g h q m l p er p' er' j1 j2 (setL L k) w := by
  unfold IR; rw [setL_ne h1, setL_ne h2]; exact hi
theorem IR.cur (hi : IR B w0 g h q m l p er p' er' j1 j2 L w) (hL : L j1 = false) : CurOk w g l p er := by
  have := hi.1; rw [hL] at this; exact this
theorem IR.ref (hi : IR B w0 g h q m l p er p' er' j1 j2 L w) (hL : L j2 = false) : RefOk w h l p er := by
  have := hi.2.1; rw [hL] at this; exact this
theorem IR.c (hi : IR B w0 g h q m l p er p' er' j1 j2 L w) (hc : CurOk w' g l p' er') (hg : w.grownBy w' (some g)) (h12 : j2 ≠ j1) (hgh : h ≠ g) (hq : q ≠ g) (hB : B ≤ g) (hBs : B ≤ w.heap.size) : ByteKeep w w' ∧ IR B w0 g h q m l p er p' er' j1 j2 (setL L j1) w' := by
  have hk := keep_of_grown hg hi.1.nobyte
  refine ⟨hk, ?_, ?_, ?_, ?_⟩
  · rw [setL_same]; exact hc
  · rw [setL_ne h12]; exact hi.2.1.keep hk hg hgh
  · exact hg.cell hi.2.2.1 (by simpa using hq)
  · exact below_of_grown hi.2.2.2 hBs hg hB
theorem IR.r (hi : IR B w0 g h q m l p er p' er' j1 j2 L w) (hc : RefOk w' h l p' er') (hg : w.grownBy w' (some h)) (h12 : j1 ≠ j2) (hgh : g ≠ h) (hq : q ≠ h) (hB : B ≤ h) (hBs : B ≤ w.heap.size) : ByteKeep w w' ∧ IR B w0 g h q m l p er p' er' j1 j2 (setL L j2) w' := by
  have hk := keep_of_grown hg hi.2.1.nobyte
  refine ⟨hk, ?_, ?_, ?_, ?_⟩
  · rw [setL_ne h12]; exact hi.1.keep hk hg hgh
  · rw [setL_same]; exact hc
  · exact hg.cell hi.2.2.1 (by simpa using hq)
  · exact below_of_grown hi.2.2.2 hBs hg hB
end
end Go.Proofs.Ytnfdbljeinlblaa
