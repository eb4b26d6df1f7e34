/- Two cursors in one drawn region: what is told of both when both calls are done. -/
import Derived.Test.YtbknkahakmfhkaaGrowN
import Derived.Test.YtbknkahakmfhkaaRef02D
import Derived.Test.YtbknkahakmfhkaaCurOB
import Derived.Test.YtbknkahakmfhkaaGrowM
namespace Go.Proofs.Ytbknkahakmfhkaa
open Go.RowKit
set_option linter.unusedVariables false
set_option linter.unusedSimpArgs false

theorem CurOk.nobyte2 {w : World} {g : Nat} {l : List UInt8} {p : Nat} {er : Int} (h : CurOk w g l p er) : ∀ off (z : UInt8), w.cell? ⟨g, off, none⟩ ≠ some (bE z) := by
  obtain ⟨a, n, c, hb, _⟩ := h.ex; exact blk_nobyte hb
theorem CurOk.lt2 {w : World} {g : Nat} {l : List UInt8} {p : Nat} {er : Int} (h : CurOk w g l p er) : g < w.heap.size := by
  obtain ⟨a, n, c, hb, _⟩ := h.ex; exact hb.lt
theorem RefOk.lt2 {w : World} {g : Nat} {l : List UInt8} {p : Nat} {er : Int} (h : RefOk w g l p er) : g < w.heap.size := by
  obtain ⟨a, n, c, hb, _⟩ := h.ex; exact hb.lt
theorem CurOk.keep2 {w w' : World} {g q : Nat} {l : List UInt8} {p : Nat} {er : Int} (h : CurOk w g l p er) (hk : ByteKeep w w') (hg : w.grownBy w' (some q)) (hne : g ≠ q) : CurOk w' g l p er := by
  obtain ⟨a, n, c, h1, h2, h3, h4, h5, h6, h7⟩ := h.ex
  exact ⟨a, n, c, h1.grown hg (by simpa using hne), h2, h3, h4, h5.keep hk, h6, h7⟩
theorem RefOk.keep2 {w w' : World} {g q : Nat} {l : List UInt8} {p : Nat} {er : Int} (h : RefOk w g l p er) (hk : ByteKeep w w') (hg : w.grownBy w' (some q)) (hne : g ≠ q) : RefOk w' g l p er := by
  obtain ⟨a, n, c, h1, h2, h3, h4, h5, h6, h7⟩ := h.ex
  exact ⟨a, n, c, h1.grown hg (by simpa using hne), h2, h3, h4, h5.keep hk, h6, h7⟩
theorem keep_of_below {w w' : World} (hb : Below w.heap.size w w') : ByteKeep w w' := fun b off x h => (hb.cell (p := ⟨b, off, none⟩) (World.block_lt_of_cell? w _ h)).trans h
theorem RefOk.cell1 {w : World} {g : Nat} {l : List UInt8} {p : Nat} {er : Int} (h : RefOk w g l p er) : w.cell? ⟨g, 1, none⟩ = some (.int .i64 (p : Int)) := by
  obtain ⟨a, n, c, hb, _⟩ := h.ex; exact hb.cell rfl
theorem RefOk.cell2 {w : World} {g : Nat} {l : List UInt8} {p : Nat} {er : Int} (h : RefOk w g l p er) : w.cell? ⟨g, 2, none⟩ = some (.int .i64 er) := by
  obtain ⟨a, n, c, hb, _⟩ := h.ex; exact hb.cell rfl

/-- Both cursors are behind their calls. -/
def KK (g h : Nat) (l : List UInt8) (P : Nat) (E : Int) (w : World) : Prop := CurOk w g l P E ∧ RefOk w h l P E
/-- What a step of the region leaves. -/
def SK (B g h : Nat) (l : List UInt8) (P : Nat) (E : Int) (w w' : World) : Prop :=
  ByteKeep w w' ∧ (w.heap.size ≤ w'.heap.size ∧ ∀ k, B ≤ k → k < w.heap.size → w'.heap[k]? = w.heap[k]?) ∧ (CurOk w g l P E → CurOk w' g l P E) ∧ (RefOk w h l P E → RefOk w' h l P E)
/-- The two cursors, something else of the world, and the old blocks. -/
def IK (B0 : Nat) (w0 : World) (X : World → Prop) (g h : Nat) (l : List UInt8) (p : Nat) (er : Int) (P : Nat) (E : Int) (j1 j2 : Nat) (L : Nat → Bool) (w : World) : Prop :=
  CurOk w g l (cond (L j1) P p) (cond (L j1) E er) ∧ RefOk w h l (cond (L j2) P p) (cond (L j2) E er) ∧ X w ∧ Below B0 w0 w
section
variable {B B0 : Nat} {w0 : World} {X : World → Prop} {g h : Nat} {l : List UInt8} {p : Nat} {er : Int} {P : Nat} {E : Int} {j1 j2 : Nat} {L : Nat → Bool} {w w' : World}
theorem SK.refl (w : World) : SK B g h l P E w w := ⟨ByteKeep.refl w, ⟨Nat.le_refl _, fun _ _ _ => rfl⟩, id, id⟩
theorem SK.below (hb : Below w.heap.size w w') : SK B g h l P E w w' := ⟨keep_of_below hb, ⟨hb.size, fun k _ hk => hb.block k hk⟩, fun hc => hc.below hb, fun hc => hc.below hb⟩
theorem monoSK_eq (V : Value) : MonoS (SK B g h l P E) (fun v _ => v = V) := fun _ _ _ h _ => h
theorem monoSK_K (V : Value) : MonoS (SK B g h l P E) (fun v w => v = V ∧ KK g h l P E w) := fun _ _ _ h hs => ⟨h.1, hs.2.2.1 h.2.1, hs.2.2.2 h.2.2⟩
theorem monoSK_C (V : Value) : MonoS (SK B g h l P E) (fun v w => v = V ∧ CurOk w g l P E) := fun _ _ _ h hs => ⟨h.1, hs.2.2.1 h.2⟩
theorem monoSK_R (V : Value) : MonoS (SK B g h l P E) (fun v w => v = V ∧ RefOk w h l P E) := fun _ _ _ h hs => ⟨h.1, hs.2.2.2 h.2⟩
theorem Own.sk {α : Type} {e : TypeId} {F : α → Value} {a : Option Addr} {n c : Nat} {m : List α} (ho : Own w B e F a n c m) (hs : SK B g h l P E w w') : Own w' B e F a n c m := by
  obtain ⟨⟨h0, h2⟩, h3⟩ := ho
  refine ⟨⟨h0, ?_⟩, h3⟩
  rcases h2 with h2 | ⟨g, cap, cur, hv, hb, hh, r⟩
  · exact .inl h2
  · exact .inr ⟨g, cap, cur, hv, hb, (hs.2.1.2 g hb (Array.getElem?_eq_some_iff.1 hh).1).trans hh, r⟩
/-- A slice of the call's own. -/
def OwnG {α : Type} (B : Nat) (e : TypeId) (F : α → Value) (m : List α) (v : Value) (w : World) : Prop := ∃ a n c, v = .slice a n c ∧ m.length = n ∧ n ≤ 1000000000001 ∧ Own w B e F a n c m
theorem monoSK_OC {α : Type} {e : TypeId} {F : α → Value} (m : List α) : MonoS (SK B g h l P E) (fun v w => OwnG B e F m v w ∧ CurOk w g l P E) := fun _ _ _ hh hs => by
  obtain ⟨⟨a, n, c, h1, h2, h2', h3⟩, h4⟩ := hh
  exact ⟨⟨a, n, c, h1, h2, h2', h3.sk hs⟩, hs.2.2.1 h4⟩
theorem monoSK_OR {α : Type} {e : TypeId} {F : α → Value} (m : List α) : MonoS (SK B g h l P E) (fun v w => OwnG B e F m v w ∧ RefOk w h l P E) := fun _ _ _ hh hs => by
  obtain ⟨⟨a, n, c, h1, h2, h2', h3⟩, h4⟩ := hh
  exact ⟨⟨a, n, c, h1, h2, h2', h3.sk hs⟩, hs.2.2.2 h4⟩
theorem IK.set (hi : IK B0 w0 X g h l p er P E j1 j2 L w) {k : Nat} (h1 : j1 ≠ k) (h2 : j2 ≠ k) : IK B0 w0 X g h l p er P E j1 j2 (setL L k) w := by
  unfold IK; rw [setL_ne h1, setL_ne h2]; exact hi
theorem IK.cur (hi : IK B0 w0 X g h l p er P E j1 j2 L w) (hL : L j1 = false) : CurOk w g l p er := by
  have := hi.1; rw [hL] at this; exact this
theorem IK.ref (hi : IK B0 w0 X g h l p er P E j1 j2 L w) (hL : L j2 = false) : RefOk w h l p er := by
  have := hi.2.1; rw [hL] at this; exact this
theorem IK.gl (hi : IK B0 w0 X g h l p er P E j1 j2 L w) : g < w.heap.size ∧ h < w.heap.size := ⟨hi.1.lt2, hi.2.1.lt2⟩
theorem IK.c (hi : IK B0 w0 X g h l p er P E j1 j2 L w) (hc : CurOk w' g l P E) (hg : w.grownBy w' (some g)) (h12 : j2 ≠ j1) (hgh : h ≠ g) (hX : X w → X w') (hB0 : B0 ≤ g) (hB0s : B0 ≤ w.heap.size) (hB : g < B) : SK B g h l P E w w' ∧ IK B0 w0 X g h l p er P E j1 j2 (setL L j1) w' := by
  have hk := keep_of_grown hg hi.1.nobyte2
  refine ⟨⟨hk, ⟨hg.size, fun k h1 h2 => hg.block k h2 (by simp; omega)⟩, fun _ => hc, fun hr => hr.keep2 hk hg hgh⟩, ?_, ?_, hX hi.2.2.1, ?_⟩
  · rw [setL_same]; exact hc
  · rw [setL_ne h12]; exact hi.2.1.keep2 hk hg hgh
  · exact ⟨hg.os.trans hi.2.2.2.os, hg.tape.trans hi.2.2.2.tape, hg.output.trans hi.2.2.2.output, Nat.le_trans hi.2.2.2.size hg.size, fun j hj => (hg.block j (by omega) (by simp; omega)).trans (hi.2.2.2.block j hj)⟩
theorem IK.r (hi : IK B0 w0 X g h l p er P E j1 j2 L w) (hc : RefOk w' h l P E) (hg : w.grownBy w' (some h)) (h12 : j1 ≠ j2) (hgh : g ≠ h) (hX : X w → X w') (hB0 : B0 ≤ h) (hB0s : B0 ≤ w.heap.size) (hB : h < B) : SK B g h l P E w w' ∧ IK B0 w0 X g h l p er P E j1 j2 (setL L j2) w' := by
  have hk := keep_of_grown hg (by obtain ⟨a, n, c, hb, _⟩ := hi.2.1.ex; exact blk_nobyte hb)
  refine ⟨⟨hk, ⟨hg.size, fun k h1 h2 => hg.block k h2 (by simp; omega)⟩, fun hr => hr.keep2 hk hg hgh, fun _ => hc⟩, ?_, ?_, hX hi.2.2.1, ?_⟩
  · rw [setL_ne h12]; exact hi.1.keep2 hk hg hgh
  · rw [setL_same]; exact hc
  · exact ⟨hg.os.trans hi.2.2.2.os, hg.tape.trans hi.2.2.2.tape, hg.output.trans hi.2.2.2.output, Nat.le_trans hi.2.2.2.size hg.size, fun j hj => (hg.block j (by omega) (by simp; omega)).trans (hi.2.2.2.block j hj)⟩
/-- A step that only adds blocks. -/
theorem IK.b (hi : IK B0 w0 X g h l p er P E j1 j2 L w) {k : Nat} (hb : Below w.heap.size w w') (h1 : j1 ≠ k) (h2 : j2 ≠ k) (hX : X w → X w') (hB0s : B0 ≤ w.heap.size) : SK B g h l P E w w' ∧ IK B0 w0 X g h l p er P E j1 j2 (setL L k) w' := by
  refine ⟨SK.below hb, ?_⟩
  unfold IK
  rw [setL_ne h1, setL_ne h2]
  exact ⟨hi.1.below hb, hi.2.1.below hb, hX hi.2.2.1, hi.2.2.2.trans (hb.mono hB0s)⟩
end
end Go.Proofs.Ytbknkahakmfhkaa
