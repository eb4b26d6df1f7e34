/- Two appends in one drawn region: with the two assignments. -/
import Derived.Test.YtmmgcfhoigpomaaTwoApp
import Derived.Test.YtmmgcfhoigpomaaGrowN
namespace Go.Proofs.Ytmmgcfhoigpomaa
open Go.RowKit
set_option linter.unusedVariables false
set_option linter.unusedSimpArgs false
section
variable {I : (Nat → Bool) → Act → World → Prop} {P : Program} {ops : Array Oper} {Q : Exit → Act → World → Prop} {a : Act} {o : Oper} {rest : List Oper} {done : List (Nat × Spec)} {k : Nat}
/-- An operation whose value and world are told by the frame and the world. -/
theorem ga_to (V : Act → World → Value) (W : World → World)
    (h1 : ∀ (a' : Act) (w' : World) (L : Nat → Bool), a'.tmps.size = a.tmps.size → L k = false → (∀ e ∈ o.after, Region.binds .any e = true → L e.on = true) → I L a' w' → (∀ t ∈ o.looksAt ops, KnownAt done a a' w' t) →
      Region.wanted o (yielded ops a'.tmps) = true ∧ (execOp a'.eval o).run P w' = .ok (.value (V a' w')) (W w') ∧ I (setL L k) (a'.put o.dst (V a' w')) (W w'))
    (h : GWA TS I P ops Q a (k + 1) rest (consD o (fun _ _ => True) done)) : GWA TS I P ops Q a k (o :: rest) done := by
  refine ga_op (fun _ _ => True) monoT_any (fun a' w' L hsz hL haf hi hk => ?_) h
  obtain ⟨h2, h3, h4⟩ := h1 a' w' L hsz hL haf hi hk
  refine ⟨h2, ?_⟩
  unfold Oper.wp
  rw [h3]
  exact ⟨_, rfl, trivial, h4⟩
end
def I3 (B : Nat) (w0 : World) (r : Nat) (T : TypeId) (cs : Array Value) (n1 c1 : Nat) (l1 : List Int) (y1 : Int) (P1 : Option Addr) (n2 c2 : Nat) (l2 : List Int) (y2 : Int) (P2 : Option Addr) (s1 s1' s2 s2' d1 d2 : Nat) (L : Nat → Bool) (a : Act) (w : World) : Prop :=
  I2 B w0 r T cs n1 c1 l1 y1 P1 n2 c2 l2 y2 P2 s1 s1' s2 s2' L a w ∧ (L 10 = true → L 4 = true ∧ a.tmps.getD d1 undef = a.tmps.getD s1' undef) ∧ (L 11 = true → L 9 = true ∧ a.tmps.getD d2 undef = a.tmps.getD s2' undef)
section
variable {B : Nat} {w0 : World} {r : Nat} {T : TypeId} {cs : Array Value} {n1 c1 : Nat} {l1 : List Int} {y1 : Int} {P1 : Option Addr} {n2 c2 : Nat} {l2 : List Int} {y2 : Int} {P2 : Option Addr} {s1 s1' s2 s2' d1 d2 : Nat} {L : Nat → Bool} {a : Act} {w w' : World}
theorem up_setL {k j : Nat} (h : L j = true) : setL L k j = true := by simp [setL, h]
theorem I3.step (h : I3 B w0 r T cs n1 c1 l1 y1 P1 n2 c2 l2 y2 P2 s1 s1' s2 s2' d1 d2 L a w) {k : Nat} {dst : Option Tmp} {V : Value} (h2 : I2 B w0 r T cs n1 c1 l1 y1 P1 n2 c2 l2 y2 P2 s1 s1' s2 s2' (setL L k) (a.put dst V) w') (k10 : 10 ≠ k) (k11 : 11 ≠ k) (e1 : dst ≠ some d1) (e2 : dst ≠ some d2) (f1 : dst ≠ some s1' ∨ L 4 = false) (f2 : dst ≠ some s2' ∨ L 9 = false) : I3 B w0 r T cs n1 c1 l1 y1 P1 n2 c2 l2 y2 P2 s1 s1' s2 s2' d1 d2 (setL L k) (a.put dst V) w' := by
  refine ⟨h2, fun hh => ?_, fun hh => ?_⟩
  · rw [setL_ne k10] at hh
    obtain ⟨g1, g2⟩ := h.2.1 hh
    rcases f1 with f1 | f1
    · exact ⟨up_setL g1, by rw [getD_put_ne e1, getD_put_ne f1]; exact g2⟩
    · rw [f1] at g1; cases g1
  · rw [setL_ne k11] at hh
    obtain ⟨g1, g2⟩ := h.2.2 hh
    rcases f2 with f2 | f2
    · exact ⟨up_setL g1, by rw [getD_put_ne e2, getD_put_ne f2]; exact g2⟩
    · rw [f2] at g1; cases g1
theorem getD_put_own {a : Act} {d : Nat} {V : Value} (h : d < a.tmps.size) : (a.put (some d) V).tmps.getD d undef = V := by
  unfold Act.put; simp [Array.getD, h]
theorem I3.set1 (h : I3 B w0 r T cs n1 c1 l1 y1 P1 n2 c2 l2 y2 P2 s1 s1' s2 s2' d1 d2 L a w) (hL4 : L 4 = true) (e : d1 ≠ s1 ∧ d1 ≠ s1' ∧ d1 ≠ s2 ∧ d1 ≠ s2' ∧ d1 ≠ d2) (hsz : d1 < a.tmps.size) : I3 B w0 r T cs n1 c1 l1 y1 P1 n2 c2 l2 y2 P2 s1 s1' s2 s2' d1 d2 (setL L 10) (a.put (some d1) (a.tmps.getD s1' undef)) w := by
  obtain ⟨e1, e2, e3, e4, e5⟩ := e
  refine ⟨h.1.pure (by decide) (by decide) (by decide) (by decide) (by simpa using e1) (by simpa using e2) (by simpa using e3) (by simpa using e4) _, fun _ => ⟨up_setL hL4, ?_⟩, fun hh => ?_⟩
  · rw [getD_put_own hsz, getD_put_ne (by simpa using e2)]
  · rw [setL_ne (by decide)] at hh
    obtain ⟨g1, g2⟩ := h.2.2 hh
    exact ⟨up_setL g1, by rw [getD_put_ne (by simpa using e5), getD_put_ne (by simpa using e4)]; exact g2⟩
theorem I3.set2 (h : I3 B w0 r T cs n1 c1 l1 y1 P1 n2 c2 l2 y2 P2 s1 s1' s2 s2' d1 d2 L a w) (hL4 : L 9 = true) (e : d2 ≠ s1 ∧ d2 ≠ s1' ∧ d2 ≠ s2 ∧ d2 ≠ s2' ∧ d2 ≠ d1) (hsz : d2 < a.tmps.size) : I3 B w0 r T cs n1 c1 l1 y1 P1 n2 c2 l2 y2 P2 s1 s1' s2 s2' d1 d2 (setL L 11) (a.put (some d2) (a.tmps.getD s2' undef)) w := by
  obtain ⟨e1, e2, e3, e4, e5⟩ := e
  refine ⟨h.1.pure (by decide) (by decide) (by decide) (by decide) (by simpa using e1) (by simpa using e2) (by simpa using e3) (by simpa using e4) _, fun hh => ?_, fun _ => ⟨up_setL hL4, ?_⟩⟩
  · rw [setL_ne (by decide)] at hh
    obtain ⟨g1, g2⟩ := h.2.1 hh
    exact ⟨up_setL g1, by rw [getD_put_ne (by simpa using e5), getD_put_ne (by simpa using e2)]; exact g2⟩
  · rw [getD_put_own hsz, getD_put_ne (by simpa using e4)]
/-- All done. -/
theorem I3.done (h : I3 B w0 r T cs n1 c1 l1 y1 P1 n2 c2 l2 y2 P2 s1 s1' s2 s2' d1 d2 L a w) (hL : ∀ j, j < 12 → L j = true) : ∃ p1 p2 k1 k2, a.tmps.getD d1 undef = .slice p1 (n1 + 1) k1 ∧ a.tmps.getD d2 undef = .slice p2 (n2 + 1) k2 ∧ Own w B 3 iR p1 (n1 + 1) k1 (l1 ++ [y1]) ∧ Own w B 3 iR p2 (n2 + 1) k2 (l2 ++ [y2]) ∧ (∀ g, p1 = some ⟨g, 0, none⟩ → p2 ≠ some ⟨g, 0, none⟩) ∧ Blk w r T cs ∧ Below B w0 w := by
  obtain ⟨⟨p1, p2, q1, q2, h1, h2, h3, h4, h5, h6⟩, h7, h8⟩ := h
  obtain ⟨k1, o1, e1⟩ := h1.2.1 (hL 4 (by omega))
  obtain ⟨k2, o2, e2⟩ := h2.2.1 (hL 9 (by omega))
  exact ⟨p1, p2, k1, k2, by rw [(h7 (hL 10 (by omega))).2, e1], by rw [(h8 (hL 11 (by omega))).2, e2], o1, o2, fun g hg => (h3.1 g hg).1, h4, h5⟩
theorem I3.start (ho1 : Own w B 3 iR P1 n1 c1 l1) (ho2 : Own w B 3 iR P2 n2 c2 l2) (hd : ∀ g, P1 = some ⟨g, 0, none⟩ → P2 ≠ some ⟨g, 0, none⟩) (hr1 : ∀ g, P1 = some ⟨g, 0, none⟩ → g ≠ r) (hr2 : ∀ g, P2 = some ⟨g, 0, none⟩ → g ≠ r) (hb : Blk w r T cs) (hB : Below B w0 w) (hBs : B ≤ w.heap.size) : I3 B w0 r T cs n1 c1 l1 y1 P1 n2 c2 l2 y2 P2 s1 s1' s2 s2' d1 d2 (fun _ => false) a w := by
  refine ⟨⟨P1, P2, none, none, ⟨fun _ => ⟨rfl, ho1⟩, (fun hh => by cases hh), (fun hh => by cases hh), (fun hh => by cases hh), (fun g hg => by cases hg)⟩, ⟨fun _ => ⟨rfl, ho2⟩, (fun hh => by cases hh), (fun hh => by cases hh), (fun hh => by cases hh), (fun g hg => by cases hg)⟩, ⟨fun g hg => ⟨hd g hg, by simp, by simp, hr1 g hg⟩, fun g hg => ⟨by simp, by simp, hr2 g hg⟩⟩, hb, hB, hBs⟩, (fun hh => by cases hh), (fun hh => by cases hh)⟩
end
end Go.Proofs.Ytmmgcfhoigpomaa
