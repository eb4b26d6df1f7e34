/- Steps of a drawn region with an invariant of the frame too; x.f = append(x.f, y) in a drawn order. -/
import Derived.Test.YtgcdeadfkljeaaaGrowA
import Derived.Test.YtgcdeadfkljeaaaGrowI
import Derived.Test.YtgcdeadfkljeaaaBuf
namespace Go.Proofs.Ytgcdeadfkljeaaa
open Go.RowKit
set_option linter.unusedVariables false
set_option linter.unusedSimpArgs false
abbrev TS : World → World → Prop := fun _ _ => True
section
variable {I : (Nat → Bool) → Act → World → Prop} {P : Program} {ops : Array Oper} {Q : Exit → Act → World → Prop} {a : Act} {o : Oper} {rest : List Oper} {done : List (Nat × Spec)} {k : Nat}
theorem monoT_eq (V : Value) : MonoS TS (fun v _ => v = V) := fun _ _ _ h _ => h
theorem monoT_any : MonoS TS (fun _ _ => True) := fun _ _ _ _ _ => trivial
/-- An operation whose value is told outright, and that leaves the world alone. -/
theorem ga_val (V : Value) (hI : ∀ (L : Nat → Bool) (a' : Act) (w' : World), L k = false → (∀ e ∈ o.after, Region.binds .any e = true → L e.on = true) → I L a' w' → I (setL L k) (a'.put o.dst V) w')
    (h1 : ∀ (a' : Act) (w' : World) (L : Nat → Bool), L k = false → (∀ e ∈ o.after, Region.binds .any e = true → L e.on = true) → I L a' w' → (∀ t ∈ o.looksAt ops, KnownAt done a a' w' t) → Region.wanted o (yielded ops a'.tmps) = true ∧ (execOp a'.eval o).run P w' = .ok (.value V) w')
    (h : GWA TS I P ops Q a (k + 1) rest (consD o (fun v _ => v = V) done)) : GWA TS I P ops Q a k (o :: rest) done := by
  refine ⟨_, monoT_eq V, fun a' w' L _ hL haf hi hk => ?_, h⟩
  obtain ⟨h2, h3⟩ := h1 a' w' L hL haf hi hk
  rw [if_pos h2]
  unfold Oper.wp
  rw [h3]
  exact ⟨V, rfl, rfl, trivial, hI _ _ _ hL haf hi⟩
/-- An operation that changes the world. -/
theorem ga_op (G : Spec) (hm : MonoS TS G)
    (h1 : ∀ (a' : Act) (w' : World) (L : Nat → Bool), a'.tmps.size = a.tmps.size → L k = false → (∀ e ∈ o.after, Region.binds .any e = true → L e.on = true) → I L a' w' → (∀ t ∈ o.looksAt ops, KnownAt done a a' w' t) →
      Region.wanted o (yielded ops a'.tmps) = true ∧ o.wp P a' w' (fun a'' w'' => ∃ v, a'' = a'.put o.dst v ∧ G v w'' ∧ I (setL L k) a'' w'') (fun _ _ _ => False))
    (h : GWA TS I P ops Q a (k + 1) rest (consD o G done)) : GWA TS I P ops Q a k (o :: rest) done := by
  refine ⟨G, hm, fun a' w' L hsz hL haf hi hk => ?_, h⟩
  obtain ⟨h2, h3⟩ := h1 a' w' L hsz hL haf hi hk
  rw [if_pos h2]
  exact wp_of_false h3 fun a'' w'' ⟨v, e, hg, hI⟩ => ⟨v, e, hg, trivial, hI⟩
end

/-- What was done of x.f = append(x.f, y): operation 10 lays y, 11 appends, 14 stores. -/
def IApp (wz : World) (R : Option Addr → Nat → World → Prop) (n1 : Nat) (y : Value) (e : TypeId) (g s11 : Nat) (L : Nat → Bool) (a : Act) (w : World) : Prop :=
  ((L 10 = true → L 9 = true) ∧ (L 9 = true → L 8 = true)) ∧ (L 11 = true → L 10 = true ∧ L 4 = true) ∧ (L 14 = true → L 11 = true) ∧
  (L 10 = false → w = wz) ∧ (L 10 = true → L 11 = false → w = wz.alloc (.cells #[y] e)) ∧
  (L 11 = true → L 14 = false → ∃ p c, R p c w ∧ a.tmps.getD s11 undef = .slice p n1 c) ∧
  (L 14 = true → ∃ p c w1, R p c w1 ∧ w = w1.setCell ⟨g, 0, none⟩ (.slice p n1 c))
section
variable {wz : World} {R : Option Addr → Nat → World → Prop} {n1 : Nat} {y : Value} {e : TypeId} {g s11 : Nat} {L : Nat → Bool} {a : Act} {w : World}
theorem IApp.start : IApp wz R n1 y e g s11 (fun _ => false) a wz :=
  ⟨⟨by simp, by simp⟩, by simp, by simp, fun _ => rfl, by simp, by simp, by simp⟩
theorem IApp.pure (h : IApp wz R n1 y e g s11 L a w) {k : Nat} (h0 : 9 ≠ k) (h1 : 10 ≠ k) (h2 : 11 ≠ k) (h3 : 14 ≠ k) {dst : Option Tmp} (hd : dst ≠ some s11) (V : Value) : IApp wz R n1 y e g s11 (setL L k) (a.put dst V) w := by
  obtain ⟨i1, i2, i3, i4, i5, i6, i7⟩ := h
  unfold IApp
  rw [setL_ne h0, setL_ne h1, setL_ne h2, setL_ne h3, getD_put_ne hd]
  have up : ∀ j, L j = true → setL L k j = true := fun j hj => by simp [setL, hj]
  exact ⟨⟨i1.1, fun h => up _ (i1.2 h)⟩, fun h => ⟨(i2 h).1, up _ (i2 h).2⟩, i3, i4, i5, i6, i7⟩
theorem IApp.pure9 (h : IApp wz R n1 y e g s11 L a w) (h8 : L 8 = true) {dst : Option Tmp} (hd : dst ≠ some s11) (V : Value) : IApp wz R n1 y e g s11 (setL L 9) (a.put dst V) w := by
  obtain ⟨i1, i2, i3, i4, i5, i6, i7⟩ := h
  unfold IApp
  rw [setL_same, setL_ne (show (8 : Nat) ≠ 9 by decide), setL_ne (show (4 : Nat) ≠ 9 by decide), setL_ne (show (10 : Nat) ≠ 9 by decide), setL_ne (show (11 : Nat) ≠ 9 by decide), setL_ne (show (14 : Nat) ≠ 9 by decide), getD_put_ne hd]
  exact ⟨⟨fun _ => rfl, fun _ => h8⟩, i2, i3, i4, i5, i6, i7⟩
theorem IApp.early (h : IApp wz R n1 y e g s11 L a w) (h4 : L 4 = false) : w = wz ∨ w = wz.alloc (.cells #[y] e) := by
  obtain ⟨i1, i2, i3, i4, i5, i6, i7⟩ := h
  have h11 : L 11 = false := by
    cases hh : L 11 with
    | false => rfl
    | true => rw [(i2 hh).2] at h4; cases h4
  cases h10 : L 10 with
  | false => exact .inl (i4 h10)
  | true => exact .inr (i5 h10 h11)
theorem IApp.first (h : IApp wz R n1 y e g s11 L a w) (h8 : L 8 = false) : w = wz := by
  obtain ⟨i1, i2, i3, i4, i5, i6, i7⟩ := h
  refine i4 ?_
  cases hh : L 10 with
  | false => rfl
  | true => rw [i1.2 (i1.1 hh)] at h8; cases h8
theorem IApp.lay0 (h : IApp wz R n1 y e g s11 L a w) (h10 : L 10 = false) : w = wz := h.2.2.2.1 h10
theorem IApp.lay (h : IApp wz R n1 y e g s11 L a w) (h10 : L 10 = false) (h9 : L 9 = true) {dst : Option Tmp} (hd : dst ≠ some s11) (V : Value) : IApp wz R n1 y e g s11 (setL L 10) (a.put dst V) (wz.alloc (.cells #[y] e)) := by
  obtain ⟨i1, i2, i3, i4, i5, i6, i7⟩ := h
  have h11 : L 11 = false := by
    cases hh : L 11 with
    | false => rfl
    | true => rw [(i2 hh).1] at h10; cases h10
  have h14 : L 14 = false := by
    cases hh : L 14 with
    | false => rfl
    | true => rw [i3 hh] at h11; cases h11
  unfold IApp
  rw [setL_same, setL_ne (show (11 : Nat) ≠ 10 by decide), setL_ne (show (14 : Nat) ≠ 10 by decide), setL_ne (show (8 : Nat) ≠ 10 by decide), setL_ne (show (9 : Nat) ≠ 10 by decide), h11, h14]
  refine ⟨⟨fun _ => h9, i1.2⟩, ?_, ?_, ?_, fun _ _ => rfl, ?_, ?_⟩ <;> intro hx <;> cases hx
theorem IApp.app0 (h : IApp wz R n1 y e g s11 L a w) (h11 : L 11 = false) (h10 : L 10 = true) : w = wz.alloc (.cells #[y] e) := h.2.2.2.2.1 h10 h11
theorem IApp.app (h : IApp wz R n1 y e g s11 L a w) (h11 : L 11 = false) (h10 : L 10 = true) (h4 : L 4 = true) (hs : s11 < a.tmps.size) {p : Option Addr} {c : Nat} {w' : World} (hR : R p c w') : IApp wz R n1 y e g s11 (setL L 11) (a.put (some s11) (.slice p n1 c)) w' := by
  obtain ⟨i1, i2, i3, i4, i5, i6, i7⟩ := h
  have h14 : L 14 = false := by
    cases hh : L 14 with
    | false => rfl
    | true => rw [i3 hh] at h11; cases h11
  unfold IApp
  rw [setL_same, setL_ne (show (10 : Nat) ≠ 11 by decide), setL_ne (show (14 : Nat) ≠ 11 by decide), setL_ne (show (8 : Nat) ≠ 11 by decide), setL_ne (show (9 : Nat) ≠ 11 by decide), setL_ne (show (4 : Nat) ≠ 11 by decide), h14, h10, h4, getD_put_same hs]
  refine ⟨⟨fun _ => i1.1 h10, i1.2⟩, fun _ => ⟨rfl, rfl⟩, ?_, ?_, ?_, fun _ _ => ⟨p, c, hR, rfl⟩, ?_⟩
  · intro hx; cases hx
  · intro hx; cases hx
  · intro _ hx; cases hx
  · intro hx; cases hx
theorem IApp.put0 (h : IApp wz R n1 y e g s11 L a w) (h14 : L 14 = false) (h11 : L 11 = true) : ∃ p c, R p c w ∧ a.tmps.getD s11 undef = .slice p n1 c := h.2.2.2.2.2.1 h11 h14
theorem IApp.store (h : IApp wz R n1 y e g s11 L a w) (h11 : L 11 = true) {p : Option Addr} {c : Nat} (hR : R p c w) (V : Value) : IApp wz R n1 y e g s11 (setL L 14) (a.put none V) (w.setCell ⟨g, 0, none⟩ (.slice p n1 c)) := by
  obtain ⟨i1, i2, i3, i4, i5, i6, i7⟩ := h
  have h10 := (i2 h11).1
  unfold IApp
  rw [setL_same, setL_ne (show (10 : Nat) ≠ 14 by decide), setL_ne (show (11 : Nat) ≠ 14 by decide), setL_ne (show (8 : Nat) ≠ 14 by decide), setL_ne (show (9 : Nat) ≠ 14 by decide), setL_ne (show (4 : Nat) ≠ 14 by decide), h11, h10]
  refine ⟨⟨fun _ => i1.1 h10, i1.2⟩, fun _ => ⟨rfl, (i2 h11).2⟩, fun _ => rfl, ?_, ?_, ?_, fun _ => ⟨p, c, w, hR, rfl⟩⟩
  · intro hx; cases hx
  · intro _ hx; cases hx
  · intro _ hx; cases hx
theorem IApp.fin (h : IApp wz R n1 y e g s11 L a w) (h14 : L 14 = true) : ∃ p c w1, R p c w1 ∧ w = w1.setCell ⟨g, 0, none⟩ (.slice p n1 c) := h.2.2.2.2.2.2 h14
end
end Go.Proofs.Ytgcdeadfkljeaaa
/- x.f = append(x.f, y) in a drawn order, y read of the same object. -/
namespace Go.Proofs.Ytgcdeadfkljeaaa
open Go.RowKit
set_option linter.unusedVariables false
set_option linter.unusedSimpArgs false

/-- Of two operations the second one was done where the first one was. -/
def Ch (ch : List (Nat × Nat)) (L : Nat → Bool) : Prop := ∀ x ∈ ch, L x.1 = true → L x.2 = true
theorem Ch.start (ch : List (Nat × Nat)) : Ch ch (fun _ => false) := fun _ _ h => by cases h
theorem Ch.set {ch : List (Nat × Nat)} {L : Nat → Bool} (h : Ch ch L) {k : Nat} (hk : ∀ x ∈ ch, x.1 = k → L x.2 = true) : Ch ch (setL L k) := by
  intro x hx h1
  have : L x.2 = true := by
    by_cases hxk : x.1 = k
    · exact hk x hx hxk
    · exact h x hx (by rwa [setL_ne hxk] at h1)
  simp [setL, this]
theorem Ch.not {ch : List (Nat × Nat)} {L : Nat → Bool} (h : Ch ch L) {a b : Nat} (hm : (a, b) ∈ ch) (hb : L b = false) : L a = false := by
  cases ha : L a with
  | false => rfl
  | true => rw [h (a, b) hm ha] at hb; cases hb
/-- What was done of x.f = append(x.f, y): operation kB lays y, kA appends, kS stores. -/
structure IAq (ch : List (Nat × Nat)) (wz : World) (R : Option Addr → Nat → World → Prop) (n1 : Nat) (y : Value) (e : TypeId) (g off sA kB kA kS : Nat) (L : Nat → Bool) (a : Act) (w : World) : Prop where
  ch : Ch ch L
  zero : L kB = false → w = wz
  laid : L kB = true → L kA = false → w = wz.alloc (.cells #[y] e)
  apd : L kA = true → L kS = false → ∃ p c, R p c w ∧ a.tmps.getD sA undef = .slice p n1 c
  fin : L kS = true → ∃ p c w1, R p c w1 ∧ w = w1.setCell ⟨g, off, none⟩ (.slice p n1 c)
section
variable {ch : List (Nat × Nat)} {wz : World} {R : Option Addr → Nat → World → Prop} {n1 : Nat} {y : Value} {e : TypeId} {g off sA kB kA kS : Nat} {L : Nat → Bool} {a : Act} {w : World}
theorem IAq.start (a : Act) (wz : World) : IAq ch wz R n1 y e g off sA kB kA kS (fun _ => false) a wz :=
  ⟨Ch.start _, fun _ => rfl, by simp, by simp, by simp⟩
theorem IAq.pure (h : IAq ch wz R n1 y e g off sA kB kA kS L a w) {k : Nat} (hB : kB ≠ k) (hA : kA ≠ k) (hS : kS ≠ k) (hk : ∀ x ∈ ch, x.1 = k → L x.2 = true) {dst : Option Tmp} (hd : dst ≠ some sA) (V : Value) : IAq ch wz R n1 y e g off sA kB kA kS (setL L k) (a.put dst V) w := by
  refine ⟨h.ch.set hk, ?_, ?_, ?_, ?_⟩
  · rw [setL_ne hB]; exact h.zero
  · rw [setL_ne hB, setL_ne hA]; exact h.laid
  · rw [setL_ne hA, setL_ne hS, getD_put_ne hd]; exact h.apd
  · rw [setL_ne hS]; exact h.fin
theorem IAq.early (h : IAq ch wz R n1 y e g off sA kB kA kS L a w) (hA : L kA = false) : w = wz ∨ w = wz.alloc (.cells #[y] e) := by
  cases hB : L kB with
  | false => exact .inl (h.zero hB)
  | true => exact .inr (h.laid hB hA)
theorem IAq.lay (h : IAq ch wz R n1 y e g off sA kB kA kS L a w) (hAB : (kA, kB) ∈ ch) (hSA : (kS, kA) ∈ ch) (hne : kA ≠ kB ∧ kS ≠ kB) (hB : L kB = false) (hk : ∀ x ∈ ch, x.1 = kB → L x.2 = true) {dst : Option Tmp} (hd : dst ≠ some sA) (V : Value) : IAq ch wz R n1 y e g off sA kB kA kS (setL L kB) (a.put dst V) (wz.alloc (.cells #[y] e)) := by
  have hA := h.ch.not hAB hB
  have hS := h.ch.not hSA hA
  refine ⟨h.ch.set hk, ?_, ?_, ?_, ?_⟩
  · rw [setL_same]; simp
  · intro _ _; rfl
  · rw [setL_ne hne.1, hA]; simp
  · rw [setL_ne hne.2, hS]; simp
theorem IAq.app (h : IAq ch wz R n1 y e g off sA kB kA kS L a w) (hSA : (kS, kA) ∈ ch) (hne : kB ≠ kA ∧ kS ≠ kA) (hA : L kA = false) (hk : ∀ x ∈ ch, x.1 = kA → L x.2 = true) (hB : L kB = true) (hs : sA < a.tmps.size) {p : Option Addr} {c : Nat} {w' : World} (hR : R p c w') : IAq ch wz R n1 y e g off sA kB kA kS (setL L kA) (a.put (some sA) (.slice p n1 c)) w' := by
  have hS := h.ch.not hSA hA
  refine ⟨h.ch.set hk, ?_, ?_, ?_, ?_⟩
  · rw [setL_ne hne.1, hB]; simp
  · rw [setL_same]; simp
  · intro _ _; exact ⟨p, c, hR, getD_put_same hs⟩
  · rw [setL_ne hne.2, hS]; simp
theorem IAq.store (h : IAq ch wz R n1 y e g off sA kB kA kS L a w) (hne : kB ≠ kS ∧ kA ≠ kS) (hk : ∀ x ∈ ch, x.1 = kS → L x.2 = true) (hB : L kB = true) (hA : L kA = true) {p : Option Addr} {c : Nat} (hR : R p c w) (V : Value) : IAq ch wz R n1 y e g off sA kB kA kS (setL L kS) (a.put none V) (w.setCell ⟨g, off, none⟩ (.slice p n1 c)) := by
  refine ⟨h.ch.set hk, ?_, ?_, ?_, ?_⟩
  · rw [setL_ne hne.1, hB]; simp
  · rw [setL_ne hne.1, setL_ne hne.2, hA]; simp
  · rw [setL_same]; simp
  · intro _; exact ⟨p, c, w, hR, rfl⟩
end
end Go.Proofs.Ytgcdeadfkljeaaa
