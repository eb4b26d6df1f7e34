/- Two appends in one drawn region: signs, more = append(signs, x), append(more, y). -/
import Derived.Test.YtmmgcfhoigpomaaRunsI
import Derived.Test.YtmmgcfhoigpomaaAppA
namespace Go.Proofs.Ytmmgcfhoigpomaa
open Go.RowKit
set_option linter.unusedVariables false
set_option linter.unusedSimpArgs false

section
variable {P : Program} {w : World} {ops : Array Oper} {rest : List Oper} {o : Oper} {a : Act} {Q : Exit → Act → World → Prop} {α : Type} {E : α → Value} {T e : TypeId} {z : Value} {bytes base : Nat}
/-- append(s, x) at any world; where the new row lies. -/
theorem wpList_pushAt (hT : SlT P T e z 1 bytes) (hz1 : z.cells = #[z]) (hgd : o.guard = none) (s x : Operand)
    (ho : o.op = .call { callee := .builtin .append, args := #[s, x], argTypes := #[T, T] })
    {p : Option Addr} {n c : Nat} {l : List α} (hs : a.eval s = .slice p n c) (hown : Own w base e E p n c l)
    (y : α) (ad : Addr) (hx : a.eval x = .slice (some ad) 1 1) (hc : w.cell? ad = some (E y)) (h1 : (E y).oneCell' = true)
    (hlen : (n + 1) * bytes ≤ 140737488355328) (hlen2 : n + 1 ≤ maxLen) (hbase : base ≤ w.heap.size)
    (h : ∀ p' c' w', Own w' base e E p' (n + 1) c' (l ++ [y]) → w.grownBy w' (Value.slice p n c).ownBlock → (p' = p ∨ ∃ g, p' = some ⟨g, 0, none⟩ ∧ w.heap.size ≤ g) → wpList P ops Q rest (a.put o.dst (.slice p' (n + 1) c')) w') :
    wpList P ops Q (o :: rest) a w := by
  have hle := hown.le_cap
  obtain ⟨ti, hti, hz0, hz2, hz3⟩ := info_parts hT.info
  have hcs1 : ∀ j v, ([E y])[j]? = some v → w.cell? (ad.add j) = some v := by
    intro j v hv
    cases j with
    | zero => simp at hv; subst hv; simpa [Addr.add] using hc
    | succ j => simp at hv
  by_cases hroom : n + 1 ≤ c
  · have hl := hown.2
    obtain ⟨⟨h1', h2⟩, h3⟩ := hown
    rcases h2 with ⟨h4, h5⟩ | ⟨g, cap, cur, hv, hg, hh, hnc, hcm, hcs, htake⟩
    · simp only [Value.slice.injEq] at h4; omega
    · simp only [Value.slice.injEq] at hv
      obtain ⟨rfl, -, rfl⟩ := hv
      have hrun := run_append_room (P := P) (ty := o.type) w T e ti hT.under hti g n c cur hh ad 1 1 [E y] (by rw [hz2]; rfl) hcs1 (by intro u hu; simp at hu; subst hu; exact h1) hroom (by rw [hz2]; simp; omega)
      refine Lib.wpList_append_run w hgd s x T T ho _ _ hs hx _ _ hrun (h _ _ _ ⟨⟨by simp [hl], .inr ⟨g, c, _, rfl, hg, setRow_heap _ g cur _ e (0, 0) hh, hroom, hcm, ?_, ?_⟩⟩, by simp [hl]⟩ (grownBy_setRow w g _) (.inl rfl))
      · have hcl : cur.toList.length = c := by simpa using hcs
        rw [hz2]; simp; omega
      · have hcl : cur.toList.length = c := by simpa using hcs
        rw [hz2]
        simp only [Nat.mul_one, List.length_cons, List.length_nil] at htake ⊢
        rw [List.take_append_of_le_length (by simp; simp at hcl; omega), List.take_of_length_le (by simp; omega), htake]
        simp
  · have hcn : c = n := by omega
    subst hcn
    have hl := hown.2
    have hr := hown.rd
    have hmax := hlen2
    unfold maxLen at hlen2
    have hold : (Builtin.firstCells ti.size c (.slice p c c)).run P w.drew = .ok (l.map E).toArray w.drew := by
      rw [hz2]; exact firstCells_rd (P := P) (w := w.drew) (c := c) hl hr.drew
    have hnew : (Builtin.firstCells ti.size 1 (.slice (some ad) 1 1)).run P w.drew = .ok #[E y] w.drew := by
      rw [hz2]; exact run_firstCells_some (P := P) w.drew 1 1 ad 1 1 [E y] rfl hcs1
    have hn : ¬ (c + 1 ≤ c) := by omega
    have h63 : ¬ (9223372036854775807 < ((c : Int) + 1)) := by omega
    have hfit : ¬ (281474976710656 < Builtin.nextslicecap (c + 1) c * ti.bytes) := by
      have := growslice_fits (need := c + 1) (old := c) (bytes := ti.bytes) (by omega) (by rw [hz3]; exact hlen)
      omega
    have hrun : (Builtin.append_ #[T, T] o.type #[.slice p c c, .slice (some ad) 1 1]).run P w =
        .ok (.slice (some ⟨w.heap.size, 0, none⟩) (c + 1) (grownCap w (c + 1) c e)) (w.drew.alloc (.cells ((l.map E).toArray ++ #[E y] ++ Builtin.zeroCells z.cells (grownCap w (c + 1) c e - (c + 1))) e)) := by
      simp [Builtin.append_, run_underlying hT.under, sizeOf, typeInfo, zeroValue, hti, hz0, Builtin.lenOf, hn, h63, hfit, Question.forced, hold, hnew, newRow, grownCap]
    have hB : Below w.heap.size w (w.drew.alloc (.cells ((l.map E).toArray ++ #[E y] ++ Builtin.zeroCells z.cells (grownCap w (c + 1) c e - (c + 1))) e)) := by
      have hb : Below w.heap.size w w.drew := (Below.refl _ _).drew
      exact hb.alloc (by simp) _
    refine Lib.wpList_append_run w hgd s x T T ho _ _ hs hx _ _ hrun (h _ _ _ ⟨⟨by simp [hl], .inr ⟨w.heap.size, _, _, rfl, hbase, heap_alloc_new w.drew _, grownCap_ge _ _ _ _, grownCap_le_maxLen _ _ _ _ hmax, ?_, ?_⟩⟩, by simp [hl]⟩ (grownBy_of_below _ hB) (.inr ⟨_, rfl, Nat.le_refl _⟩))
    · have := grownCap_ge w (c + 1) c e
      rw [hz1, zeroCells_one]; simp [hl]; omega
    · rw [hz1, zeroCells_one]
      simp only [Array.toList_append, Array.toList_replicate, List.append_assoc, Nat.mul_one]
      rw [← List.append_assoc, List.take_append_of_le_length (by simp [hl]), List.take_of_length_le (by simp [hl])]
      simp
end

theorem own_lt {w : World} {B n c : Nat} {l : List Int} {p : Option Addr} (h : Own w B 3 iR p n c l) : ∀ g, p = some ⟨g, 0, none⟩ → g < w.heap.size ∧ B ≤ g := by
  intro g hg
  rcases h.blk with ⟨h1, _⟩ | ⟨q, h1, h2, h3⟩
  · rw [h1] at hg; cases hg
  · rw [h1] at hg; simp at hg; subst hg; exact ⟨h3, h2⟩
/-- One of the two: operation k3 lays the element (slot s), k4 appends (slot s'). -/
def Side (B n c : Nat) (l : List Int) (y : Int) (P0 : Option Addr) (k3 k4 s s' : Nat) (L : Nat → Bool) (a : Act) (w : World) (p : Option Addr) (q : Option Nat) : Prop :=
  (L k4 = false → p = P0 ∧ Own w B 3 iR P0 n c l) ∧ (L k4 = true → ∃ c', Own w B 3 iR p (n + 1) c' (l ++ [y]) ∧ a.tmps.getD s' undef = .slice p (n + 1) c') ∧
  (L k3 = true → L k4 = false → ∃ g, q = some g ∧ a.tmps.getD s undef = .slice (some ⟨g, 0, none⟩) 1 1 ∧ w.cell? ⟨g, 0, none⟩ = some (iR y)) ∧ (L k4 = true → L k3 = true) ∧ (∀ g, q = some g → g < w.heap.size)
section
variable {B n c : Nat} {l : List Int} {y : Int} {P0 : Option Addr} {k3 k4 s s' : Nat} {L : Nat → Bool} {a : Act} {w w' : World} {p : Option Addr} {q : Option Nat}
theorem Side.plt (h : Side B n c l y P0 k3 k4 s s' L a w p q) : ∀ g, p = some ⟨g, 0, none⟩ → g < w.heap.size ∧ B ≤ g := by
  cases hL : L k4 with
  | false => obtain ⟨rfl, h1⟩ := h.1 hL; exact own_lt h1
  | true => obtain ⟨c', h1, _⟩ := h.2.1 hL; exact own_lt h1
theorem Side.pure (h : Side B n c l y P0 k3 k4 s s' L a w p q) {k : Nat} (h3 : k3 ≠ k) (h4 : k4 ≠ k) {dst : Option Tmp} (hs : dst ≠ some s) (hs' : dst ≠ some s') (V : Value) : Side B n c l y P0 k3 k4 s s' (setL L k) (a.put dst V) w p q := by
  unfold Side
  rw [setL_ne h3, setL_ne h4, getD_put_ne hs, getD_put_ne hs']
  exact h
theorem Side.below (h : Side B n c l y P0 k3 k4 s s' L a w p q) (hb : Below w.heap.size w w') : Side B n c l y P0 k3 k4 s s' L a w' p q := by
  obtain ⟨h1, h2, h3, h4, h5⟩ := h
  refine ⟨fun hh => ⟨(h1 hh).1, (h1 hh).2.below hb⟩, fun hh => ?_, fun ha hh => ?_, h4, fun g hg => Nat.lt_of_lt_of_le (h5 g hg) hb.size⟩
  · obtain ⟨c', e1, e2⟩ := h2 hh; exact ⟨c', e1.below hb, e2⟩
  · obtain ⟨g, e1, e2, e3⟩ := h3 ha hh
    exact ⟨g, e1, e2, (hb.cell (p := ⟨g, 0, none⟩) (h5 g e1)).trans e3⟩
theorem Side.grown (h : Side B n c l y P0 k3 k4 s s' L a w p q) {row : Option Nat} (hg : w.grownBy w' row) (hp : ∀ g, p = some ⟨g, 0, none⟩ → some g ≠ row) (hq : ∀ g, q = some g → some g ≠ row) : Side B n c l y P0 k3 k4 s s' L a w' p q := by
  obtain ⟨h1, h2, h3, h4, h5⟩ := h
  refine ⟨fun hh => ?_, fun hh => ?_, fun ha hh => ?_, h4, fun g hg' => Nat.lt_of_lt_of_le (h5 g hg') hg.size⟩
  · obtain ⟨rfl, e1⟩ := h1 hh; exact ⟨rfl, e1.grown hg hp⟩
  · obtain ⟨c', e1, e2⟩ := h2 hh; exact ⟨c', e1.grown hg hp, e2⟩
  · obtain ⟨g, e1, e2, e3⟩ := h3 ha hh
    exact ⟨g, e1, e2, hg.cell e3 (by simpa using hq g e1)⟩
theorem Side.lay (h : Side B n c l y P0 k3 k4 s s' L a w p q) (hL : L k3 = false) (h34 : k4 ≠ k3) (hss : s ≠ s') (hsz : s < a.tmps.size) : Side B n c l y P0 k3 k4 s s' (setL L k3) (a.put (some s) (.slice (some ⟨w.heap.size, 0, none⟩) 1 1)) (w.alloc (.cells #[iR y] 3)) p (some w.heap.size) := by
  have h4f : L k4 = false := by
    cases hh : L k4 with
    | false => rfl
    | true => rw [h.2.2.2.1 hh] at hL; cases hL
  unfold Side
  rw [setL_same, setL_ne h34, h4f]
  refine ⟨fun _ => ⟨(h.1 h4f).1, (h.1 h4f).2.alloc _⟩, (fun hh => by cases hh), fun _ _ => ⟨_, rfl, ?_, cell_push rfl _ _⟩, fun _ => rfl, fun g hg => by simp at hg; subst hg; simp⟩
  unfold Act.put
  simp [Array.getD, hsz]
theorem Side.app (h : Side B n c l y P0 k3 k4 s s' L a w p q) (hL3 : L k3 = true) (h34 : k3 ≠ k4) (hsz : s' < a.tmps.size) {p' : Option Addr} {c' : Nat} (hown : Own w' B 3 iR p' (n + 1) c' (l ++ [y])) (hws : w.heap.size ≤ w'.heap.size) : Side B n c l y P0 k3 k4 s s' (setL L k4) (a.put (some s') (.slice p' (n + 1) c')) w' p' q := by
  unfold Side
  rw [setL_same, setL_ne h34, hL3]
  refine ⟨(fun hh => by cases hh), fun _ => ⟨c', hown, ?_⟩, (fun _ hh => by cases hh), fun _ => rfl, fun g hg => Nat.lt_of_lt_of_le (h.2.2.2.2 g hg) hws⟩
  unfold Act.put
  simp [Array.getD, hsz]
end
def Dis (p1 p2 : Option Addr) (q1 q2 : Option Nat) (r : Nat) : Prop := (∀ g, p1 = some ⟨g, 0, none⟩ → p2 ≠ some ⟨g, 0, none⟩ ∧ q1 ≠ some g ∧ q2 ≠ some g ∧ g ≠ r) ∧ (∀ g, p2 = some ⟨g, 0, none⟩ → q1 ≠ some g ∧ q2 ≠ some g ∧ g ≠ r)
def I2 (B : Nat) (w0 : World) (r : Nat) (T : TypeId) (cs : Array Value) (n1 c1 : Nat) (l1 : List Int) (y1 : Int) (P1 : Option Addr) (n2 c2 : Nat) (l2 : List Int) (y2 : Int) (P2 : Option Addr) (s1 s1' s2 s2' : Nat) (L : Nat → Bool) (a : Act) (w : World) : Prop :=
  ∃ p1 p2 q1 q2, Side B n1 c1 l1 y1 P1 3 4 s1 s1' L a w p1 q1 ∧ Side B n2 c2 l2 y2 P2 8 9 s2 s2' L a w p2 q2 ∧ Dis p1 p2 q1 q2 r ∧ Blk w r T cs ∧ Below B w0 w ∧ B ≤ w.heap.size
section
variable {B : Nat} {w0 : World} {r : Nat} {T : TypeId} {cs : Array Value} {n1 c1 : Nat} {l1 : List Int} {y1 : Int} {P1 : Option Addr} {n2 c2 : Nat} {l2 : List Int} {y2 : Int} {P2 : Option Addr} {s1 s1' s2 s2' : Nat} {L : Nat → Bool} {a : Act} {w w' : World}
theorem I2.blk (h : I2 B w0 r T cs n1 c1 l1 y1 P1 n2 c2 l2 y2 P2 s1 s1' s2 s2' L a w) : Blk w r T cs := by
  obtain ⟨_, _, _, _, _, _, _, hb, _⟩ := h; exact hb
theorem I2.pure (h : I2 B w0 r T cs n1 c1 l1 y1 P1 n2 c2 l2 y2 P2 s1 s1' s2 s2' L a w) {k : Nat} (k3 : 3 ≠ k) (k4 : 4 ≠ k) (k8 : 8 ≠ k) (k9 : 9 ≠ k) {dst : Option Tmp} (d1 : dst ≠ some s1) (d2 : dst ≠ some s1') (d3 : dst ≠ some s2) (d4 : dst ≠ some s2') (V : Value) : I2 B w0 r T cs n1 c1 l1 y1 P1 n2 c2 l2 y2 P2 s1 s1' s2 s2' (setL L k) (a.put dst V) w := by
  obtain ⟨p1, p2, q1, q2, h1, h2, h3⟩ := h
  exact ⟨p1, p2, q1, q2, h1.pure k3 k4 d1 d2 V, h2.pure k8 k9 d3 d4 V, h3⟩
theorem I2.lay1 (h : I2 B w0 r T cs n1 c1 l1 y1 P1 n2 c2 l2 y2 P2 s1 s1' s2 s2' L a w) (hL : L 3 = false) (d1 : s1 ≠ s1') (d2 : s1 ≠ s2) (d3 : s1 ≠ s2') (hsz : s1 < a.tmps.size) : I2 B w0 r T cs n1 c1 l1 y1 P1 n2 c2 l2 y2 P2 s1 s1' s2 s2' (setL L 3) (a.put (some s1) (.slice (some ⟨w.heap.size, 0, none⟩) 1 1)) (w.alloc (.cells #[iR y1] 3)) := by
  obtain ⟨p1, p2, q1, q2, h1, h2, h3, h4, h5, h6⟩ := h
  have hp1 := h1.plt
  have hp2 := h2.plt
  refine ⟨p1, p2, some w.heap.size, q2, h1.lay hL (by decide) d1 hsz, (h2.pure (by decide) (by decide) (by simpa using d2) (by simpa using d3) _).below (below_alloc _ _), ⟨fun g hg => ⟨(h3.1 g hg).1, by have := hp1 g hg; simp; omega, (h3.1 g hg).2.2⟩, fun g hg => ⟨by have := hp2 g hg; simp; omega, (h3.2 g hg).2⟩⟩, h4.alloc _, h5.alloc h6 _, by simp; omega⟩
theorem I2.lay2 (h : I2 B w0 r T cs n1 c1 l1 y1 P1 n2 c2 l2 y2 P2 s1 s1' s2 s2' L a w) (hL : L 8 = false) (d1 : s2 ≠ s2') (d2 : s2 ≠ s1) (d3 : s2 ≠ s1') (hsz : s2 < a.tmps.size) : I2 B w0 r T cs n1 c1 l1 y1 P1 n2 c2 l2 y2 P2 s1 s1' s2 s2' (setL L 8) (a.put (some s2) (.slice (some ⟨w.heap.size, 0, none⟩) 1 1)) (w.alloc (.cells #[iR y2] 3)) := by
  obtain ⟨p1, p2, q1, q2, h1, h2, h3, h4, h5, h6⟩ := h
  have hp1 := h1.plt
  have hp2 := h2.plt
  refine ⟨p1, p2, q1, some w.heap.size, (h1.pure (by decide) (by decide) (by simpa using d2) (by simpa using d3) _).below (below_alloc _ _), h2.lay hL (by decide) d1 hsz, ⟨fun g hg => ⟨(h3.1 g hg).1, (h3.1 g hg).2.1, by have := hp1 g hg; simp; omega, (h3.1 g hg).2.2.2⟩, fun g hg => ⟨(h3.2 g hg).1, by have := hp2 g hg; simp; omega, (h3.2 g hg).2.2⟩⟩, h4.alloc _, h5.alloc h6 _, by simp; omega⟩
theorem own_block_of {p : Option Addr} {n c : Nat} {l : List Int} (h : Own w B 3 iR p n c l) : ∀ k, (Value.slice p n c).ownBlock = some k → p = some ⟨k, 0, none⟩ := by
  intro k hk
  rcases h.blk with ⟨h1, _⟩ | ⟨q, h1, h2, h3⟩
  · rw [h1] at hk; simp [Value.ownBlock] at hk
  · rw [h1] at hk ⊢; simp [Value.ownBlock] at hk; rw [hk]
theorem I2.app1 (h : I2 B w0 r T cs n1 c1 l1 y1 P1 n2 c2 l2 y2 P2 s1 s1' s2 s2' L a w) (hL3 : L 3 = true) (hL4 : L 4 = false) (d2 : s1' ≠ s2) (d3 : s1' ≠ s2') (hsz : s1' < a.tmps.size) {p' : Option Addr} {c' : Nat} (hown : Own w' B 3 iR p' (n1 + 1) c' (l1 ++ [y1])) (hg : w.grownBy w' (Value.slice P1 n1 c1).ownBlock) (hp' : p' = P1 ∨ ∃ g, p' = some ⟨g, 0, none⟩ ∧ w.heap.size ≤ g) :
    I2 B w0 r T cs n1 c1 l1 y1 P1 n2 c2 l2 y2 P2 s1 s1' s2 s2' (setL L 4) (a.put (some s1') (.slice p' (n1 + 1) c')) w' := by
  obtain ⟨p1, p2, q1, q2, h1, h2, h3, h4, h5, h6⟩ := h
  obtain ⟨rfl, ho⟩ := h1.1 hL4
  have hob := own_block_of ho
  have hp1 := h1.plt
  have hp2 := h2.plt
  have hq1 := h1.2.2.2.2
  have hq2 := h2.2.2.2.2
  have hr := h4.lt
  have h2' := (h2.grown hg (fun g hgg e => (h3.1 g (hob g e.symm)).1 hgg) (fun g hgg e => (h3.1 g (hob g e.symm)).2.2.1 hgg))
  refine ⟨p', p2, q1, q2, h1.app hL3 (by decide) hsz hown hg.size, h2'.pure (by decide) (by decide) (by simpa using d2) (by simpa using d3) _, ?_, h4.grown hg (fun e => (h3.1 r (hob r e.symm)).2.2.2 rfl), h5.grown hg h6 (fun k hk => (hp1 k (hob k hk)).2), Nat.le_trans h6 hg.size⟩
  rcases hp' with rfl | ⟨g', rfl, hge⟩
  · exact h3
  · refine ⟨fun g hgg => ?_, h3.2⟩
    simp at hgg
    subst hgg
    exact ⟨fun e => by have := hp2 _ e; omega, fun e => by have := hq1 _ e; omega, fun e => by have := hq2 _ e; omega, by omega⟩
theorem I2.app2 (h : I2 B w0 r T cs n1 c1 l1 y1 P1 n2 c2 l2 y2 P2 s1 s1' s2 s2' L a w) (hL3 : L 8 = true) (hL4 : L 9 = false) (d2 : s2' ≠ s1) (d3 : s2' ≠ s1') (hsz : s2' < a.tmps.size) {p' : Option Addr} {c' : Nat} (hown : Own w' B 3 iR p' (n2 + 1) c' (l2 ++ [y2])) (hg : w.grownBy w' (Value.slice P2 n2 c2).ownBlock) (hp' : p' = P2 ∨ ∃ g, p' = some ⟨g, 0, none⟩ ∧ w.heap.size ≤ g) :
    I2 B w0 r T cs n1 c1 l1 y1 P1 n2 c2 l2 y2 P2 s1 s1' s2 s2' (setL L 9) (a.put (some s2') (.slice p' (n2 + 1) c')) w' := by
  obtain ⟨p1, p2, q1, q2, h1, h2, h3, h4, h5, h6⟩ := h
  obtain ⟨rfl, ho⟩ := h2.1 hL4
  have hob := own_block_of ho
  have hp1 := h1.plt
  have hp2 := h2.plt
  have hq1 := h1.2.2.2.2
  have hq2 := h2.2.2.2.2
  have hr := h4.lt
  have h1' := (h1.grown hg (fun g hgg e => (h3.1 g hgg).1 (hob g e.symm)) (fun g hgg e => (h3.2 g (hob g e.symm)).1 hgg))
  refine ⟨p1, p', q1, q2, h1'.pure (by decide) (by decide) (by simpa using d2) (by simpa using d3) _, h2.app hL3 (by decide) hsz hown hg.size, ?_, h4.grown hg (fun e => (h3.2 r (hob r e.symm)).2.2 rfl), h5.grown hg h6 (fun k hk => (hp2 k (hob k hk)).2), Nat.le_trans h6 hg.size⟩
  rcases hp' with rfl | ⟨g', rfl, hge⟩
  · exact h3
  · refine ⟨fun g hgg => ⟨fun e => ?_, (h3.1 g hgg).2⟩, fun g hgg => ?_⟩
    · simp at e; have := hp1 _ hgg; omega
    · simp at hgg
      subst hgg
      exact ⟨fun e => by have := hq1 _ e; omega, fun e => by have := hq2 _ e; omega, by omega⟩
end
end Go.Proofs.Ytmmgcfhoigpomaa
