/- The reader of instructions: keys and targets, one by one. -/
import Derived.Test.YtgcdeadfkljeaaaOpsC
import Derived.Test.YtgcdeadfkljeaaaPreE
import Derived.Deep.AppendLies
namespace Go.Proofs.Ytgcdeadfkljeaaa
open Go.RowKit
set_option linter.unusedVariables false
set_option linter.unusedSimpArgs false

/-- append(s, x): s is owned; it tells where the new row lies. -/
theorem wpList_pushL {P : Program} {ops : Array Oper} {rest : List Oper} {o : Oper} {a : Act} {w : World} {Q : Exit → Act → World → Prop} {α : Type} {E : α → Value} {T e : TypeId} {z : Value} {bytes base : Nat}
    (hT : SlT P T e z 1 bytes) (hgd : o.guard = none) (s x : Operand)
    (ho : o.op = .call { callee := .builtin .append, args := #[s, x], argTypes := #[T, T] })
    {w0 : World} {ob : Obj} (hw : w = w0.alloc ob)
    {p : Option Addr} {n c : Nat} {l : List α} (hs : a.eval s = .slice p n c) (hown : Own w0 base e E p n c l)
    (y : α) (ad : Addr) (hx : a.eval x = .slice (some ad) 1 1) (hc : w.cell? ad = some (E y)) (h1 : (E y).oneCell' = true)
    (hlen : (n + 1) * bytes ≤ 140737488355328) (hlen2 : n + 1 ≤ maxLen) (hbase : base ≤ w0.heap.size)
    (h : ∀ g c' w', Own w' base e E (some ⟨g, 0, none⟩) (n + 1) c' (l ++ [y]) → w0.grownBy w' (Value.slice p n c).ownBlock → ((Value.slice p n c).ownBlock = some g ∨ w0.heap.size ≤ g) → wpList P ops Q rest (a.put o.dst (.slice (some ⟨g, 0, none⟩) (n + 1) c')) w') :
    wpList P ops Q (o :: rest) a w := by
  subst hw
  obtain ⟨i, hi, hz0, hz1, hz2⟩ := info_parts hT.info
  have ho2 := hown.1.alloc ob
  refine wpList_append_lies (P := P) (w := w0.alloc ob) hgd s x T ho base e i z 1 bytes hT.under hi hz0 hz1 hz2 hT.zsize (by decide) _ n _ hs ho2 ad 1 1 [E y] hx rfl ?_ ?_ (by decide) hlen2 hlen (by simp; omega) (w0.heap.size + 1) (by simp) ?_
  · intro j u hu
    cases j with
    | zero => simp at hu; subst hu; simpa [Addr.add] using hc
    | succ j => simp at hu
  · intro u hu; simp at hu; subst hu; exact h1
  · intro g c' w' hr hg hat hlt
    refine h g c' w' ⟨by simpa using hr, by simp [hown.2]⟩ ⟨hg.os, hg.tape, hg.output, Nat.le_trans (by simp) hg.size, fun k hk hne => (hg.block k (by simp; omega) hne).trans (Below.heap_alloc _ _ _ hk)⟩ ?_
    rcases hat with h | h
    · exact .inl h
    · exact .inr (by omega)
/-- A step that is read: the reader, the step's block, its keys, its targets. -/
structure StR (w : World) (gr gc gs B : Nat) (L : List UInt8) (s : CS) (st : StepK) (ka : Option Addr) (kn kc : Nat) (ta : Option Addr) (tn tc : Nat) : Prop where
  rd : RSt w gr gc L s
  blk : Blk w gs STO (stC st (.slice ka kn kc) (.slice ta tn tc))
  keys : Own w B 3 nE ka kn kc st.keys
  tgts : Own w B 3 nE ta tn tc st.tgts
  apart : ∀ b, (Value.slice ka kn kc).ownBlock = some b → (Value.slice ta tn tc).ownBlock ≠ some b
  le : gc < gs ∧ gs ≠ gr ∧ gr < B ∧ gs < B ∧ B ≤ w.heap.size
section
variable {w w' : World} {gr gc gs B : Nat} {L : List UInt8} {s s' : CS} {st : StepK} {ka : Option Addr} {kn kc : Nat} {ta : Option Addr} {tn tc : Nat}
theorem ownB_some (g n c : Nat) : (Value.slice (some ⟨g, 0, none⟩) n c).ownBlock = some g := by simp [Value.ownBlock]
theorem StR.below (h : StR w gr gc gs B L s st ka kn kc ta tn tc) (hb : Below w.heap.size w w') : StR w' gr gc gs B L s st ka kn kc ta tn tc :=
  ⟨h.rd.below hb, h.blk.below hb, h.keys.below hb, h.tgts.below hb, h.apart, h.le.1, h.le.2.1, h.le.2.2.1, h.le.2.2.2.1, Nat.le_trans h.le.2.2.2.2 hb.size⟩
theorem StR.moved (h : StR w gr gc gs B L s st ka kn kc ta tn tc) (hr : RSt w' gr gc L s') (hg : w.grownBy w' (some gc)) : StR w' gr gc gs B L s' st ka kn kc ta tn tc := by
  have hle := h.le
  have hne := h.rd.ne
  refine ⟨hr, h.blk.grown hg (fun e => by have := Option.some.inj e; omega), h.keys.grown hg (fun g e1 e2 => ?_), h.tgts.grown hg (fun g e1 e2 => ?_), h.apart, hle.1, hle.2.1, hle.2.2.1, hle.2.2.2.1, Nat.le_trans hle.2.2.2.2 hg.size⟩
  · subst e1; have := (h.keys.1.lt g (ownB_some _ _ _)).1; have := Option.some.inj e2; omega
  · subst e1; have := (h.tgts.1.lt g (ownB_some _ _ _)).1; have := Option.some.inj e2; omega
/-- A key more. -/
theorem StR.pushK (h : StR w gr gc gs B L s st ka kn kc ta tn tc) {g c' : Nat} {y : Int} (h1 : Own w' B 3 nE (some ⟨g, 0, none⟩) (kn + 1) c' (st.keys ++ [y])) (hg : w.grownBy w' (Value.slice ka kn kc).ownBlock) (hat : (Value.slice ka kn kc).ownBlock = some g ∨ w.heap.size ≤ g) :
    Blk w' gs STO (stC st (.slice ka kn kc) (.slice ta tn tc)) ∧ StR (w'.setCell ⟨gs, 6, none⟩ (.slice (some ⟨g, 0, none⟩) (kn + 1) c')) gr gc gs B L s { st with keys := st.keys ++ [y] } (some ⟨g, 0, none⟩) (kn + 1) c' ta tn tc ∧ ∀ (w0 : World) (S : List Nat), Gx w0 w S → w0.heap.size ≤ B → gs ∈ S → Gx w0 (w'.setCell ⟨gs, 6, none⟩ (.slice (some ⟨g, 0, none⟩) (kn + 1) c')) S := by
  have hle := h.le
  have hne := h.rd.ne
  have hfar : ∀ k, (Value.slice ka kn kc).ownBlock = some k → B ≤ k := fun k hk => (h.keys.1.lt k hk).1
  have hb := h.blk.grown hg (fun e => by have := hfar gs e.symm; omega)
  have hg2 := grownBy_setCell w' ⟨gs, 6, none⟩ (.slice (some ⟨g, 0, none⟩) (kn + 1) c')
  have hr1 := h.rd.later hg (fun k hk => by have := hfar k hk; omega)
  have hr2 := hr1.later hg2 (fun k hk => by have := Option.some.inj hk; simp only at this; omega)
  have ht : Own w' B 3 nE ta tn tc st.tgts := h.tgts.grown hg (fun b e1 e2 => by subst e1; exact h.apart b e2.symm (ownB_some _ _ _))
  refine ⟨hb, ⟨hr2, hb.setCell 6 _, h1.setCell_below (by simp only; omega) _, ht.setCell_below (by simp only; omega) _, fun b e1 e2 => ?_, hle.1, hle.2.1, hle.2.2.1, hle.2.2.2.1, Nat.le_trans hle.2.2.2.2 (Nat.le_trans hg.size hg2.size)⟩, ?_⟩
  · rw [ownB_some] at e1
    have e1 := Option.some.inj e1
    subst e1
    rcases hat with hat | hat
    · exact h.apart g hat e2
    · have := (h.tgts.1.lt g e2).2; omega
  · intro w0 S hG hB hS
    have g1 : Gx w0 w' S := ⟨hg.os.trans hG.os, hg.tape.trans hG.tape, hg.output.trans hG.output, Nat.le_trans hG.size hg.size, fun k hk hn => (hg.block k (Nat.lt_of_lt_of_le hk hG.size) (fun e => by have := hfar k e.symm; omega)).trans (hG.block k hk hn)⟩
    exact g1.trans ((Gx.of_grown hg2).mono (by simpa using hS))
/-- A target more. -/
theorem StR.pushT (h : StR w gr gc gs B L s st ka kn kc ta tn tc) {g c' : Nat} {y : Int} (h1 : Own w' B 3 nE (some ⟨g, 0, none⟩) (tn + 1) c' (st.tgts ++ [y])) (hg : w.grownBy w' (Value.slice ta tn tc).ownBlock) (hat : (Value.slice ta tn tc).ownBlock = some g ∨ w.heap.size ≤ g) :
    Blk w' gs STO (stC st (.slice ka kn kc) (.slice ta tn tc)) ∧ StR (w'.setCell ⟨gs, 7, none⟩ (.slice (some ⟨g, 0, none⟩) (tn + 1) c')) gr gc gs B L s { st with tgts := st.tgts ++ [y] } ka kn kc (some ⟨g, 0, none⟩) (tn + 1) c' ∧ ∀ (w0 : World) (S : List Nat), Gx w0 w S → w0.heap.size ≤ B → gs ∈ S → Gx w0 (w'.setCell ⟨gs, 7, none⟩ (.slice (some ⟨g, 0, none⟩) (tn + 1) c')) S := by
  have hle := h.le
  have hne := h.rd.ne
  have hfar : ∀ k, (Value.slice ta tn tc).ownBlock = some k → B ≤ k := fun k hk => (h.tgts.1.lt k hk).1
  have hb := h.blk.grown hg (fun e => by have := hfar gs e.symm; omega)
  have hg2 := grownBy_setCell w' ⟨gs, 7, none⟩ (.slice (some ⟨g, 0, none⟩) (tn + 1) c')
  have hr1 := h.rd.later hg (fun k hk => by have := hfar k hk; omega)
  have hr2 := hr1.later hg2 (fun k hk => by have := Option.some.inj hk; simp only at this; omega)
  have ht : Own w' B 3 nE ka kn kc st.keys := h.keys.grown hg (fun b e1 e2 => by subst e1; exact h.apart b (ownB_some _ _ _) e2.symm)
  refine ⟨hb, ⟨hr2, hb.setCell 7 _, ht.setCell_below (by simp only; omega) _, h1.setCell_below (by simp only; omega) _, fun b e1 e2 => ?_, hle.1, hle.2.1, hle.2.2.1, hle.2.2.2.1, Nat.le_trans hle.2.2.2.2 (Nat.le_trans hg.size hg2.size)⟩, ?_⟩
  · rw [ownB_some] at e2
    have e2 := Option.some.inj e2
    subst e2
    rcases hat with hat | hat
    · exact h.apart g e1 hat
    · have := (h.keys.1.lt g e1).2; omega
  · intro w0 S hG hB hS
    have g1 : Gx w0 w' S := ⟨hg.os.trans hG.os, hg.tape.trans hG.tape, hg.output.trans hG.output, Nat.le_trans hG.size hg.size, fun k hk hn => (hg.block k (Nat.lt_of_lt_of_le hk hG.size) (fun e => by have := hfar k e.symm; omega)).trans (hG.block k hk hn)⟩
    exact g1.trans ((Gx.of_grown hg2).mono (by simpa using hS))
end
end Go.Proofs.Ytgcdeadfkljeaaa
