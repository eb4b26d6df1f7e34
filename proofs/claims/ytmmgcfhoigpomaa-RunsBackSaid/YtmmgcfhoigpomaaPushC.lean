/- append(s, x) where the row holds no bytes: bytes elsewhere are kept. -/
import Derived.Test.YtmmgcfhoigpomaaBuf
import Derived.Test.YtmmgcfhoigpomaaKeep
namespace Go.Proofs.Ytmmgcfhoigpomaa
open Go.RowKit
set_option linter.unusedVariables false
set_option linter.unusedSimpArgs false

/-- The block's cells hold no bytes. -/
def Clean (w : World) (g : Nat) : Prop := ∀ off (z : UInt8), w.cell? ⟨g, off, none⟩ ≠ some (bE z)
/-- A slice whose row holds no bytes. -/
def CleanS (w : World) (p : Option Addr) : Prop := ∀ g, p = some ⟨g, 0, none⟩ → Clean w g
theorem keepBelow {w w' : World} (hb : Below w.heap.size w w') : ByteKeep w w' := fun b off x h => (hb.cell (p := ⟨b, off, none⟩) (World.block_lt_of_cell? w _ h)).trans h
theorem ByteKeep.trans {a b c : World} (h : ByteKeep a b) (k : ByteKeep b c) : ByteKeep a c := fun g off x hx => k g off x (h g off x hx)
theorem keep_setCell {w : World} {a : Addr} {v v0 : Value} (hs : a.spot = none) (h : w.cell? a = some v0) (hn : ∀ z : UInt8, v0 ≠ bE z) : ByteKeep w (w.setCell a v) := by
  intro b off x hx
  have hg := grownBy_setCell w a v
  by_cases hb : b = a.block
  · by_cases ho : off = a.off
    · have : (⟨b, off, none⟩ : Addr) = a := by cases a; simp_all
      rw [this, h] at hx
      injection hx with hx
      exact absurd hx (hn x)
    · have hne : (⟨b, off, none⟩ : Addr) ≠ a := fun e => ho (by rw [← e])
      have h1 : ∃ cs T fr, w.heap[a.block]? = some (.cells cs T fr) := by
        unfold World.cell? at h
        rw [hs] at h
        cases hh : w.heap[a.block]? with
        | none => rw [hh] at h; simp at h
        | some ob =>
          cases ob with
          | cells cs T fr => exact ⟨cs, T, fr, rfl⟩
          | _ => rw [hh] at h; simp at h
      obtain ⟨cs, T, fr, hc⟩ := h1
      subst hb
      rw [cell_of_row w a.block off cs T fr hc] at hx
      have ha : a = ⟨a.block, a.off, none⟩ := by cases a; simp_all
      rw [ha, setCell_eq_setRow w a.block a.off cs T fr v hc]
      rw [cell_of_row _ _ off _ T fr (setRow_heap w a.block _ _ T fr hc)]
      rw [Array.getElem?_setIfInBounds_ne (by omega)]
      exact hx
  · exact hg.cell hx (by simpa using hb)
theorem Clean.below {w w' : World} {g : Nat} (h : Clean w g) (hg : g < w.heap.size) (hb : Below w.heap.size w w') : Clean w' g := by
  intro off z he
  have := hb.block g hg
  have hc : w'.cell? ⟨g, off, none⟩ = w.cell? ⟨g, off, none⟩ := by unfold World.cell?; simp only [this]
  rw [hc] at he
  exact h off z he
theorem Clean.grown {w w' : World} {g : Nat} {row : Option Nat} (h : Clean w g) (hg : g < w.heap.size) (hb : w.grownBy w' row) (hne : some g ≠ row) : Clean w' g := by
  intro off z he
  have := hb.block g hg hne
  have hc : w'.cell? ⟨g, off, none⟩ = w.cell? ⟨g, off, none⟩ := by unfold World.cell?; simp only [this]
  rw [hc] at he
  exact h off z he
theorem clean_of_row {w : World} {g : Nat} {cs : Array Value} {T : TypeId} {fr : Nat × Nat} (hc : w.heap[g]? = some (.cells cs T fr)) (h : ∀ v ∈ cs.toList, ∀ z : UInt8, v ≠ bE z) : Clean w g := by
  intro off z he
  rw [cell_of_row w g off cs T fr hc, ← Array.getElem?_toList] at he
  exact h _ (List.mem_of_getElem? he) z rfl
theorem row_of_clean {w : World} {g : Nat} {cs : Array Value} {T : TypeId} {fr : Nat × Nat} (hc : w.heap[g]? = some (.cells cs T fr)) (h : Clean w g) : ∀ v ∈ cs.toList, ∀ z : UInt8, v ≠ bE z := by
  intro v hv z e
  obtain ⟨off, ho⟩ := List.mem_iff_getElem?.1 hv
  refine h off z ?_
  rw [cell_of_row w g off cs T fr hc, ← Array.getElem?_toList, ho, e]
section
variable {P : Program} {w : World} {ops : Array Oper} {rest : List Oper} {o : Oper} {a : Act} {Q : Exit → Act → World → Prop} {α : Type} {E : α → Value} {T e : TypeId} {z : Value} {bytes base : Nat}
theorem wpList_pushC (hT : SlT P T e z 1 bytes) (hz1 : z.cells = #[z]) (hgd : o.guard = none) (s x : Operand)
    (ho : o.op = .call { callee := .builtin .append, args := #[s, x], argTypes := #[T, T] })
    (hE : ∀ (y : α) (u : UInt8), E y ≠ bE u) (hz : ∀ u : UInt8, z ≠ bE u)
    {w0 : World} {ob : Obj} (hw : w = w0.alloc ob)
    {p : Option Addr} {n c : Nat} {l : List α} (hs : a.eval s = .slice p n c) (hown : Own w0 base e E p n c l) (hcl : CleanS w0 p)
    (y : α) (ad : Addr) (hx : a.eval x = .slice (some ad) 1 1) (hc : w.cell? ad = some (E y)) (h1 : (E y).oneCell' = true)
    (hlen : (n + 1) * bytes ≤ 140737488355328) (hlen2 : n + 1 ≤ maxLen) (hbase : base ≤ w0.heap.size)
    (h : ∀ p' c' w', Own w' base e E p' (n + 1) c' (l ++ [y]) → w0.grownBy w' (Value.slice p n c).ownBlock → CleanS w' p' → ByteKeep w0 w' → wpList P ops Q rest (a.put o.dst (.slice p' (n + 1) c')) w') :
    wpList P ops Q (o :: rest) a w := by
  have hle := hown.le_cap
  by_cases hroom : n + 1 ≤ c
  · subst hw
    obtain ⟨ti, hti, hz0, hz2, hz3⟩ := info_parts hT.info
    have hown' := hown.alloc ob
    obtain ⟨⟨h1', h2⟩, h3⟩ := hown'
    rcases h2 with ⟨h4, h5⟩ | ⟨g, cap, cur, hv, hg, hh, hnc, hcm, hcs, htake⟩
    · simp only [Value.slice.injEq] at h4; omega
    · simp only [Value.slice.injEq] at hv
      obtain ⟨rfl, -, rfl⟩ := hv
      have hl := hown.2
      have hrun := run_append_room (P := P) (ty := o.type) (w0.alloc ob) T e ti hT.under hti g n c cur hh ad 1 1 [E y] (by rw [hz2]; rfl) (by
        intro j v hv
        cases j with
        | zero => simp at hv; subst hv; simpa [Addr.add] using hc
        | succ j => simp at hv) (by intro u hu; simp at hu; subst hu; exact h1) hroom (by rw [hz2]; simp; omega)
      have hgl : g < w0.heap.size := by
        obtain ⟨⟨_, k2⟩, _⟩ := hown
        rcases k2 with ⟨k4, k5⟩ | ⟨g', cap', cur', kv, kg, kh, _⟩
        · simp only [Value.slice.injEq] at k4; simp at k4
        · simp only [Value.slice.injEq, Option.some.injEq, Addr.mk.injEq] at kv
          obtain ⟨⟨rfl, _⟩, _⟩ := kv
          exact (Array.getElem?_eq_some_iff.1 kh).1
      have hcl1 : Clean (w0.alloc ob) g := (hcl g rfl).below hgl (below_alloc w0 ob)
      have hk1 : ByteKeep w0 (w0.alloc ob) := keepBelow (below_alloc w0 ob)
      have hk2 := keep_of_grown (grownBy_setRow (w0.alloc ob) g ((cur.toList.take (n * ti.size) ++ [E y] ++ cur.toList.drop (n * ti.size + [E y].length)).toArray)) hcl1
      refine Lib.wpList_append_run (w0.alloc ob) hgd s x T T ho _ _ hs hx _ _ hrun (h _ _ _ ⟨⟨by simp [hl], .inr ⟨g, c, _, rfl, hg, setRow_heap _ g cur _ e (0, 0) hh, hroom, hcm, ?_, ?_⟩⟩, by simp [hl]⟩ ?_ ?_ (hk1.trans hk2))
      · have hcl : cur.toList.length = c := by simpa using hcs
        rw [hz2]; simp; omega
      · have hcl : cur.toList.length = c := by simpa using hcs
        rw [hz2]
        simp only [Nat.mul_one, List.length_cons, List.length_nil] at htake ⊢
        rw [List.take_append_of_le_length (by simp; simp at hcl; omega), List.take_of_length_le (by simp; omega), htake]
        simp
      · have h1 := World.grownBy_alloc w0 ob (some g)
        have h2 := grownBy_setRow (w0.alloc ob) g ((cur.toList.take (n * ti.size) ++ [E y] ++ cur.toList.drop (n * ti.size + [E y].length)).toArray)
        exact grownBy_trans h1 h2
      · intro g' hg'
        simp at hg'
        subst hg'
        refine clean_of_row (setRow_heap _ g cur _ e (0, 0) hh) ?_
        intro v hv u
        have hrow := row_of_clean hh hcl1
        simp only [List.mem_append, List.mem_singleton] at hv
        rcases hv with (hv | hv) | hv
        · exact hrow v (List.mem_of_mem_take hv) u
        · subst hv; exact hE y u
        · exact hrow v (List.mem_of_mem_drop hv) u
  · have hcn : c = n := by omega
    subst hcn
    subst hw
    have hl := hown.2
    have hr := hown.rd
    obtain ⟨ti, hti, hz0, hz2, hz3⟩ := info_parts hT.info
    have hmax := hlen2
    unfold maxLen at hlen2
    have hrd := hr.below (below_alloc w0 ob)
    have hold : (Builtin.firstCells ti.size c (.slice p c c)).run P (w0.alloc ob).drew = .ok (l.map E).toArray (w0.alloc ob).drew := by
      rw [hz2]; exact firstCells_rd (P := P) (w := (w0.alloc ob).drew) (c := c) hl hrd.drew
    have hnew : (Builtin.firstCells ti.size 1 (.slice (some ad) 1 1)).run P (w0.alloc ob).drew = .ok #[E y] (w0.alloc ob).drew := by
      rw [hz2]; exact run_firstCells_some (P := P) (w0.alloc ob).drew 1 1 ad 1 1 [E y] rfl (by
      intro j v hv
      cases j with
      | zero => simp at hv; subst hv; simpa [Addr.add] using hc
      | succ j => simp at hv)
    have hn : ¬ (c + 1 ≤ c) := by omega
    have h63 : ¬ (9223372036854775807 < ((c : Int) + 1)) := by omega
    have hfit : ¬ (281474976710656 < Builtin.nextslicecap (c + 1) c * ti.bytes) := by
      have := growslice_fits (need := c + 1) (old := c) (bytes := ti.bytes) (by omega) (by rw [hz3]; exact hlen)
      omega
    have hrun : (Builtin.append_ #[T, T] o.type #[.slice p c c, .slice (some ad) 1 1]).run P (w0.alloc ob) =
        .ok (.slice (some ⟨(w0.alloc ob).heap.size, 0, none⟩) (c + 1) (grownCap (w0.alloc ob) (c + 1) c e)) ((w0.alloc ob).drew.alloc (.cells ((l.map E).toArray ++ #[E y] ++ Builtin.zeroCells z.cells (grownCap (w0.alloc ob) (c + 1) c e - (c + 1))) e)) := by
      simp [Builtin.append_, run_underlying hT.under, sizeOf, typeInfo, zeroValue, hti, hz0, Builtin.lenOf, hn, h63, hfit, Question.forced, hold, hnew, newRow, grownCap]
    have hB : Below w0.heap.size w0 ((w0.alloc ob).drew.alloc (.cells ((l.map E).toArray ++ #[E y] ++ Builtin.zeroCells z.cells (grownCap (w0.alloc ob) (c + 1) c e - (c + 1))) e)) := by
      have hb : Below w0.heap.size (w0.alloc ob) (w0.alloc ob).drew := (Below.refl _ _).drew
      exact ((below_alloc w0 ob).trans hb).alloc (by simp) _
    refine Lib.wpList_append_run (w0.alloc ob) hgd s x T T ho _ _ hs hx _ _ hrun (h _ _ _ ⟨⟨by simp [hl], .inr ⟨(w0.alloc ob).heap.size, _, _, rfl, by simp; omega, heap_alloc_new (w0.alloc ob).drew _, grownCap_ge _ _ _ _, grownCap_le_maxLen _ _ _ _ hmax, ?_, ?_⟩⟩, by simp [hl]⟩ (grownBy_of_below _ hB) ?_ (keepBelow hB))
    · have := grownCap_ge (w0.alloc ob) (c + 1) c e
      rw [hz1, zeroCells_one]; simp [hl]; omega
    · rw [hz1, zeroCells_one]
      simp only [Array.toList_append, Array.toList_replicate, List.append_assoc, Nat.mul_one]
      rw [← List.append_assoc, List.take_append_of_le_length (by simp [hl]), List.take_of_length_le (by simp [hl])]
      simp
    · intro g' hg'
      simp at hg'
      subst hg'
      have hnw := heap_alloc_new (w0.alloc ob).drew (.cells ((l.map E).toArray ++ #[E y] ++ Builtin.zeroCells z.cells (grownCap (w0.alloc ob) (c + 1) c e - (c + 1))) e)
      refine clean_of_row (g := w0.heap.size + 1) (by simpa using hnw) ?_
      intro v hv u
      rw [hz1, zeroCells_one] at hv
      simp only [Array.toList_append, Array.toList_replicate, List.mem_append, List.mem_replicate] at hv
      rcases hv with (hv | hv) | hv
      · simp at hv
        obtain ⟨y', -, rfl⟩ := hv
        exact hE y' u
      · simp at hv; subst hv; exact hE y u
      · rw [hv.2]; exact hz u
end
end Go.Proofs.Ytmmgcfhoigpomaa
