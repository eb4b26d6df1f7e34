/- More laws of ours on owned slices: stores, make, zeros behind. -/
import Derived.Test.YtgcdeadfkljeaaaLib
import Derived.Lib.AppendZerosOnto
namespace Go.Proofs.Ytgcdeadfkljeaaa
open Go.RowKit
set_option linter.unusedVariables false
set_option linter.unusedSimpArgs false

section
variable {α : Type} {w w' : World} {E : α → Value} {a : Option Addr} {l : List α} {base : Nat} {e : TypeId} {n c : Nat}

theorem Own.row (h : Own w base e E a n c l) (hn : 0 < n) : ∃ g, a = some ⟨g, 0, none⟩ ∧ base ≤ g ∧ g < w.heap.size ∧ (∀ j x, l[j]? = some x → w.cell? ⟨g, j, none⟩ = some (E x)) ∧ (∀ j, w.frozen? ⟨g, j, none⟩ = false) := by
  obtain ⟨⟨h1, h2⟩, h3⟩ := h
  rcases h2 with ⟨h4, h5⟩ | ⟨g, cap, cur, hv, hg, hh, hnc, hcm, hcs, htake⟩
  · omega
  · simp only [Value.slice.injEq] at hv
    obtain ⟨rfl, -, rfl⟩ := hv
    refine ⟨g, rfl, hg, (Array.getElem?_eq_some_iff.1 hh).1, fun j x hj => ?_, fun j => frozen_of_row w g j cur e hh⟩
    rw [cell_of_row w g j cur e (0, 0) hh]
    have hu : (l.map E)[j]? = some (E x) := by rw [List.getElem?_map, hj]; rfl
    rw [← htake, List.getElem?_take] at hu
    split at hu
    · simpa using hu
    · cases hu

theorem Own.at (h : Own w base e E a n c l) {i : Nat} (hi : i < n) : ∃ g y, a = some ⟨g, 0, none⟩ ∧ base ≤ g ∧ g < w.heap.size ∧ l[i]? = some y ∧ w.cell? ⟨g, i, none⟩ = some (E y) ∧ w.frozen? ⟨g, i, none⟩ = false := by
  obtain ⟨g, h1, h2, h3, h4, h5⟩ := h.row (by omega)
  have hl : i < l.length := by rw [h.2]; exact hi
  exact ⟨g, l[i], h1, h2, h3, by simp [hl], h4 i _ (by simp [hl]), h5 i⟩

theorem Own.set {g : Nat} (h : Own w base e E (some ⟨g, 0, none⟩) n c l) (i : Nat) (hi : i < n) (y : α) : Own (w.setCell ⟨g, i, none⟩ (E y)) base e E (some ⟨g, 0, none⟩) n c (l.set i y) := by
  obtain ⟨⟨h1, h2⟩, h3⟩ := h
  refine ⟨⟨by simpa using h1, ?_⟩, by simpa using h3⟩
  rcases h2 with ⟨h4, h5⟩ | ⟨g', cap, cur, hv, hg, hh, hnc, hcm, hcs, htake⟩
  · simp at h4
  · have hv' := hv
    simp only [Value.slice.injEq, Option.some.injEq, Addr.mk.injEq] at hv'
    obtain ⟨⟨rfl, _, _⟩, -, rfl⟩ := hv'
    refine .inr ⟨g, c, cur.setIfInBounds i (E y), rfl, hg, heap_setCell_same w g i cur e _ hh, hnc, hcm, by simpa using hcs, ?_⟩
    rw [Array.toList_setIfInBounds, List.map_set, ← htake, List.take_set]

theorem Own.setCell_ne {p : Addr} (h : Own w base e E a n c l) (hne : ∀ g, a = some ⟨g, 0, none⟩ → g ≠ p.block) (v : Value) : Own (w.setCell p v) base e E a n c l := by
  obtain ⟨⟨h1, h2⟩, h3⟩ := h
  refine ⟨⟨h1, ?_⟩, h3⟩
  rcases h2 with ⟨h4, h5⟩ | ⟨g, cap, cur, hv, hg, hh, r⟩
  · exact .inl ⟨h4, h5⟩
  · refine .inr ⟨g, cap, cur, hv, hg, ?_, r⟩
    simp only [Value.slice.injEq] at hv
    rw [Below.heap_setCell _ _ _ _ (hne g hv.1)]; exact hh

theorem Own.setCell_below {p : Addr} (h : Own w base e E a n c l) (hp : p.block < base) (v : Value) : Own (w.setCell p v) base e E a n c l :=
  ⟨ownsRow_setCell_below h.1 hp v, h.2⟩

theorem Own.grown {row : Option Nat} (h : Own w base e E a n c l) (hg : w.grownBy w' row) (hne : ∀ g, a = some ⟨g, 0, none⟩ → some g ≠ row) : Own w' base e E a n c l := by
  obtain ⟨⟨h1, h2⟩, h3⟩ := h
  refine ⟨⟨h1, ?_⟩, h3⟩
  rcases h2 with ⟨h4, h5⟩ | ⟨g, cap, cur, hv, hg', hh, r⟩
  · exact .inl ⟨h4, h5⟩
  · refine .inr ⟨g, cap, cur, hv, hg', ?_, r⟩
    simp only [Value.slice.injEq] at hv
    rw [hg.block g (Array.getElem?_eq_some_iff.1 hh).1 (hne g hv.1)]; exact hh

/-- The block number of an owned slice. -/
theorem Own.blk (h : Own w base e E a n c l) : a = none ∧ n = 0 ∧ c = 0 ∨ ∃ g, a = some ⟨g, 0, none⟩ ∧ base ≤ g ∧ g < w.heap.size := by
  obtain ⟨⟨h1, h2⟩, h3⟩ := h
  rcases h2 with ⟨h4, h5⟩ | ⟨g, cap, cur, hv, hg, hh, r⟩
  · simp only [Value.slice.injEq] at h4; exact .inl ⟨h4.1, h5, h4.2.2⟩
  · simp only [Value.slice.injEq] at hv
    exact .inr ⟨g, hv.1, hg, (Array.getElem?_eq_some_iff.1 hh).1⟩
end

section
variable {P : Program} {w : World} {ops : Array Oper} {rest : List Oper} {o : Oper} {a : Act} {Q : Exit → Act → World → Prop} {α : Type} {E : α → Value} {T e : TypeId} {z : Value} {bytes base : Nat}

theorem madeCells_one (v : Value) (n : Nat) : (madeCells #[v] n).toList = List.replicate n v := by
  apply List.ext_getElem?
  intro i
  simp only [madeCells, List.getElem?_replicate]
  by_cases h : i < n
  · simp [h, Nat.mod_one]
  · simp [h]

/-- make([]T, n). -/
theorem wpList_mk (hT : SlT P T e z 1 bytes) (hz1 : z.cells = #[z]) (hgd : o.guard = none) (x x' : Operand) (ho : o.op = .makeSlice T x x')
    {k k' : IntKind} {i i' : Int} (n : Nat) (hx : a.eval x = .int k i) (hx' : a.eval x' = .int k' i') (hi : i = (n : Int)) (hi' : i' = (n : Int)) (y : α) (hy : E y = z)
    (hlen : bytes * n ≤ 281474976710656) (hlen2 : n ≤ maxLen) (hbase : base ≤ w.heap.size)
    (h : ∀ p' w', Own w' base e E p' n n (List.replicate n y) → w.grownBy w' none → wpList P ops Q rest (a.put o.dst (.slice p' n n)) w') :
    wpList P ops Q (o :: rest) a w := by
  obtain ⟨ti, hti, hz0, hz2, hz3⟩ := info_parts hT.info
  subst hz3
  refine wpList_make_full (P := P) w hgd x x' T ho base e ti z 1 hT.under hti hz0 hz2 k k' i i' n hx hx' hi hi' hlen hlen2 hbase ?_
  intro w' hr hg
  refine h _ w' ⟨?_, by simp⟩ hg
  rw [hz1, Nat.mul_one, madeCells_one] at hr
  simpa [hy] using hr

theorem firstCells_own {w : World} {p : Option Addr} {n c : Nat} {l : List α} (hown : Own w base e E p n c l) : (Builtin.firstCells 1 n (.slice p n c)).run P w = .ok (l.map E).toArray w := by
  rcases hown.rd with h0 | ⟨b, off, rfl, hc⟩
  · subst h0
    have : n = 0 := by have := hown.2; simpa using this.symm
    subst this
    cases p with
    | none => simpa using run_firstCells_none (P := P) w 1 0 0 c
    | some b => simpa using run_firstCells_some (P := P) w 1 0 b 0 c [] (by simp) (by simp)
  · refine run_firstCells_some w 1 n _ n c (l.map E) (by simp [hown.2]) ?_
    intro j u hu
    rw [List.getElem?_map] at hu
    obtain ⟨y, hy, rfl⟩ := Option.map_eq_some_iff.1 hu
    rw [Addr.add_lit]; exact hc j y hy

theorem zeroCells_one (v : Value) (n : Nat) : Builtin.zeroCells #[v] n = Array.replicate n v := by
  apply Array.ext'
  have := madeCells_one v n
  simp only [madeCells, Builtin.zeroCells] at this ⊢
  simpa using this

/-- append(s, make([]T, k)...). -/
theorem wpList_zeros (hT : SlT P T e z 1 bytes) (hz1 : z.cells = #[z]) (hgd : o.guard = none) (s x : Operand) {tn : TypeId} {kn kq : IntKind} (htn : P.underlying tn = some (.int kn))
    (ho : o.op = .call { callee := .builtin .append, args := #[s, x], argTypes := #[T, tn] })
    {p : Option Addr} {n c : Nat} {l : List α} (hs : a.eval s = .slice p n c) (hown : Own w base e E p n c l)
    (k : Nat) {i : Int} (hx : a.eval x = .int kq i) (hik : i = (k : Int)) (h0 : 0 < k) (y : α) (hy : E y = z) (hone : z.oneCell' = true)
    (hlen : (n + k) * bytes ≤ 140737488355328) (hlen2 : n + k ≤ maxLen) (hbase : base ≤ w.heap.size)
    (h : ∀ p' c' w', Own w' base e E p' (n + k) c' (l ++ List.replicate k y) → w.grownBy w' (Value.slice p n c).ownBlock → wpList P ops Q rest (a.put o.dst (.slice p' (n + k) c')) w') :
    wpList P ops Q (o :: rest) a w := by
  obtain ⟨ti, hti, hz0, hz2, hz3⟩ := info_parts hT.info
  subst hik
  have hmax := hlen2
  unfold maxLen at hlen2
  have hk : k ≠ 0 := by omega
  have hw : IntKind.i64.wrap (k : Int) = k := by rw [IntKind.wrap_i64]; omega
  have h48i : ¬ (281474976710656 < (k : Int) * (ti.bytes : Int)) := by
    have : k * bytes ≤ (n + k) * bytes := Nat.mul_le_mul_right _ (by omega)
    rw [← Int.natCast_mul, hz3]
    omega
  have hneg : ¬ ((k : Int) < 0) := by omega
  have hns : ¬ (k * ti.size = 0) := Nat.mul_ne_zero hk (by omega)
  by_cases hroom : n + k ≤ c
  · rcases hown.1.2 with ⟨h4, h5⟩ | ⟨g, cap, cur, hv, hg', hh, hnc, hcm, hcs, htake⟩
    · simp only [Value.slice.injEq] at h4; omega
    · simp only [Value.slice.injEq] at hv
      obtain ⟨rfl, -, rfl⟩ := hv
      have hst := run_storeCells_at P g n e (List.replicate k z) 0 cur w hh (by simp; omega) (by intro v hv; rw [List.eq_of_mem_replicate hv]; exact hone)
      simp only [Nat.add_zero, List.length_replicate] at hst
      have hzc : (Builtin.zeroCells z.cells k).toList = List.replicate k z := by rw [hz1, zeroCells_one]; simp
      have hrun : (Builtin.append_ #[T, tn] o.type #[.slice (some ⟨g, 0, none⟩) n c, .int kq k]).run P w = .ok (.slice (some ⟨g, 0, none⟩) (n + k) c) (w.setRow g (cur.toList.take n ++ List.replicate k z ++ cur.toList.drop (n + k)).toArray) := by
        simp [Builtin.append_, run_underlying hT.under, run_underlying htn, sizeOf, typeInfo, zeroValue, hti, hz0, asInt, asIntOf, hw, hk, hneg, hns, h48i, hroom, Addr.add_lit, hz2, hzc, hst]
      refine Lib.wpList_append_run w hgd s x T tn ho _ _ hs hx _ _ hrun (h _ _ _ ⟨⟨by simp [hown.2], .inr ⟨g, c, _, rfl, hg', setRow_heap w g cur _ e (0, 0) hh, hroom, hcm, ?_, ?_⟩⟩, by simp [hown.2]⟩ (grownBy_setRow _ _ _))
      · have : cur.toList.length = c := by simpa using hcs
        simp; omega
      · have hlen' : (cur.toList.take n).length = n := by
          have : cur.toList.length = c := by simpa using hcs
          rw [List.length_take]; omega
        rw [Nat.mul_one] at htake
        simp only [Nat.mul_one]
        rw [List.take_append_of_le_length (by simp; simp at hlen'; omega), List.take_of_length_le (by simp; omega)]
        rw [htake]; simp [hy]
  · have hfit : Builtin.nextslicecap (n + k) c * ti.bytes ≤ 281474976710656 := growslice_fits (by omega) (by rw [hz3]; exact hlen)
    have hold := firstCells_own (P := P) (w := w.drew) (e := e) (E := E) (base := base) (l := l) ⟨hown.1.drew, hown.2⟩
    have hrun := Lib.run_append_grow_zeros (P := P) (ty := o.type) w T tn e ti z kq kn hT.under htn hti hz0 p n c (l.map E) (by rw [hz2]; exact hold) k h0 (by omega) (by omega) (by omega)
      (by rw [hz3]; have : k * bytes ≤ (n + k) * bytes := Nat.mul_le_mul_right _ (by omega); omega) hfit
    refine Lib.wpList_append_run w hgd s x T tn ho _ _ hs hx _ _ hrun (h _ _ _ ⟨⟨by simp [hown.2], .inr ⟨w.heap.size, _, _, rfl, hbase, heap_alloc_new w.drew _, grownCap_ge _ _ _ _, grownCap_le_maxLen _ _ _ _ hmax, ?_, ?_⟩⟩, by simp [hown.2]⟩ ?_)
    · have := grownCap_ge w (n + k) c e
      rw [hz1, zeroCells_one, zeroCells_one]; simp [hown.2]; omega
    · rw [hz1, zeroCells_one, zeroCells_one]
      simp only [Array.toList_append, Array.toList_replicate, List.append_assoc, Nat.mul_one]
      rw [← List.append_assoc, List.take_append_of_le_length (by simp [hown.2]), List.take_of_length_le (by simp [hown.2])]
      simp [hy]
    · exact ⟨rfl, rfl, rfl, by simp, fun j hj _ => heap_alloc_old w.drew _ hj⟩
end
end Go.Proofs.Ytgcdeadfkljeaaa
