/- Owned rows of m cells each; append of one. -/
import Derived.Test.YtgcdeadfkljeaaaLib
import Derived.Test.YtgcdeadfkljeaaaOwn2
import Derived.Test.YtgcdeadfkljeaaaRows
import Derived.Test.YtgcdeadfkljeaaaOpen
import Derived.Test.YtgcdeadfkljeaaaBuf
namespace Go.Proofs.Ytgcdeadfkljeaaa
open Go.RowKit
set_option linter.unusedVariables false
set_option linter.unusedSimpArgs false

/-- Owned: n rows of m cells. -/
def OwnR (w : World) (base : Nat) (e : TypeId) (m : Nat) (a : Option Addr) (n c : Nat) (rs : List (List Value)) : Prop :=
  w.ownsRow base e m (.slice a n c) n rs.flatten ∧ rs.length = n ∧ ∀ r ∈ rs, r.length = m
theorem OwnR.nil {w : World} {base m : Nat} {e : TypeId} : OwnR w base e m none 0 0 [] := ⟨World.ownsRow_nil _ _ _ _, rfl, fun _ h => by cases h⟩
theorem flat_len {m : Nat} : ∀ {rs : List (List Value)}, (∀ r ∈ rs, r.length = m) → rs.flatten.length = rs.length * m
  | [], _ => by simp
  | r :: rs, h => by
    rw [List.flatten_cons, List.length_append, h r (by simp), flat_len fun x hx => h x (List.mem_cons_of_mem _ hx), List.length_cons, Nat.add_mul]; omega
theorem flat_at {m : Nat} : ∀ {rs : List (List Value)}, (∀ r ∈ rs, r.length = m) → ∀ {i j : Nat} (hi : i < rs.length) (hj : j < m), rs.flatten[i * m + j]? = some ((rs[i]).getD j undef)
  | r :: rs, h, 0, j, _, hj => by
    have := h r (by simp)
    have hlt : j < (r ++ rs.flatten).length := by rw [List.length_append]; omega
    simp only [Nat.zero_mul, Nat.zero_add, List.flatten_cons, List.getElem_cons_zero]
    rw [List.getElem?_append_left (by omega), List.getD_eq_getElem?_getD, List.getElem?_eq_getElem (by omega)]; rfl
  | r :: rs, h, i + 1, j, hi, hj => by
    have h0 := h r (by simp)
    rw [List.flatten_cons, List.getElem?_append_right (by rw [h0, Nat.add_mul]; omega), h0, show (i + 1) * m + j - m = i * m + j by rw [Nat.add_mul]; omega]
    exact flat_at (fun x hx => h x (List.mem_cons_of_mem _ hx)) (by simpa using hi) hj
section
variable {w w' : World} {base m : Nat} {e : TypeId} {a : Option Addr} {n c : Nat} {rs : List (List Value)}
theorem OwnR.below (h : OwnR w base e m a n c rs) (hb : Below w.heap.size w w') : OwnR w' base e m a n c rs := ⟨ownsRow_below h.1 hb, h.2⟩
theorem OwnR.row (h : OwnR w base e m a n c rs) : ∀ k, (Value.slice a n c).ownBlock = some k → base ≤ k ∧ k < w.heap.size ∧ ∃ cs, Blk w k e cs := by
  obtain ⟨⟨h1, h2⟩, h3⟩ := h
  intro k hk
  rcases h2 with ⟨h4, h5⟩ | ⟨g, cap, cur, hv, hg, hh, r⟩
  · simp only [Value.slice.injEq] at h4
    obtain ⟨rfl, _⟩ := h4
    simp [Value.ownBlock] at hk
  · simp only [Value.slice.injEq] at hv
    obtain ⟨rfl, _⟩ := hv
    simp [Value.ownBlock] at hk
    subst hk
    exact ⟨hg, (Array.getElem?_eq_some_iff.1 hh).1, _, hh⟩
theorem OwnR.grown {row : Option Nat} (h : OwnR w base e m a n c rs) (hg : w.grownBy w' row) (hne : ∀ k, (Value.slice a n c).ownBlock = some k → some k ≠ row) : OwnR w' base e m a n c rs := by
  obtain ⟨⟨h1, h2⟩, h3⟩ := h
  refine ⟨⟨h1, ?_⟩, h3⟩
  rcases h2 with h4 | ⟨g, cap, cur, hv, hgb, hh, r⟩
  · exact .inl h4
  · refine .inr ⟨g, cap, cur, hv, hgb, (hg.block g (Array.getElem?_eq_some_iff.1 hh).1 (hne g ?_)).trans hh, r⟩
    rw [hv]; simp [Value.ownBlock]
theorem OwnR.rd (h : OwnR w base e m a n c rs) : RdN w a n m (fun i j => (rs.getD i []).getD j undef) := by
  obtain ⟨⟨h1, h2⟩, h3, h4⟩ := h
  rcases h2 with ⟨h5, h6⟩ | ⟨g, cap, cur, hv, hg, hh, hnc, hcm, hcs, htake⟩
  · exact .inl h6
  · simp only [Value.slice.injEq] at hv
    obtain ⟨rfl, -, rfl⟩ := hv
    refine .inr ⟨g, 0, rfl, fun i j hi hj => ?_⟩
    rw [Nat.zero_add, cell_of_row w g _ cur _ (0, 0) hh]
    have hfl := flat_len h4
    have hlt : i * m + j < n * m := by
      calc i * m + j < i * m + m := by omega
        _ = (i + 1) * m := by rw [Nat.add_mul, Nat.one_mul]
        _ ≤ n * m := Nat.mul_le_mul_right _ hi
    have hx : rs.flatten[i * m + j]? = cur[i * m + j]? := by
      rw [← htake, List.getElem?_take, if_pos (by omega), Array.getElem?_toList]
    rw [← hx, flat_at h4 (by omega) hj]
    simp only [List.getD_eq_getElem?_getD]
    rw [List.getElem?_eq_getElem (show i < rs.length by omega)]
    rfl
theorem OwnR.step {w0 : World} (h : OwnR w base e m a n c rs) (hB : Below base w0 w) (hg : w.grownBy w' (Value.slice a n c).ownBlock) (hs : base ≤ w.heap.size) : Below base w0 w' :=
  hB.grown hg hs (fun k hk => (h.row k hk).1)
/-- What an owned slice of other type holds is kept, where this one grows. -/
theorem OwnR.own_kept {α : Type} {E : α → Value} {b2 : Nat} {e2 : TypeId} {p : Option Addr} {k d : Nat} {l : List α} (h : OwnR w base e m a n c rs) (h2 : Own w b2 e2 E p k d l) (hne : e ≠ e2) (hg : w.grownBy w' (Value.slice a n c).ownBlock) : Own w' b2 e2 E p k d l := by
  obtain ⟨⟨h3, h4⟩, h5⟩ := h2
  refine ⟨⟨h3, ?_⟩, h5⟩
  rcases h4 with h6 | ⟨g, cap, cur, hv, hgb, hh, r⟩
  · exact .inl h6
  · refine .inr ⟨g, cap, cur, hv, hgb, (hg.block g (Array.getElem?_eq_some_iff.1 hh).1 ?_).trans hh, r⟩
    intro he
    obtain ⟨_, _, cs, hb⟩ := h.row g he.symm
    unfold Blk at hb
    rw [hh] at hb
    simp only [Option.some.injEq, Obj.cells.injEq] at hb
    exact hne hb.2.1.symm
end
/-- An owned slice is kept where a block of other type is written. -/
theorem Own.byType {α : Type} {E : α → Value} {w w' : World} {b2 B : Nat} {e e2 : TypeId} {p : Option Addr} {k d : Nat} {l : List α} {cs : Array Value} (h2 : Own w b2 e2 E p k d l) (hB : Blk w B e cs) (hne : e ≠ e2) (hg : w.grownBy w' (some B)) : Own w' b2 e2 E p k d l := by
  obtain ⟨⟨h3, h4⟩, h5⟩ := h2
  refine ⟨⟨h3, ?_⟩, h5⟩
  rcases h4 with h6 | ⟨g, cap, cur, hv, hgb, hh, r⟩
  · exact .inl h6
  · refine .inr ⟨g, cap, cur, hv, hgb, (hg.block g (Array.getElem?_eq_some_iff.1 hh).1 ?_).trans hh, r⟩
    intro he
    simp only [Option.some.injEq] at he
    subst he
    unfold Blk at hB
    rw [hh] at hB
    simp only [Option.some.injEq, Obj.cells.injEq] at hB
    exact hne hB.2.1.symm
section
variable {P : Program} {w : World} {ops : Array Oper} {rest : List Oper} {o : Oper} {a : Act} {Q : Exit → Act → World → Prop} {base : Nat}
theorem wpList_pushR {T e : TypeId} {z : Value} {m bytes : Nat} (hT : SlT P T e z m bytes) (hm : 0 < m) (hgd : o.guard = none) (s x : Operand)
    (ho : o.op = .call { callee := .builtin .append, args := #[s, x], argTypes := #[T, T] })
    {w0 : World} {vs : List Value} (hw : w = w0.alloc (.cells vs.toArray e)) (hvs : vs.length = m) (h1 : ∀ y ∈ vs, y.oneCell' = true)
    {p : Option Addr} {n c : Nat} {rs : List (List Value)} (hs : a.eval s = .slice p n c) (hown : OwnR w0 base e m p n c rs)
    (hx : a.eval x = .slice (some ⟨w0.heap.size, 0, none⟩) 1 1) (hlen : (n + 1) * bytes ≤ 140737488355328) (hlen2 : n + 1 ≤ maxLen) (hbase : base ≤ w0.heap.size)
    (h : ∀ p' c' w', OwnR w' base e m p' (n + 1) c' (rs ++ [vs]) → w0.grownBy w' (Value.slice p n c).ownBlock → wpList P ops Q rest (a.put o.dst (.slice p' (n + 1) c')) w') :
    wpList P ops Q (o :: rest) a w := by
  subst hw
  obtain ⟨i, hi, hz0, hz1, hz2⟩ := info_parts hT.info
  have hb := Blk.new w0 e vs.toArray
  have hfl := flat_len hown.2.2
  refine wpList_append_own (P := P) (w0.alloc (.cells vs.toArray e)) hgd s x _ ho base _ i _ m bytes hT.under hi hz0 hz1 hz2 hT.zsize hm _ n _ hs (hown.1.alloc _) ⟨w0.heap.size, 0, none⟩ 1 1 vs hx (by rw [hvs, Nat.one_mul]) ?_ h1 (by unfold maxLen at hlen2 ⊢; omega) (by omega) (by simp; omega) ?_
  · intro j y hj
    rw [Addr.add_lit, Nat.zero_add]
    exact hb.cell (by simpa using hj)
  · intro v' w' hr hg hiff
    have hv : ∃ p' c', v' = .slice p' (n + 1) c' := by
      rcases hr.2 with ⟨_, h0⟩ | ⟨g, cap, cur, hv, _⟩
      · omega
      · exact ⟨_, _, hv⟩
    obtain ⟨p', c', rfl⟩ := hv
    refine h p' c' w' ⟨by rw [List.flatten_append]; simpa using hr, by simp [hown.2.1], ?_⟩ ?_
    · intro r hr
      rcases List.mem_append.1 hr with hr | hr
      · exact hown.2.2 r hr
      · rw [List.mem_singleton.1 hr]; exact hvs
    · exact ⟨hg.os, hg.tape, hg.output, Nat.le_trans (by simp) hg.size, fun k hk hne => (hg.block k (by simp; omega) hne).trans (Below.heap_alloc _ _ _ hk)⟩
/-- The same, the row to add lies anywhere. -/
theorem wpList_pushRx {T e : TypeId} {z : Value} {m bytes : Nat} (hT : SlT P T e z m bytes) (hm : 0 < m) (hgd : o.guard = none) (s x : Operand)
    (ho : o.op = .call { callee := .builtin .append, args := #[s, x], argTypes := #[T, T] })
    {vs : List Value} {g : Nat} (hb : Blk w g e vs.toArray) (hvs : vs.length = m) (h1 : ∀ y ∈ vs, y.oneCell' = true)
    {p : Option Addr} {n c : Nat} {rs : List (List Value)} (hs : a.eval s = .slice p n c) (hown : OwnR w base e m p n c rs)
    (hx : a.eval x = .slice (some ⟨g, 0, none⟩) 1 1) (hlen : (n + 1) * bytes ≤ 140737488355328) (hlen2 : n + 1 ≤ maxLen) (hbase : base ≤ w.heap.size)
    (h : ∀ p' c' w', OwnR w' base e m p' (n + 1) c' (rs ++ [vs]) → w.grownBy w' (Value.slice p n c).ownBlock → wpList P ops Q rest (a.put o.dst (.slice p' (n + 1) c')) w') :
    wpList P ops Q (o :: rest) a w := by
  obtain ⟨i, hi, hz0, hz1, hz2⟩ := info_parts hT.info
  have hfl := flat_len hown.2.2
  refine wpList_append_own (P := P) w hgd s x _ ho base _ i _ m bytes hT.under hi hz0 hz1 hz2 hT.zsize hm _ n _ hs hown.1 ⟨g, 0, none⟩ 1 1 vs hx (by rw [hvs, Nat.one_mul]) ?_ h1 (by unfold maxLen at hlen2 ⊢; omega) (by omega) (by omega) ?_
  · intro j y hj
    rw [Addr.add_lit, Nat.zero_add]
    exact hb.cell (by simpa using hj)
  · intro v' w' hr hg hiff
    have hv : ∃ p' c', v' = .slice p' (n + 1) c' := by
      rcases hr.2 with ⟨_, h0⟩ | ⟨g, cap, cur, hv, _⟩
      · omega
      · exact ⟨_, _, hv⟩
    obtain ⟨p', c', rfl⟩ := hv
    refine h p' c' w' ⟨by rw [List.flatten_append]; simpa using hr, by simp [hown.2.1], ?_⟩ hg
    intro r hr
    rcases List.mem_append.1 hr with hr | hr
    · exact hown.2.2 r hr
    · rw [List.mem_singleton.1 hr]; exact hvs
end
end Go.Proofs.Ytgcdeadfkljeaaa
