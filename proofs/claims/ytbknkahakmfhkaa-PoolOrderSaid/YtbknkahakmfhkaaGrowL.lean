/- append in a drawn region, onto a slice without room. -/
import Derived.Test.YtbknkahakmfhkaaGrowK
namespace Go.Proofs.Ytbknkahakmfhkaa
open Go.RowKit
set_option linter.unusedVariables false
set_option linter.unusedSimpArgs false
section
variable {P : Program} {w : World} {α : Type} {E : α → Value} {T e : TypeId} {z : Value} {bytes : Nat}
theorem run_append_full (hT : SlT P T e z 1 bytes) (ty : TypeId) {p : Option Addr} {n : Nat} {l : List α} (hl : l.length = n) (hr : Rd w E p l)
    {q : Option Addr} {m d : Nat} {k : List α} (hk : k.length = m) (hq : Rd w E q k) (hlen : (n + m) * bytes ≤ 140737488355328) (hlen2 : n + m ≤ maxLen) :
    ∃ p' c' w', (Builtin.append_ #[T, T] ty #[.slice p n n, .slice q m d]).run P w = .ok (.slice p' (n + m) c') w' ∧ Rd w' E p' (l ++ k) ∧ Below w.heap.size w w' := by
  obtain ⟨ti, hti, hz0, hz2, hz3⟩ := info_parts hT.info
  by_cases hm : m = 0
  · subst hm
    have hk0 : k = [] := List.eq_nil_of_length_eq_zero hk
    subst hk0
    refine ⟨p, n, w, ?_, by simpa using hr, Below.refl _ _⟩
    have hf : ∀ (b : Option Addr) (d : Nat) (w : World), (Builtin.firstCells ti.size 0 (.slice b 0 d)).run P w = .ok #[] w := by
      intro b d w
      cases b with
      | none => exact run_firstCells_none w ti.size 0 0 d
      | some b => exact run_firstCells_some w ti.size 0 b 0 d [] (by simp) (by simp)
    cases p with
    | none => simp [Builtin.append_, run_underlying hT.under, sizeOf, typeInfo, hti, Builtin.lenOf, hf]
    | some b => simp [Builtin.append_, run_underlying hT.under, sizeOf, typeInfo, hti, Builtin.lenOf, hf, storeCells]
  · have hmax := hlen2
    unfold maxLen at hlen2
    have hold : (Builtin.firstCells ti.size n (.slice p n n)).run P w.drew = .ok (l.map E).toArray w.drew := by
      rw [hz2]; exact firstCells_rd (P := P) (w := w.drew) (c := n) hl hr.drew
    have hnew : (Builtin.firstCells ti.size m (.slice q m d)).run P w.drew = .ok (k.map E).toArray w.drew := by
      rw [hz2]; exact firstCells_rd (P := P) (w := w.drew) (c := d) hk hq.drew
    have hn : ¬ (n + m ≤ n) := by omega
    have h63 : ¬ (9223372036854775807 < ((n : Int) + (m : Int))) := by omega
    have hfit : ¬ (281474976710656 < Builtin.nextslicecap (n + m) n * ti.bytes) := by
      have := growslice_fits (need := n + m) (old := n) (bytes := ti.bytes) (by omega) (by rw [hz3]; exact hlen)
      omega
    refine ⟨some ⟨w.heap.size, 0, none⟩, grownCap w (n + m) n e, (w.drew.alloc (.cells ((l.map E).toArray ++ (k.map E).toArray ++ Builtin.zeroCells z.cells (grownCap w (n + m) n e - (n + m))) e)), ?_, ?_, ?_⟩
    · simp [Builtin.append_, run_underlying hT.under, sizeOf, typeInfo, zeroValue, hti, hz0, Builtin.lenOf, hn, h63, hfit, Question.forced, hold, hnew, newRow, grownCap, hm]
      rw [← List.append_toArray, Array.append_assoc]
    · refine .inr ⟨_, _, rfl, fun j x hj => ?_⟩
      have hg : (w.drew.alloc (.cells ((l.map E).toArray ++ (k.map E).toArray ++ Builtin.zeroCells z.cells (grownCap w (n + m) n e - (n + m))) e)).heap[w.heap.size]? = some (.cells ((l.map E).toArray ++ (k.map E).toArray ++ Builtin.zeroCells z.cells (grownCap w (n + m) n e - (n + m))) e (0, 0)) := heap_alloc_new w.drew _
      rw [Nat.zero_add, cell_of_row _ _ j _ e _ hg]
      have hjl : j < (l ++ k).length := (List.getElem?_eq_some_iff.1 hj).1
      rw [List.length_append] at hjl
      rw [Array.getElem?_append_left (by simp; omega)]
      rw [← Array.getElem?_toList, Array.toList_append, ← List.map_append, List.getElem?_map, hj]
      rfl
    · have hb : Below w.heap.size w w.drew := (Below.refl _ _).drew
      exact hb.alloc (by simp) _
end
/-- A slice that reads as L. -/
def SliceG {α : Type} (E : α → Value) (L : List α) : Spec := fun v w => ∃ a n c, v = .slice a n c ∧ L.length = n ∧ Rd w E a L
theorem mono_slice {α : Type} (E : α → Value) (L : List α) : Mono (SliceG E L) := fun v w w' ⟨a, n, c, h1, h2, h3⟩ hb => ⟨a, n, c, h1, h2, h3.below hb⟩
section
variable {P : Program} {ops : Array Oper} {Q : Exit → Act → World → Prop} {a : Act} {w0 : World} {o : Oper} {rest : List Oper} {done : List (Nat × Spec)} {α : Type} {E : α → Value} {T e : TypeId} {z : Value} {bytes : Nat}
/-- append(s, x..), s without room. -/
theorem gw_append (hT : SlT P T e z 1 bytes) (s x : Operand) (l k : List α) (ho : o.op = .call { callee := .builtin .append, args := #[s, x], argTypes := #[T, T] })
    (hlen : (l.length + k.length) * bytes ≤ 140737488355328) (hlen2 : l.length + k.length ≤ maxLen)
    (h1 : ∀ (a' : Act) (w' : World), Below w0.heap.size w0 w' → (∀ t ∈ o.looksAt ops, KnownAt done a a' w' t) → Region.wanted o (yielded ops a'.tmps) = true ∧ (∃ p, a'.eval s = .slice p l.length l.length ∧ Rd w' E p l) ∧ SliceG E k (a'.eval x) w')
    (h : GW P ops Q a w0 rest (consD o (SliceG E (l ++ k)) done)) : GW P ops Q a w0 (o :: rest) done := by
  refine ⟨_, mono_slice E (l ++ k), fun a' w' hb hk => ?_, h⟩
  obtain ⟨h2, ⟨p, h3, h4⟩, q, m, d, h5, h6, h7⟩ := h1 a' w' hb hk
  rw [if_pos h2]
  subst h6
  obtain ⟨p', c', w'', hrun, hrd, hB⟩ := run_append_full (P := P) hT o.type rfl h4 rfl h7 hlen hlen2 (d := d)
  unfold Oper.wp
  simp [execOp, ho, resolve, invoke, builtin, h3, h5, hrun, Result.andThen, Oper.upon]
  exact ⟨_, rfl, ⟨p', _, c', rfl, by simp, hrd⟩, hB⟩
/-- An operation that reads the world; its value by a spec. -/
theorem gw_valB (G : Spec) (hm : Mono G) (h1 : ∀ (a' : Act) (w' : World), Below w0.heap.size w0 w' → (∀ t ∈ o.looksAt ops, KnownAt done a a' w' t) → Region.wanted o (yielded ops a'.tmps) = true ∧ ∃ V, (execOp a'.eval o).run P w' = .ok (.value V) w' ∧ G V w')
    (h : GW P ops Q a w0 rest (consD o G done)) : GW P ops Q a w0 (o :: rest) done := by
  refine ⟨G, hm, fun a' w' hb hk => ?_, h⟩
  obtain ⟨h2, V, h3, h4⟩ := h1 a' w' hb hk
  rw [if_pos h2]
  unfold Oper.wp
  rw [h3]
  exact ⟨V, rfl, h4, Below.refl _ _⟩
/-- A composite literal without elements. -/
theorem gw_make0 {t e' : TypeId} (ho : o.op = .buildSlice t 0 #[]) (hg : o.guard = none)
    (hrun : ∀ (a' : Act) (w' : World), (execOp a'.eval o).run P w' = .ok (.value (.slice (some ⟨w'.heap.size, 0, none⟩) 0 0)) (w'.alloc (.cells #[] e')))
    (h : GW P ops Q a w0 rest (consD o (fun v _ => ∃ b, v = .slice (some ⟨b, 0, none⟩) 0 0) done)) : GW P ops Q a w0 (o :: rest) done := by
  refine ⟨_, fun v w w' h _ => h, fun a' w' hb hk => ?_, h⟩
  rw [if_pos (by simp [Region.wanted, hg])]
  unfold Oper.wp
  rw [hrun]
  exact ⟨_, rfl, ⟨_, rfl⟩, below_alloc _ _⟩
end
end Go.Proofs.Ytbknkahakmfhkaa
