/- Slices of slices of bytes; append of a slice onto one that is owned or full. -/
import Derived.Test.YtgcdeadfkljeaaaCrcO
import Derived.Test.YtgcdeadfkljeaaaGrowI
import Derived.Test.YtgcdeadfkljeaaaBuf
namespace Go.Proofs.Ytgcdeadfkljeaaa
open Go.RowKit
set_option linter.unusedVariables false
set_option linter.unusedSimpArgs false

section
variable {P : Program} {w : World} {ops : Array Oper} {rest : List Oper} {o : Oper} {a : Act} {Q : Exit → Act → World → Prop} {α : Type} {E : α → Value} {T e : TypeId} {z : Value} {bytes base : Nat}
/-- append(s, x...): s is owned or full, x is read. -/
theorem wpList_catB (hT : SlT P T e z 1 bytes) (hz1 : z.cells = #[z]) (hgd : o.guard = none) (s x : Operand)
    (ho : o.op = .call { callee := .builtin .append, args := #[s, x], argTypes := #[T, T] }) {wz : World}
    {p : Option Addr} {n c : Nat} {l : List α} (hs : a.eval s = .slice p n c) (hbuf : Buf w base e E p n c l) (hB : Below base wz w)
    {q : Option Addr} {m d : Nat} {k : List α} (hx : a.eval x = .slice q m d) (hk : k.length = m) (hr : Rd w E q k) (h1 : ∀ y ∈ k, (E y).oneCell' = true)
    (hlen : (n + m) * bytes ≤ 140737488355328) (hlen2 : n + m ≤ maxLen) (hbase : base ≤ w.heap.size)
    (h : ∀ p' c' w', Buf w' base e E p' (n + m) c' (l ++ k) → Below base wz w' → wpList P ops Q rest (a.put o.dst (.slice p' (n + m) c')) w') :
    wpList P ops Q (o :: rest) a w := by
  rcases hbuf with hown | ⟨rfl, hm, hl, hrl⟩
  · exact wpList_cat hT hgd s x ho hs hown hx hk hr h1 hlen hlen2 hbase fun p' c' w' h2 h3 _ _ => h p' c' w' (.inl h2) (hown.step hB h3 hbase)
  · obtain ⟨ti, hti, hz0, hz2, hz3⟩ := info_parts hT.info
    by_cases hm0 : m = 0
    · subst hm0
      have hk0 : k = [] := List.eq_nil_of_length_eq_zero hk
      subst hk0
      have hf : ∀ (b : Option Addr) (d : Nat) (w : World), (Builtin.firstCells ti.size 0 (.slice b 0 d)).run P w = .ok #[] w := by
        intro b d w
        cases b with
        | none => exact run_firstCells_none w ti.size 0 0 d
        | some b => exact run_firstCells_some w ti.size 0 b 0 d [] (by simp) (by simp)
      have hrun : (Builtin.append_ #[T, T] o.type #[.slice p c c, .slice q 0 d]).run P w = .ok (.slice p c c) w := by
        cases p with
        | none => simp [Builtin.append_, run_underlying hT.under, sizeOf, typeInfo, hti, Builtin.lenOf, hf]
        | some b => simp [Builtin.append_, run_underlying hT.under, sizeOf, typeInfo, hti, Builtin.lenOf, hf, storeCells]
      exact Lib.wpList_append_run w hgd s x T T ho _ _ hs hx _ _ hrun (h _ _ _ (by rw [Nat.add_zero, List.append_nil]; exact .inr ⟨rfl, hm, hl, hrl⟩) hB)
    · have hmax := hlen2
      unfold maxLen at hlen2
      have hold : (Builtin.firstCells ti.size c (.slice p c c)).run P w.drew = .ok (l.map E).toArray w.drew := by
        rw [hz2]; exact firstCells_rd (P := P) (w := w.drew) (c := c) hl hrl.drew
      have hnew : (Builtin.firstCells ti.size m (.slice q m d)).run P w.drew = .ok (k.map E).toArray w.drew := by
        rw [hz2]; exact firstCells_rd (P := P) (w := w.drew) (c := d) hk hr.drew
      have hn : ¬ (c + m ≤ c) := by omega
      have h63 : ¬ (9223372036854775807 < ((c : Int) + (m : Int))) := by omega
      have hfit : ¬ (281474976710656 < Builtin.nextslicecap (c + m) c * ti.bytes) := by
        have := growslice_fits (need := c + m) (old := c) (bytes := ti.bytes) (by omega) (by rw [hz3]; exact hlen)
        omega
      have hrun : (Builtin.append_ #[T, T] o.type #[.slice p c c, .slice q m d]).run P w = .ok (.slice (some ⟨w.heap.size, 0, none⟩) (c + m) (grownCap w (c + m) c e)) (w.drew.alloc (.cells ((l.map E).toArray ++ (k.map E).toArray ++ Builtin.zeroCells z.cells (grownCap w (c + m) c e - (c + m))) e)) := by
        simp [Builtin.append_, run_underlying hT.under, sizeOf, typeInfo, zeroValue, hti, hz0, Builtin.lenOf, hn, h63, hfit, Question.forced, hold, hnew, newRow, grownCap, hm0]
        rw [← List.append_toArray, Array.append_assoc]
      refine Lib.wpList_append_run w hgd s x T T ho _ _ hs hx _ _ hrun (h _ _ _ (.inl ⟨⟨by simp [hl, hk], .inr ⟨w.heap.size, _, _, rfl, hbase, heap_alloc_new w.drew _, grownCap_ge _ _ _ _, grownCap_le_maxLen _ _ _ _ hmax, ?_, ?_⟩⟩, by simp [hl, hk]⟩) ?_)
      · have := grownCap_ge w (c + m) c e
        rw [hz1, zeroCells_one]; simp [hl, hk]; omega
      · rw [hz1, zeroCells_one]
        simp only [Array.toList_append, Array.toList_replicate, List.append_assoc, Nat.mul_one]
        rw [← List.append_assoc, List.take_append_of_le_length (by simp [hl, hk]), List.take_of_length_le (by simp [hl, hk])]
        simp
      · have hb : Below w.heap.size w w.drew := (Below.refl _ _).drew
        exact hB.trans ((hb.alloc (by simp) _).mono hbase)
end

/-- Values that are slices of bytes. -/
def PartsV (w : World) : List Value → List (List UInt8) → Prop
  | [], [] => True
  | v :: vs, l :: ls => BytesG l v w ∧ PartsV w vs ls
  | _, _ => False
/-- A slice of slices of bytes. -/
def Parts (w : World) (a : Option Addr) (n : Nat) (ls : List (List UInt8)) : Prop := ∃ vs, vs.length = n ∧ ls.length = n ∧ Rd w (fun v => v) a vs ∧ PartsV w vs ls
theorem PartsV.len {w : World} : ∀ {vs : List Value} {ls : List (List UInt8)}, PartsV w vs ls → vs.length = ls.length
  | [], [], _ => rfl
  | _ :: vs, _ :: ls, h => by simp [PartsV.len h.2]
  | [], _ :: _, h => h.elim
  | _ :: _, [], h => h.elim
theorem PartsV.below {w w' : World} (hb : Below w.heap.size w w') : ∀ {vs : List Value} {ls : List (List UInt8)}, PartsV w vs ls → PartsV w' vs ls
  | [], [], _ => trivial
  | _ :: vs, _ :: ls, h => ⟨mono_bytes _ _ _ _ h.1 hb, PartsV.below hb h.2⟩
  | [], _ :: _, h => h.elim
  | _ :: _, [], h => h.elim
theorem PartsV.keep {w w' : World} (hk : ByteKeep w w') : ∀ {vs : List Value} {ls : List (List UInt8)}, PartsV w vs ls → PartsV w' vs ls
  | [], [], _ => trivial
  | _ :: vs, _ :: ls, h => by
    obtain ⟨⟨a, n, c, h1, h2, h3⟩, h4⟩ := h
    exact ⟨⟨a, n, c, h1, h2, h3.keep hk⟩, PartsV.keep hk h4⟩
  | [], _ :: _, h => h.elim
  | _ :: _, [], h => h.elim
theorem PartsV.snoc {w : World} {v : Value} {l : List UInt8} (hv : BytesG l v w) : ∀ {vs : List Value} {ls : List (List UInt8)}, PartsV w vs ls → PartsV w (vs ++ [v]) (ls ++ [l])
  | [], [], _ => ⟨hv, trivial⟩
  | _ :: vs, _ :: ls, h => ⟨h.1, PartsV.snoc hv h.2⟩
  | [], _ :: _, h => h.elim
  | _ :: _, [], h => h.elim
theorem PartsV.at {w : World} : ∀ {vs : List Value} {ls : List (List UInt8)}, PartsV w vs ls → ∀ {i : Nat} (h1 : i < vs.length) (h2 : i < ls.length), BytesG ls[i] vs[i] w
  | v :: vs, l :: ls, h, 0, _, _ => h.1
  | v :: vs, l :: ls, h, i + 1, h1, h2 => PartsV.at (vs := vs) (ls := ls) h.2 (by simpa using h1) (by simpa using h2)
theorem Parts.below {w w' : World} {a : Option Addr} {n : Nat} {ls : List (List UInt8)} (h : Parts w a n ls) (hb : Below w.heap.size w w') : Parts w' a n ls := by
  obtain ⟨vs, h1, h2, h3, h4⟩ := h
  exact ⟨vs, h1, h2, h3.below hb, h4.below hb⟩
theorem Parts.later {w0 w : World} {a : Option Addr} {n : Nat} {ls : List (List UInt8)} (h : Parts w0 a n ls) (hb : Below w0.heap.size w0 w) : Parts w a n ls := h.below hb
theorem Parts.len {w : World} {a : Option Addr} {n : Nat} {ls : List (List UInt8)} (h : Parts w a n ls) : ls.length = n := by
  obtain ⟨vs, h1, h2, h3, h4⟩ := h; exact h2
/-- Its i-th slice. -/
theorem Parts.at {w : World} {a : Option Addr} {n : Nat} {ls : List (List UInt8)} (h : Parts w a n ls) {i : Nat} (hi : i < ls.length) :
    ∃ b off ai ni ci, a = some ⟨b, off, none⟩ ∧ w.cell? ⟨b, off + i, none⟩ = some (.slice ai ni ci) ∧ ls[i].length = ni ∧ Rd w bE ai ls[i] := by
  obtain ⟨vs, h1, h2, h3, h4⟩ := h
  have hi2 : i < vs.length := by omega
  obtain ⟨b, off, e1, -, e2⟩ := h3.at hi2
  obtain ⟨ai, ni, ci, e3, e4, e5⟩ := h4.at hi2 hi
  exact ⟨b, off, ai, ni, ci, e1, by rw [e2, e3], e4, e5⟩

def sumL (ls : List (List UInt8)) : Nat := (ls.map List.length).sum
theorem sumL_snoc (ls : List (List UInt8)) (k : Nat) (hk : k < ls.length) : sumL (ls.take (k + 1)) = sumL (ls.take k) + ls[k].length := by
  unfold sumL; rw [List.take_succ_eq_append_getElem hk, List.map_append, List.sum_append]; simp only [List.map_cons, List.map_nil, List.sum_cons, List.sum_nil, Nat.add_zero]
theorem sumL_le (ls : List (List UInt8)) (k : Nat) : sumL (ls.take k) ≤ sumL ls := by
  conv => rhs; rw [← List.take_append_drop k ls]
  unfold sumL; rw [List.map_append, List.sum_append]; omega
theorem sumL_at (ls : List (List UInt8)) (k : Nat) (hk : k < ls.length) : ls[k].length ≤ sumL ls := by
  have h1 := sumL_snoc ls k hk
  have h2 := sumL_le ls (k + 1)
  omega
theorem sumL_flat (ls : List (List UInt8)) : ls.flatten.length = sumL ls := by simp [sumL, List.length_flatten]
theorem drewN_grown (w : World) (k : Nat) : Below w.heap.size w (w.drewN k) := ⟨rfl, rfl, rfl, Nat.le_refl _, fun _ _ => rfl⟩
end Go.Proofs.Ytgcdeadfkljeaaa
