/- append(s, make([]byte, k)...) onto a row that is owned or full, k may be none. -/
import Derived.Test.YtgcdeadfkljeaaaOpsM
namespace Go.Proofs.Ytgcdeadfkljeaaa
open Go.RowKit
set_option linter.unusedVariables false
set_option linter.unusedSimpArgs false

theorem wpList_zerosB {ops : Array Oper} {rest : List Oper} {o : Oper} {a : Act} {w : World} {Q : Exit → Act → World → Prop} (hgd : o.guard = none) (s x : Operand) {tn : TypeId} (htn : Try.prog.underlying tn = some (.int .i64))
    (ho : o.op = .call { callee := .builtin .append, args := #[s, x], argTypes := #[BSL, tn] }) {wz : World} {B : Nat}
    {p : Option Addr} {n c : Nat} {l : List UInt8} (hs : a.eval s = .slice p n c) (hbuf : Buf w B U8 bE p n c l) (hB : Below B wz w)
    (k : Nat) (hx : a.eval x = .int .i64 (k : Int)) (hlen : n + k ≤ 100000000) (hbase : B ≤ w.heap.size)
    (h : ∀ p' c' w', Buf w' B U8 bE p' (n + k) c' (l ++ List.replicate k 0) → Below B wz w' → (∀ x, (∀ q : Addr, p = some q → q.block ≠ x) → x < w.heap.size → w'.heap[x]? = w.heap[x]?) → wpList Try.prog ops Q rest (a.put o.dst (.slice p' (n + k) c')) w') :
    wpList Try.prog ops Q (o :: rest) a w := by
  obtain ⟨ti, hti, hz0, hz2, hz3⟩ := info_parts slByte.info
  by_cases h0 : k = 0
  · subst h0
    have hle : n ≤ c := by rcases hbuf with hown | ⟨rfl, _, _, _⟩; exact hown.le_cap; exact Nat.le_refl _
    have hrun : (Builtin.append_ #[BSL, tn] o.type #[.slice p n c, .int .i64 ((0 : Nat) : Int)]).run Try.prog w = .ok (.slice p n c) w := by
      cases p with
      | none => simp [Builtin.append_, run_underlying slByte.under, run_underlying htn, sizeOf, typeInfo, zeroValue, hti, hz0, asInt, asIntOf, IntKind.wrap_i64, hle, Builtin.zeroCells, storeCells]
      | some b => simp [Builtin.append_, run_underlying slByte.under, run_underlying htn, sizeOf, typeInfo, zeroValue, hti, hz0, asInt, asIntOf, IntKind.wrap_i64, hle, Builtin.zeroCells, storeCells]
    exact Lib.wpList_append_run w hgd s x BSL tn ho _ _ hs hx _ _ hrun (h _ _ _ (by rw [Nat.add_zero, List.replicate_zero, List.append_nil]; exact hbuf) hB (fun _ _ _ => rfl))
  · rcases hbuf with hown | ⟨rfl, hm, hl, hrl⟩
    · exact wpList_zeros slByte rfl hgd s x htn ho hs hown k hx rfl (by omega) (0 : UInt8) rfl rfl (by omega) (by unfold maxLen; omega) hbase fun p' c' w' h2 h3 => h p' c' w' (.inl h2) (hown.step hB h3 hbase) (keep_own h3)
    · have hold : (Builtin.firstCells ti.size c (.slice p c c)).run Try.prog w.drew = .ok (l.map bE).toArray w.drew := by
        rw [hz2]; exact firstCells_rd (P := Try.prog) (w := w.drew) (c := c) hl hrl.drew
      have hfit : Builtin.nextslicecap (c + k) c * ti.bytes ≤ 281474976710656 := growslice_fits (by omega) (by rw [hz3]; omega)
      have hrun := Lib.run_append_grow_zeros (P := Try.prog) (ty := o.type) w BSL tn U8 ti (.int .u8 0) .i64 .i64 slByte.under htn hti hz0 p c c (l.map bE) hold k (by omega) (by omega) (by omega) (by omega) (by rw [hz3]; omega) hfit
      refine Lib.wpList_append_run w hgd s x BSL tn ho _ _ hs hx _ _ hrun (h _ _ _ (.inl ⟨⟨by simp [hl], .inr ⟨w.heap.size, _, _, rfl, hbase, heap_alloc_new w.drew _, grownCap_ge _ _ _ _, grownCap_le_maxLen _ _ _ _ (by unfold maxLen; omega), ?_, ?_⟩⟩, by simp [hl]⟩) ?_ ?_)
      · have := grownCap_ge w (c + k) c U8
        rw [show (Value.int IntKind.u8 0).cells = #[Value.int .u8 0] from rfl, zeroCells_one, zeroCells_one]; simp [hl]; omega
      · rw [show (Value.int IntKind.u8 0).cells = #[Value.int .u8 0] from rfl, zeroCells_one, zeroCells_one]
        simp only [Array.toList_append, Array.toList_replicate, List.append_assoc, Nat.mul_one]
        rw [← List.append_assoc, List.take_append_of_le_length (by simp [hl]), List.take_of_length_le (by simp [hl])]
        simp [bE]
      · have hb : Below w.heap.size w w.drew := (Below.refl _ _).drew
        exact hB.trans ((hb.alloc (by simp) _).mono hbase)
      · intro x _ hx
        have hb : Below w.heap.size w w.drew := (Below.refl _ _).drew
        exact (hb.alloc (by simp) _).block x hx
theorem KS.pushN {w0 w w' : World} {g o : Nat} {L k : List UInt8} {cs : Array Value} (h : KS w0 w w0.heap.size g o L cs) (hne : NeO w g o) {p : Option Addr} {n c : Nat} (hp : Blk w g BSL #[.slice p n c]) {p' : Option Addr} {n' c' : Nat} (hbuf : Buf w' w0.heap.size U8 bE p' n' c' (L ++ k)) (hk : 0 < (L ++ k).length) (hB : Below w0.heap.size w w')
    (keep : ∀ x, (∀ q : Addr, p = some q → q.block ≠ x) → x < w.heap.size → w'.heap[x]? = w.heap[x]?) :
    KS w0 (w'.setCell ⟨g, 0, none⟩ (.slice p' n' c')) w0.heap.size g o (L ++ k) cs ∧ w'.cell? ⟨g, 0, none⟩ = some (.slice p n c) ∧ w'.frozen? ⟨g, 0, none⟩ = false := by
  obtain ⟨⟨hBg, p0, n0, c0, hb0, hbuf0, hne0⟩, h2, h3, h4, h5, h6⟩ := h
  have e : some (Obj.cells #[Value.slice p0 n0 c0] BSL (0, 0)) = some (Obj.cells #[Value.slice p n c] BSL (0, 0)) := hb0.symm.trans hp
  simp only [Option.some.injEq, Obj.cells.injEq, and_true] at e
  have e2 : p0 = p := by simpa using congrArg (fun a => a[0]?) e |> fun h => by simp at h; exact h.1
  subst e2
  have hg' : Blk w' g BSL #[.slice p0 n c] := blk_keep hp keep hne0
  have ho' : Blk w' o STO cs := blk_keep h2 keep (hne _ _ _ hp)
  have hs := hB.size
  refine ⟨⟨BV.store hBg hg' hbuf hk, ho'.setCell_ne (by simpa using h6) _, (h3.trans hB).setCell (by simp only; omega) _, h4, ?_, h6⟩, hg'.cell rfl, hg'.frozen 0⟩
  have hlt := hg'.lt
  simp
  omega
theorem K4.pushN {w0 w w' : World} {g o : Nat} {L k : List UInt8} {st : StepK} {ka : Option Addr} {kn kc : Nat} {ta : Option Addr} {tn tc : Nat} {p : Option Addr} {n c : Nat} (h : K4 w0 w g o L (stC st (.slice ka kn kc) (.slice ta tn tc)) p n c) {p' : Option Addr} {n' c' : Nat} (hbuf : Buf w' w0.heap.size U8 bE p' n' c' (L ++ k)) (hk : 0 < (L ++ k).length) (hB : Below w0.heap.size w w')
    (keep : ∀ x, (∀ q : Addr, p = some q → q.block ≠ x) → x < w.heap.size → w'.heap[x]? = w.heap[x]?) :
    K4 w0 (w'.setCell ⟨g, 0, none⟩ (.slice p' n' c')) g o (L ++ k) (stC st (.slice ka kn kc) (.slice ta tn tc)) p' n' c' ∧ w'.cell? ⟨g, 0, none⟩ = some (.slice p n c) ∧ w'.frozen? ⟨g, 0, none⟩ = false := by
  have h0 := hk
  have hp := KS.pushN h.1 h.2.1 h.2.2.1 hbuf hk hB keep
  have hne := h.1.1
  obtain ⟨-, p0, n0, c0, hb0, -, hne0⟩ := hne
  have e : some (Obj.cells #[Value.slice p0 n0 c0] BSL (0, 0)) = some (Obj.cells #[Value.slice p n c] BSL (0, 0)) := hb0.symm.trans h.2.2.1
  simp only [Option.some.injEq, Obj.cells.injEq, and_true] at e
  have e2 : p0 = p := by simpa using congrArg (fun a => a[0]?) e |> fun h => by simp at h; exact h.1
  subst e2
  have hg' : Blk w' g BSL #[.slice p0 n c] := blk_keep h.2.2.1 keep hne0
  exact ⟨⟨hp.1, hp.1.neo h0, hg'.setCell 0 _, hbuf.kept (rd_ne_box hbuf.rd h0 hg') (grownBy_setCell w' _ _)⟩, hp.2⟩
end Go.Proofs.Ytgcdeadfkljeaaa
