/- Laws of ours on blocks: a block known whole (Blk), allocation, a store of a whole array or struct. -/
import Derived.Test.YtbknkahakmfhkaaLib
namespace Go.Proofs.Ytbknkahakmfhkaa
open Go.RowKit
set_option linter.unusedVariables false
set_option linter.unusedSimpArgs false

/-- Block g holds these cells, none frozen. -/
def Blk (w : World) (g : Nat) (T : TypeId) (cs : Array Value) : Prop := w.heap[g]? = some (.cells cs T (0, 0))

section
variable {w w' : World} {g : Nat} {T : TypeId} {cs : Array Value}
theorem Blk.cell (h : Blk w g T cs) {i : Nat} {v : Value} (hv : cs[i]? = some v) : w.cell? ⟨g, i, none⟩ = some v := by rw [cell_of_row w g i cs T (0, 0) h, hv]
theorem Blk.frozen (h : Blk w g T cs) (i : Nat) : w.frozen? ⟨g, i, none⟩ = false := frozen_of_row w g i cs T h
theorem Blk.lt (h : Blk w g T cs) : g < w.heap.size := (Array.getElem?_eq_some_iff.1 h).1
theorem Blk.below (h : Blk w g T cs) (hb : Below w.heap.size w w') : Blk w' g T cs := (hb.block g h.lt).trans h
theorem Blk.grown (h : Blk w g T cs) {row : Option Nat} (hg : w.grownBy w' row) (hne : some g ≠ row) : Blk w' g T cs := (hg.block g h.lt hne).trans h
theorem Blk.setCell (h : Blk w g T cs) (i : Nat) (v : Value) : Blk (w.setCell ⟨g, i, none⟩ v) g T (cs.setIfInBounds i v) := heap_setCell_same w g i cs T v h
theorem Blk.setCell_ne (h : Blk w g T cs) {a : Addr} (hne : g ≠ a.block) (v : Value) : Blk (w.setCell a v) g T cs := (heap_setCell_other w a g v hne).trans h
theorem Blk.alloc (h : Blk w g T cs) (o : Obj) : Blk (w.alloc o) g T cs := h.below (below_alloc w o)
theorem Blk.new (w : World) (T : TypeId) (cs : Array Value) : Blk (w.alloc (.cells cs T)) w.heap.size T cs := heap_alloc_new w _
theorem grownBy_setCell (w : World) (a : Addr) (v : Value) : w.grownBy (w.setCell a v) (some a.block) :=
  ⟨rfl, rfl, rfl, by simp [World.setCell], fun k _ hne => Below.heap_setCell w a v k (fun e => hne (by rw [e]))⟩
theorem grownBy_setRow (w : World) (g : Nat) (cs : Array Value) : w.grownBy (w.setRow g cs) (some g) :=
  ⟨rfl, rfl, rfl, by simp, fun k _ hne => setRow_other w g k cs (fun e => hne (by rw [e]))⟩
theorem grownBy_trans {a b c : World} {row : Option Nat} (h : a.grownBy b row) (k : b.grownBy c row) : a.grownBy c row :=
  ⟨k.os.trans h.os, k.tape.trans h.tape, k.output.trans h.output, Nat.le_trans h.size k.size, fun i hi hne => (k.block i (Nat.lt_of_lt_of_le hi h.size) hne).trans (h.block i hi hne)⟩
theorem grownBy_of_below {a b : World} (row : Option Nat) (h : Below a.heap.size a b) : a.grownBy b row := ⟨h.os, h.tape, h.output, h.size, fun k hk _ => h.block k hk⟩
theorem grownBy_of_below_ge {a b : World} {B : Nat} (h : Below B a b) (hB : a.heap.size ≤ B) (row : Option Nat) : a.grownBy b row := grownBy_of_below row (h.mono hB)
theorem below_of_grownBy {a b : World} (h : a.grownBy b none) : Below a.heap.size a b := ⟨h.os, h.tape, h.output, h.size, fun k hk => h.block k hk (by simp)⟩
end

section
variable {P : Program} {w : World} {ops : Array Oper} {rest : List Oper} {o : Oper} {a : Act} {Q : Exit → Act → World → Prop} {T : TypeId}

theorem wpList_alloc (hgd : o.guard = none) (ho : o.op = .alloc T) {z : Value} (hz : (P.info? T).bind (·.zero) = some z)
    (h : wpList P ops Q rest (a.put o.dst (.pointer (some ⟨w.heap.size, 0, none⟩))) (w.alloc (.cells z.cells T))) : wpList P ops Q (o :: rest) a w := by
  obtain ⟨i, hi, hz⟩ := Option.bind_eq_some_iff.1 hz
  refine wpList_plain hgd fun K hK => ?_
  unfold Oper.wp
  have hrun : (Instr.alloc T true (.tuple #[])).run P w = .ok (.pointer (some ⟨w.heap.size, 0, none⟩)) (w.alloc (.cells z.cells T)) := by
    simp [Instr.alloc, zeroValue, typeInfo, hi, hz, newVar, newRow, go_sem]
  simp [execOp, ho, hrun, Result.andThen]
  exact hK _ _ h

/-- A store of a whole array or struct into a block of its size. -/
theorem wpList_storeBlk (hgd : o.guard = none) (x y : Operand) (ho : o.op = .store T x y) {g : Nat} {T' : TypeId} {cs cs' : Array Value}
    (hx : a.eval x = .pointer (some ⟨g, 0, none⟩)) (hy : a.eval y = .agg cs') (hb : Blk w g T' cs) (hsz : cs'.size = cs.size)
    (hi : (P.info? T).map (·.size) = some cs.size) (h1 : ∀ u ∈ cs'.toList, u.oneCell' = true)
    (h : Blk (w.setRow g cs') g T' cs' → w.grownBy (w.setRow g cs') (some g) → wpList P ops Q rest (a.put o.dst undef) (w.setRow g cs')) : wpList P ops Q (o :: rest) a w := by
  obtain ⟨i, hi, hz⟩ := Option.map_eq_some_iff.1 hi
  refine wpList_plain hgd fun K hK => ?_
  have hst := run_storeCells_at P g 0 T' cs'.toList 0 cs w hb (by simp [hsz]) h1
  have hrun : (Instr.storeAt T (.pointer (some ⟨g, 0, none⟩)) (.agg cs')).run P w = .ok () (w.setRow g cs') := by
    simp only [Nat.zero_add, Nat.add_zero] at hst
    simp only [List.take_zero, List.nil_append] at hst
    rw [List.drop_of_length_le (by simp [hsz])] at hst
    simp only [List.append_nil, Array.toArray_toList] at hst
    simp [Instr.storeAt, Instr.sureAddr, storeVar, sizeOf, typeInfo, hi, Value.cells, hz, hsz, hst, go_sem]
  unfold Oper.wp
  simp [execOp, ho, hx, hy, hrun, Result.andThen]
  exact hK _ _ (h (setRow_heap w g cs cs' T' (0, 0) hb) (grownBy_setRow w g cs'))
end
end Go.Proofs.Ytbknkahakmfhkaa
