/- General laws of ours over any program: slices that are read (Rd), slices that a call owns (Own), append, world changes. -/
import Derived.WalkKit
import Derived.Lib.Hide
import Derived.Handy
namespace Go.Proofs.Ytgcdeadfkljeaaa
open Go.RowKit
set_option linter.unusedVariables false
set_option linter.unusedSimpArgs false

theorem ret_int {k : IntKind} {a b : Int} (h : a = b) : Ending.returned (.int k a) = .returned (.int k b) := by rw [h]
theorem ret_bool {a b : Bool} (h : a = b) : Ending.returned (.bool a) = .returned (.bool b) := by rw [h]
theorem bits_range_u32 (op : BinOp) (a b : Int) : 0 ≤ bits op .u32 a b ∧ bits op .u32 a b < 4294967296 := by
  unfold bits; simp only [IntKind.wrap_u32]; omega
theorem bits_range_u8 (op : BinOp) (a b : Int) : 0 ≤ bits op .u8 a b ∧ bits op .u8 a b < 256 := by
  unfold bits; simp only [IntKind.wrap_u8]; omega
theorem bits_range_u64 (op : BinOp) (a b : Int) : 0 ≤ bits op .u64 a b ∧ bits op .u64 a b < 18446744073709551616 := by
  unfold bits; simp only [IntKind.wrap_u64]; omega

theorem u8max : IntKind.u8.max = 255 := by decide
theorem u16max : IntKind.u16.max = 65535 := by decide
theorem u32max : IntKind.u32.max = 4294967295 := by decide
theorem u64max : IntKind.u64.max = 18446744073709551615 := by decide
attribute [go_sem] u8max u16max u32max u64max
/-- A slice's cells read as the list l, each element one cell. -/
def Rd {α : Type} (w : World) (E : α → Value) (a : Option Addr) (l : List α) : Prop :=
  l = [] ∨ ∃ b off, a = some ⟨b, off, none⟩ ∧ ∀ j x, l[j]? = some x → w.cell? ⟨b, off + j, none⟩ = some (E x)

/-- The call owns the slice (from block number base on), and it reads as l. -/
def Own {α : Type} (w : World) (base : Nat) (e : TypeId) (E : α → Value) (a : Option Addr) (n c : Nat) (l : List α) : Prop :=
  w.ownsRow base e 1 (.slice a n c) n (l.map E) ∧ l.length = n

section
variable {α : Type} {w w' : World} {E : α → Value} {a : Option Addr} {l : List α} {base : Nat} {e : TypeId} {n c : Nat}

theorem Rd.nil : Rd w E a [] := .inl rfl

theorem Rd.at (h : Rd w E a l) {k : Nat} (hk : k < l.length) : ∃ b off, a = some ⟨b, off, none⟩ ∧ b < w.heap.size ∧ w.cell? ⟨b, off + k, none⟩ = some (E l[k]) := by
  rcases h with rfl | ⟨b, off, rfl, h⟩
  · simp at hk
  · have hc := h k l[k] (by simp [hk])
    exact ⟨b, off, rfl, World.block_lt_of_cell? w _ hc, hc⟩

theorem Rd.below (h : Rd w E a l) (hb : Below w.heap.size w w') : Rd w' E a l := by
  rcases h with rfl | ⟨b, off, rfl, h⟩
  · exact .inl rfl
  · refine .inr ⟨b, off, rfl, fun j x hj => ?_⟩
    have hc := h j x hj
    exact (hb.cell (p := ⟨b, off + j, none⟩) (World.block_lt_of_cell? w _ hc)).trans hc

/-- Read in an older world w0, of which w is a later one. -/
theorem Rd.later {w0 : World} (h : Rd w0 E a l) (hb : Below w0.heap.size w0 w) : Rd w E a l := h.below hb

theorem Rd.take (h : Rd w E a l) (k : Nat) : Rd w E a (l.take k) := by
  rcases h with rfl | ⟨b, off, rfl, h⟩
  · exact .inl (by simp)
  · refine .inr ⟨b, off, rfl, fun j x hj => h j x ?_⟩
    rw [List.getElem?_take] at hj
    split at hj
    · exact hj
    · cases hj

/-- A row laid by the walk itself. -/
theorem rd_new (w : World) (cs : Array Value) (e : TypeId) (fr : Nat × Nat) (l : List α) (h : cs.toList = l.map E) : Rd (w.alloc (.cells cs e fr)) E (some ⟨w.heap.size, 0, none⟩) l := by
  refine .inr ⟨_, _, rfl, fun j x hj => ?_⟩
  have hg : (w.alloc (.cells cs e fr)).heap[w.heap.size]? = some (.cells cs e fr) := heap_alloc_new w _
  rw [Nat.zero_add, cell_of_row _ _ j cs e fr hg, ← Array.getElem?_toList, h, List.getElem?_map, hj]; rfl

theorem Rd.drop {b off : Nat} (h : Rd w E (some ⟨b, off, none⟩) l) (k : Nat) : Rd w E (some ⟨b, off + k, none⟩) (l.drop k) := by
  rcases h with rfl | ⟨b', off', h0, h⟩
  · exact .inl (by simp)
  · simp only [Option.some.injEq, Addr.mk.injEq] at h0
    obtain ⟨rfl, rfl, _⟩ := h0
    refine .inr ⟨b, off + k, rfl, fun j x hj => ?_⟩
    rw [List.getElem?_drop] at hj
    rw [Nat.add_assoc]; exact h _ x hj

theorem Own.rd (h : Own w base e E a n c l) : Rd w E a l := by
  obtain ⟨⟨h1, h2⟩, h3⟩ := h
  rcases h2 with ⟨h4, h5⟩ | ⟨g, cap, cur, hv, hg, hh, hnc, hcm, hcs, htake⟩
  · subst h5
    exact .inl (List.eq_nil_of_length_eq_zero h3)
  · simp only [Value.slice.injEq] at hv
    obtain ⟨rfl, -, rfl⟩ := hv
    refine .inr ⟨g, 0, rfl, fun j x hj => ?_⟩
    rw [Nat.zero_add, cell_of_row w g j cur e (0, 0) hh]
    have hu : (l.map E)[j]? = some (E x) := by rw [List.getElem?_map, hj]; rfl
    rw [← htake, List.getElem?_take] at hu
    split at hu
    · simpa using hu
    · cases hu

theorem Own.len (h : Own w base e E a n c l) : l.length = n := h.2
theorem Own.nil : Own w base e E none 0 0 [] := ⟨World.ownsRow_nil _ _ _ _, rfl⟩

theorem ownsRow_mono {w : World} {b b' : Nat} {e : TypeId} {s : Nat} {v : Value} {n : Nat} {xs : List Value} (h : w.ownsRow b e s v n xs) (hb : b' ≤ b) : w.ownsRow b' e s v n xs := by
  refine ⟨h.1, ?_⟩
  rcases h.2 with h2 | ⟨g, cap, cur, hv, hg, r⟩
  · exact .inl h2
  · exact .inr ⟨g, cap, cur, hv, Nat.le_trans hb hg, r⟩
theorem Own.mono {b' : Nat} (h : Own w base e E a n c l) (hb : b' ≤ base) : Own w b' e E a n c l := ⟨ownsRow_mono h.1 hb, h.2⟩

theorem ownsRow_below {w w' : World} {b : Nat} {e : TypeId} {s : Nat} {v : Value} {n : Nat} {xs : List Value} (h : w.ownsRow b e s v n xs) (hb : Below w.heap.size w w') : w'.ownsRow b e s v n xs := by
  refine ⟨h.1, ?_⟩
  rcases h.2 with h2 | ⟨g, cap, cur, hv, hg, hh, r⟩
  · exact .inl h2
  · exact .inr ⟨g, cap, cur, hv, hg, (hb.block g (Array.getElem?_eq_some_iff.1 hh).1).trans hh, r⟩
theorem Own.below (h : Own w base e E a n c l) (hb : Below w.heap.size w w') : Own w' base e E a n c l := ⟨ownsRow_below h.1 hb, h.2⟩
theorem Own.empty (w : World) (e : TypeId) {base : Nat} (hb : base ≤ w.heap.size) : Own (w.alloc (.cells #[] e)) base e E (some ⟨w.heap.size, 0, none⟩) 0 0 [] :=
  ⟨World.ownsRow_made w #[] 0 hb (Nat.zero_le _) (by simp), rfl⟩
theorem Own.alloc (h : Own w base e E a n c l) (o : Obj) : Own (w.alloc o) base e E a n c l := ⟨h.1.alloc o, h.2⟩
theorem Own.drew (h : Own w base e E a n c l) : Own w.drew base e E a n c l := ⟨h.1.drew, h.2⟩
theorem Rd.drew (h : Rd w E a l) : Rd w.drew E a l := h
theorem Own.le_cap (h : Own w base e E a n c l) : n ≤ c := by
  obtain ⟨⟨h1, h2⟩, h3⟩ := h
  rcases h2 with ⟨h4, h5⟩ | ⟨g, cap, cur, hv, hg, hh, hnc, hcm, hcs, htake⟩
  · omega
  · simp only [Value.slice.injEq] at hv
    omega
theorem Own.cap_max (h : Own w base e E a n c l) : c ≤ maxLen := by
  obtain ⟨⟨h1, h2⟩, h3⟩ := h
  rcases h2 with ⟨h4, h5⟩ | ⟨g, cap, cur, hv, hg, hh, hnc, hcm, hcs, htake⟩
  · simp only [Value.slice.injEq] at h4
    obtain ⟨_, _, rfl⟩ := h4
    exact Nat.zero_le _
  · simp only [Value.slice.injEq] at hv
    omega

theorem below_trans0 {B : Nat} {w0 w1 w2 : World} (h : Below B w0 w1) (hB : B ≤ w1.heap.size) (k : Below w1.heap.size w1 w2) : Below B w0 w2 := h.trans (k.mono hB)
end

/-- The slice type T over the element type e: its row of the table. -/
structure SlT (P : Program) (T e : TypeId) (z : Value) (size bytes : Nat) : Prop where
  under : P.underlying T = some (.slice e)
  info : (P.info? e).map (fun i => (i.zero, i.size, i.bytes)) = some (some z, size, bytes)
  zsize : z.cells.size = size

section
variable {P : Program} {w : World} {ops : Array Oper} {rest : List Oper} {o : Oper} {a : Act} {Q : Exit → Act → World → Prop} {α : Type} {E : α → Value} {T e : TypeId} {z : Value} {bytes base : Nat}

theorem heap_size_alloc (w : World) (o : Obj) : (w.alloc o).heap.size = w.heap.size + 1 := by simp
theorem below_alloc (w : World) (o : Obj) : Below w.heap.size w (w.alloc o) := (Below.refl _ _).alloc (Nat.le_refl _) o

theorem grownBy_below {w w' : World} {row : Option Nat} {B : Nat} (hg : w.grownBy w' row) (hB : B ≤ w.heap.size) (hr : ∀ k, row = some k → B ≤ k) : Below B w w' := (Below.refl _ _).grown hg hB hr

theorem Own.step {B : Nat} {w0 w1 : World} {p : Option Addr} {n c : Nat} {l : List α} (hown : Own w B e E p n c l) (hB : Below B w0 w) (hg : w.grownBy w1 (Value.slice p n c).ownBlock) (hsz : B ≤ w.heap.size) : Below B w0 w1 :=
  hB.grown hg hsz (fun k hk => (hown.1.lt k hk).1)
theorem cell_push {v u : Value} (h : v = u) (w : World) (e : TypeId) : (w.alloc (.cells #[v] e)).cell? ⟨w.heap.size, 0, none⟩ = some u := by
  subst h; rw [cell_of_row _ _ 0 #[v] e (0, 0) (heap_alloc_new w _)]; rfl

/-- append(s, x): s is owned; the new element lies in a block of its own, which is the newest. -/
theorem wpList_push (hT : SlT P T e z 1 bytes) (hgd : o.guard = none) (s x : Operand)
    (ho : o.op = .call { callee := .builtin .append, args := #[s, x], argTypes := #[T, T] })
    {w0 : World} {ob : Obj} (hw : w = w0.alloc ob)
    {p : Option Addr} {n c : Nat} {l : List α} (hs : a.eval s = .slice p n c) (hown : Own w0 base e E p n c l)
    (y : α) (ad : Addr) (hx : a.eval x = .slice (some ad) 1 1) (hc : w.cell? ad = some (E y)) (h1 : (E y).oneCell' = true)
    (hlen : (n + 1) * bytes ≤ 140737488355328) (hlen2 : n + 1 ≤ maxLen) (hbase : base ≤ w0.heap.size)
    (h : ∀ p' c' w', Own w' base e E p' (n + 1) c' (l ++ [y]) → w0.grownBy w' (Value.slice p n c).ownBlock → wpList P ops Q rest (a.put o.dst (.slice p' (n + 1) c')) w') :
    wpList P ops Q (o :: rest) a w := by
  subst hw
  obtain ⟨i, hi, hz0, hz1, hz2⟩ := info_parts hT.info
  have ho2 := hown.1.alloc ob
  refine wpList_append_own (P := P) (w0.alloc ob) hgd s x T ho base e i z 1 bytes hT.under hi hz0 hz1 hz2 hT.zsize (by decide) _ n _ hs ho2 ad 1 1 [E y] hx rfl ?_ ?_ hlen2 hlen (by simp; omega) ?_
  · intro j u hu
    cases j with
    | zero => simp at hu; subst hu; simpa [Addr.add] using hc
    | succ j => simp at hu
  · intro u hu; simp at hu; subst hu; exact h1
  · intro v' w' hr hg hiff
    have hv : ∃ p' c', v' = .slice p' (n + 1) c' := by
      rcases hr.2 with ⟨_, h0⟩ | ⟨g, cap, cur, hv, _⟩
      · omega
      · exact ⟨_, _, hv⟩
    obtain ⟨p', c', rfl⟩ := hv
    refine h p' c' w' ⟨by simpa using hr, by simp [hown.2]⟩ ?_
    exact ⟨hg.os, hg.tape, hg.output, Nat.le_trans (by simp) hg.size, fun k hk hne => (hg.block k (by simp; omega) hne).trans (Below.heap_alloc _ _ _ hk)⟩

/-- append(s, src...): s is owned, src is read. -/
theorem wpList_cat (hT : SlT P T e z 1 bytes) (hgd : o.guard = none) (s x : Operand)
    (ho : o.op = .call { callee := .builtin .append, args := #[s, x], argTypes := #[T, T] })
    {p : Option Addr} {n c : Nat} {l : List α} (hs : a.eval s = .slice p n c) (hown : Own w base e E p n c l)
    {q : Option Addr} {m d : Nat} {k : List α} (hx : a.eval x = .slice q m d) (hk : k.length = m) (hr : Rd w E q k) (h1 : ∀ y ∈ k, (E y).oneCell' = true)
    (hlen : (n + m) * bytes ≤ 140737488355328) (hlen2 : n + m ≤ maxLen) (hbase : base ≤ w.heap.size)
    (h : ∀ p' c' w', Own w' base e E p' (n + m) c' (l ++ k) → w.grownBy w' (Value.slice p n c).ownBlock → (p' = none → p = none) → (p = none → m = 0 → p' = none) → wpList P ops Q rest (a.put o.dst (.slice p' (n + m) c')) w') :
    wpList P ops Q (o :: rest) a w := by
  obtain ⟨i, hi, hz0, hz1, hz2⟩ := info_parts hT.info
  by_cases hm : m = 0
  · subst hm
    have hk0 : k = [] := List.eq_nil_of_length_eq_zero hk
    subst hk0
    refine wpList_plain hgd fun K hK' => ?_
    have hrun : (Builtin.append_ #[T, T] o.type #[.slice p n c, .slice q 0 d]).run P w = .ok (.slice p n c) w := by
      have hle := hown.le_cap
      have hle2 : ¬ c < n := by omega
      have hf : ∀ (b : Option Addr) (d : Nat) (w : World), (Builtin.firstCells i.size 0 (.slice b 0 d)).run P w = .ok #[] w := by
        intro b d w
        cases b with
        | none => exact run_firstCells_none w i.size 0 0 d
        | some b => exact run_firstCells_some w i.size 0 b 0 d [] (by simp) (by simp)
      cases p with
      | none =>
        have : n = 0 ∧ c = 0 := by
          rcases hown.1.2 with ⟨h4, h5⟩ | ⟨g, cap, cur, hv, hg, hh, hnc, hcm, hcs, htake⟩
          · simp only [Value.slice.injEq] at h4; exact ⟨h5, h4.2.2⟩
          · simp at hv
        obtain ⟨rfl, rfl⟩ := this
        simp [Builtin.append_, run_underlying hT.under, sizeOf, typeInfo, hi, Builtin.lenOf, hf]
      | some b =>
        simp [Builtin.append_, run_underlying hT.under, sizeOf, typeInfo, hi, Builtin.lenOf, hle2, hf, storeCells]
    unfold Oper.wp
    simp [execOp, ho, resolve, invoke, builtin, hs, hx, hrun, Result.andThen]
    exact hK' _ _ (by simpa using h p c w (by simpa using hown) ⟨rfl, rfl, rfl, Nat.le_refl _, fun _ _ _ => rfl⟩ (fun h => h) (fun h _ => h))
  · rcases hr with rfl | ⟨b, off, rfl, hcell⟩
    · simp at hk; omega
    · refine wpList_append_own (P := P) w hgd s x T ho base e i z 1 bytes hT.under hi hz0 hz1 hz2 hT.zsize (by decide) _ n _ hs hown.1 ⟨b, off, none⟩ m d (k.map E) hx (by simp [hk]) ?_ ?_ hlen2 hlen hbase ?_
      · intro j u hu
        rw [List.getElem?_map] at hu
        obtain ⟨y, hy, rfl⟩ := Option.map_eq_some_iff.1 hu
        rw [Addr.add_lit]; exact hcell j y hy
      · intro u hu
        obtain ⟨y, hy, rfl⟩ := List.mem_map.1 hu
        exact h1 y hy
      · intro v' w' hr hg hiff
        have hv : ∃ p' c', v' = .slice p' (n + m) c' ∧ p' ≠ none := by
          rcases hr.2 with ⟨_, h0⟩ | ⟨g, cap, cur, hv, _⟩
          · omega
          · exact ⟨_, _, hv, by simp⟩
        obtain ⟨p', c', rfl, hp⟩ := hv
        exact h p' c' w' ⟨by simpa using hr, by simp [hown.2, hk]⟩ hg (fun h => (hp h).elim) (fun _ h => (hm h).elim)
end
end Go.Proofs.Ytgcdeadfkljeaaa
/- Laws of ours on blocks: a block known whole (Blk), allocation, a store of a whole array or struct. -/
namespace Go.Proofs.Ytgcdeadfkljeaaa
open Go.RowKit
set_option linter.unusedVariables false
set_option linter.unusedSimpArgs false

/-- Block g holds these cells, none frozen. -/
def Blk (w : World) (g : Nat) (T : TypeId) (cs : Array Value) : Prop := w.heap[g]? = some (.cells cs T (0, 0))

section
variable {w w' : World} {g : Nat} {T : TypeId} {cs : Array Value}
theorem Blk.cell (h : Blk w g T cs) {i : Nat} {v : Value} (hv : cs[i]? = some v) : w.cell? ⟨g, i, none⟩ = some v := by rw [cell_of_row w g i cs T (0, 0) h, hv]
theorem Blk.frozen (h : Blk w g T cs) (i : Nat) : w.frozen? ⟨g, i, none⟩ = false := frozen_of_row w g i cs T h
theorem Blk.lt (h : Blk w g T cs) : g < w.heap.size := (Array.getElem?_eq_some_iff.1 h).1
theorem Blk.below (h : Blk w g T cs) (hb : Below w.heap.size w w') : Blk w' g T cs := (hb.block g h.lt).trans h
theorem Blk.grown (h : Blk w g T cs) {row : Option Nat} (hg : w.grownBy w' row) (hne : some g ≠ row) : Blk w' g T cs := (hg.block g h.lt hne).trans h
theorem Blk.setCell (h : Blk w g T cs) (i : Nat) (v : Value) : Blk (w.setCell ⟨g, i, none⟩ v) g T (cs.setIfInBounds i v) := heap_setCell_same w g i cs T v h
theorem Blk.setCell_ne (h : Blk w g T cs) {a : Addr} (hne : g ≠ a.block) (v : Value) : Blk (w.setCell a v) g T cs := (heap_setCell_other w a g v hne).trans h
theorem Blk.alloc (h : Blk w g T cs) (o : Obj) : Blk (w.alloc o) g T cs := h.below (below_alloc w o)
theorem Blk.new (w : World) (T : TypeId) (cs : Array Value) : Blk (w.alloc (.cells cs T)) w.heap.size T cs := heap_alloc_new w _
theorem grownBy_setCell (w : World) (a : Addr) (v : Value) : w.grownBy (w.setCell a v) (some a.block) :=
  ⟨rfl, rfl, rfl, by simp [World.setCell], fun k _ hne => Below.heap_setCell w a v k (fun e => hne (by rw [e]))⟩
theorem grownBy_setRow (w : World) (g : Nat) (cs : Array Value) : w.grownBy (w.setRow g cs) (some g) :=
  ⟨rfl, rfl, rfl, by simp, fun k _ hne => setRow_other w g k cs (fun e => hne (by rw [e]))⟩
theorem grownBy_trans {a b c : World} {row : Option Nat} (h : a.grownBy b row) (k : b.grownBy c row) : a.grownBy c row :=
  ⟨k.os.trans h.os, k.tape.trans h.tape, k.output.trans h.output, Nat.le_trans h.size k.size, fun i hi hne => (k.block i (Nat.lt_of_lt_of_le hi h.size) hne).trans (h.block i hi hne)⟩
theorem grownBy_of_below {a b : World} (row : Option Nat) (h : Below a.heap.size a b) : a.grownBy b row := ⟨h.os, h.tape, h.output, h.size, fun k hk _ => h.block k hk⟩
theorem grownBy_of_below_ge {a b : World} {B : Nat} (h : Below B a b) (hB : a.heap.size ≤ B) (row : Option Nat) : a.grownBy b row := grownBy_of_below row (h.mono hB)
theorem below_of_grownBy {a b : World} (h : a.grownBy b none) : Below a.heap.size a b := ⟨h.os, h.tape, h.output, h.size, fun k hk => h.block k hk (by simp)⟩
end

section
variable {P : Program} {w : World} {ops : Array Oper} {rest : List Oper} {o : Oper} {a : Act} {Q : Exit → Act → World → Prop} {T : TypeId}

theorem wpList_alloc (hgd : o.guard = none) (ho : o.op = .alloc T) {z : Value} (hz : (P.info? T).bind (·.zero) = some z)
    (h : wpList P ops Q rest (a.put o.dst (.pointer (some ⟨w.heap.size, 0, none⟩))) (w.alloc (.cells z.cells T))) : wpList P ops Q (o :: rest) a w := by
  obtain ⟨i, hi, hz⟩ := Option.bind_eq_some_iff.1 hz
  refine wpList_plain hgd fun K hK => ?_
  unfold Oper.wp
  have hrun : (Instr.alloc T true (.tuple #[])).run P w = .ok (.pointer (some ⟨w.heap.size, 0, none⟩)) (w.alloc (.cells z.cells T)) := by
    simp [Instr.alloc, zeroValue, typeInfo, hi, hz, newVar, newRow, go_sem]
  simp [execOp, ho, hrun, Result.andThen]
  exact hK _ _ h

/-- A store of a whole array or struct into a block of its size. -/
theorem wpList_storeBlk (hgd : o.guard = none) (x y : Operand) (ho : o.op = .store T x y) {g : Nat} {T' : TypeId} {cs cs' : Array Value}
    (hx : a.eval x = .pointer (some ⟨g, 0, none⟩)) (hy : a.eval y = .agg cs') (hb : Blk w g T' cs) (hsz : cs'.size = cs.size)
    (hi : (P.info? T).map (·.size) = some cs.size) (h1 : ∀ u ∈ cs'.toList, u.oneCell' = true)
    (h : Blk (w.setRow g cs') g T' cs' → w.grownBy (w.setRow g cs') (some g) → wpList P ops Q rest (a.put o.dst undef) (w.setRow g cs')) : wpList P ops Q (o :: rest) a w := by
  obtain ⟨i, hi, hz⟩ := Option.map_eq_some_iff.1 hi
  refine wpList_plain hgd fun K hK => ?_
  have hst := run_storeCells_at P g 0 T' cs'.toList 0 cs w hb (by simp [hsz]) h1
  have hrun : (Instr.storeAt T (.pointer (some ⟨g, 0, none⟩)) (.agg cs')).run P w = .ok () (w.setRow g cs') := by
    simp only [Nat.zero_add, Nat.add_zero] at hst
    simp only [List.take_zero, List.nil_append] at hst
    rw [List.drop_of_length_le (by simp [hsz])] at hst
    simp only [List.append_nil, Array.toArray_toList] at hst
    simp [Instr.storeAt, Instr.sureAddr, storeVar, sizeOf, typeInfo, hi, Value.cells, hz, hsz, hst, go_sem]
  unfold Oper.wp
  simp [execOp, ho, hx, hy, hrun, Result.andThen]
  exact hK _ _ (h (setRow_heap w g cs cs' T' (0, 0) hb) (grownBy_setRow w g cs'))
end
end Go.Proofs.Ytgcdeadfkljeaaa
/- A block of m cells, each by its number. -/
namespace Go.Proofs.Ytgcdeadfkljeaaa
open Go.RowKit
set_option linter.unusedVariables false
set_option linter.unusedSimpArgs false

def Arr (w : World) (g : Nat) (T : TypeId) (m : Nat) (f : Nat → Value) : Prop := Blk w g T ((List.range m).map f).toArray
section
variable {w w' : World} {g : Nat} {T : TypeId} {m : Nat} {f f' : Nat → Value}
theorem Arr.cell (h : Arr w g T m f) {k : Nat} (hk : k < m) : w.cell? ⟨g, k, none⟩ = some (f k) := Blk.cell h (by simp [hk])
theorem Arr.frozen (h : Arr w g T m f) (k : Nat) : w.frozen? ⟨g, k, none⟩ = false := Blk.frozen h k
theorem Arr.below (h : Arr w g T m f) (hb : Below w.heap.size w w') : Arr w' g T m f := Blk.below h hb
theorem Arr.congr (h : Arr w g T m f) (he : ∀ k, k < m → f k = f' k) : Arr w g T m f' := by
  unfold Arr at h ⊢
  rwa [show (List.range m).map f' = (List.range m).map f from List.map_congr_left fun k hk => (he k (List.mem_range.1 hk)).symm]
theorem Arr.set (h : Arr w g T m f) (k : Nat) (v : Value) : Arr (w.setCell ⟨g, k, none⟩ v) g T m (fun j => if j = k then v else f j) := by
  have h1 := Blk.setCell h k v
  unfold Arr
  have : (((List.range m).map f).toArray.setIfInBounds k v) = ((List.range m).map fun j => if j = k then v else f j).toArray := by
    rw [List.setIfInBounds_toArray]
    congr 1
    apply List.ext_getElem?
    intro j
    rw [List.getElem?_set, List.getElem?_map, List.getElem?_map]
    by_cases hj : j < m
    · rw [List.getElem?_range hj]
      by_cases hjk : k = j
      · subst hjk; simp [hj]
      · have : ¬ j = k := fun e => hjk e.symm
        simp [hjk, this]
    · rw [List.getElem?_eq_none (l := List.range m) (by simpa using hj)]
      simp; omega
  rwa [this] at h1
theorem Arr.other (h : Arr w g T m f) {p : Addr} (hne : g ≠ p.block) (v : Value) : Arr (w.setCell p v) g T m f := Blk.setCell_ne h hne v
theorem Arr.grown (h : Arr w g T m f) {row : Option Nat} (hg : w.grownBy w' row) (hne : some g ≠ row) : Arr w' g T m f := Blk.grown h hg hne
end
end Go.Proofs.Ytgcdeadfkljeaaa
