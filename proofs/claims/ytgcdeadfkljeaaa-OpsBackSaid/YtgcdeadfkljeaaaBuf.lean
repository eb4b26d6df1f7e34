/- Slices that are read, or owned; slices.Clone, slices.Clip of bytes. -/
import Derived.Test.YtgcdeadfkljeaaaRows
import Derived.Test.YtgcdeadfkljeaaaSlB
import Derived.Test.YtgcdeadfkljeaaaOwn2
import Derived.WalkSpells
import Derived.Deep.Draws
namespace Go.Proofs.Ytgcdeadfkljeaaa
open Go.RowKit
set_option linter.unusedVariables false
set_option linter.unusedSimpArgs false

theorem byteOne (k : List UInt8) : ∀ y ∈ k, (Value.int .u8 (y.toNat : Int)).oneCell' = true := fun _ _ => rfl
abbrev bE : UInt8 → Value := fun b => .int .u8 (b.toNat : Int)

theorem Rd.grown {α : Type} {w w' : World} {E : α → Value} {a : Option Addr} {l : List α} {row : Option Nat} (h : Rd w E a l) (hg : w.grownBy w' row) (hne : ∀ g off, a = some ⟨g, off, none⟩ → some g ≠ row) : Rd w' E a l := by
  rcases h with rfl | ⟨b, off, rfl, h⟩
  · exact .inl rfl
  · exact .inr ⟨b, off, rfl, fun j x hj => hg.cell (h j x hj) (hne b off rfl)⟩
/-- Owned, or read at its full capacity. -/
def Buf {α : Type} (w : World) (base : Nat) (e : TypeId) (E : α → Value) (a : Option Addr) (n c : Nat) (l : List α) : Prop :=
  Own w base e E a n c l ∨ (c = n ∧ n ≤ maxLen ∧ l.length = n ∧ Rd w E a l)
section
variable {α : Type} {w w' : World} {E : α → Value} {a : Option Addr} {l : List α} {base : Nat} {e : TypeId} {n c : Nat}
theorem Buf.rd (h : Buf w base e E a n c l) : Rd w E a l := by rcases h with h | ⟨_, _, _, h⟩; exact h.rd; exact h
theorem Buf.len (h : Buf w base e E a n c l) : l.length = n := by rcases h with h | ⟨_, _, h, _⟩; exact h.len; exact h
theorem Buf.below (h : Buf w base e E a n c l) (hb : Below w.heap.size w w') : Buf w' base e E a n c l := by
  rcases h with h | ⟨h1, h2, h3, h4⟩
  · exact .inl (h.below hb)
  · exact .inr ⟨h1, h2, h3, h4.below hb⟩
theorem Buf.mono {b' : Nat} (h : Buf w base e E a n c l) (hb : b' ≤ base) : Buf w b' e E a n c l := by
  rcases h with h | h
  · exact .inl (h.mono hb)
  · exact .inr h
theorem own_empty0 (w : World) (e : TypeId) {base : Nat} (hb : base ≤ w.heap.size) : Own (w.alloc (.cells #[] e)) base e E (some ⟨w.heap.size, 0, none⟩) 0 0 ([] : List α) :=
  ⟨World.ownsRow_made w #[] 0 hb (Nat.zero_le _) (by simp), rfl⟩
end

section
variable {P : Program} {w : World} {ops : Array Oper} {rest : List Oper} {o : Oper} {a : Act} {Q : Exit → Act → World → Prop} {α : Type} {E : α → Value} {T e : TypeId} {z : Value} {bytes base : Nat}

theorem firstCells_rd {w : World} {p : Option Addr} {n c : Nat} {l : List α} (hl : l.length = n) (hr : Rd w E p l) : (Builtin.firstCells 1 n (.slice p n c)).run P w = .ok (l.map E).toArray w := by
  rcases hr with h0 | ⟨b, off, rfl, hc⟩
  · subst h0
    have : n = 0 := by simpa using hl.symm
    subst this
    cases p with
    | none => simpa using run_firstCells_none (P := P) w 1 0 0 c
    | some b => simpa using run_firstCells_some (P := P) w 1 0 b 0 c [] (by simp) (by simp)
  · refine run_firstCells_some w 1 n _ n c (l.map E) (by simp [hl]) ?_
    intro j u hu
    rw [List.getElem?_map] at hu
    obtain ⟨y, hy, rfl⟩ := Option.map_eq_some_iff.1 hu
    rw [Addr.add_lit]; exact hc j y hy

/-- append(s, x) where s has no room: a new row. -/
theorem wpList_push_full2 (hT : SlT P T e z 1 bytes) (hz1 : z.cells = #[z]) (hgd : o.guard = none) (s x : Operand)
    (ho : o.op = .call { callee := .builtin .append, args := #[s, x], argTypes := #[T, T] })
    {w0 : World} {ob : Obj} (hw : w = w0.alloc ob)
    {p : Option Addr} {n : Nat} {l : List α} (hs : a.eval s = .slice p n n) (hl : l.length = n) (hr : Rd w0 E p l)
    (y : α) (ad : Addr) (hx : a.eval x = .slice (some ad) 1 1) (hc : w.cell? ad = some (E y)) (h1 : (E y).oneCell' = true)
    (hlen : (n + 1) * bytes ≤ 140737488355328) (hlen2 : n + 1 ≤ maxLen) (hbase : base ≤ w0.heap.size)
    (h : ∀ p' c' w', Own w' base e E p' (n + 1) c' (l ++ [y]) → Below w0.heap.size w0 w' → (∃ g, p' = some ⟨g, 0, none⟩ ∧ w0.heap.size ≤ g) → wpList P ops Q rest (a.put o.dst (.slice p' (n + 1) c')) w') :
    wpList P ops Q (o :: rest) a w := by
  subst hw
  obtain ⟨ti, hti, hz0, hz2, hz3⟩ := info_parts hT.info
  have hmax := hlen2
  unfold maxLen at hlen2
  have hrd := hr.below (below_alloc w0 ob)
  have hold : (Builtin.firstCells ti.size n (.slice p n n)).run P (w0.alloc ob).drew = .ok (l.map E).toArray (w0.alloc ob).drew := by
    rw [hz2]; exact firstCells_rd (P := P) (w := (w0.alloc ob).drew) (c := n) hl hrd.drew
  have hnew : (Builtin.firstCells ti.size 1 (.slice (some ad) 1 1)).run P (w0.alloc ob).drew = .ok #[E y] (w0.alloc ob).drew := by
    rw [hz2]; exact run_firstCells_some (P := P) (w0.alloc ob).drew 1 1 ad 1 1 [E y] rfl (by
    intro j v hv
    cases j with
    | zero => simp at hv; subst hv; simpa [Addr.add] using hc
    | succ j => simp at hv)
  have hn : ¬ (n + 1 ≤ n) := by omega
  have h63 : ¬ (9223372036854775807 < ((n : Int) + 1)) := by omega
  have hfit : ¬ (281474976710656 < Builtin.nextslicecap (n + 1) n * ti.bytes) := by
    have := growslice_fits (need := n + 1) (old := n) (bytes := ti.bytes) (by omega) (by rw [hz3]; exact hlen)
    omega
  have hrun : (Builtin.append_ #[T, T] o.type #[.slice p n n, .slice (some ad) 1 1]).run P (w0.alloc ob) =
      .ok (.slice (some ⟨(w0.alloc ob).heap.size, 0, none⟩) (n + 1) (grownCap (w0.alloc ob) (n + 1) n e)) ((w0.alloc ob).drew.alloc (.cells ((l.map E).toArray ++ #[E y] ++ Builtin.zeroCells z.cells (grownCap (w0.alloc ob) (n + 1) n e - (n + 1))) e)) := by
    simp [Builtin.append_, run_underlying hT.under, sizeOf, typeInfo, zeroValue, hti, hz0, Builtin.lenOf, hn, h63, hfit, Question.forced, hold, hnew, newRow, grownCap]
  refine Lib.wpList_append_run (w0.alloc ob) hgd s x T T ho _ _ hs hx _ _ hrun (h _ _ _ ⟨⟨by simp [hl], .inr ⟨(w0.alloc ob).heap.size, _, _, rfl, by simp; omega, heap_alloc_new (w0.alloc ob).drew _, grownCap_ge _ _ _ _, grownCap_le_maxLen _ _ _ _ hmax, ?_, ?_⟩⟩, by simp [hl]⟩ ?_ ⟨_, rfl, by simp⟩)
  · have := grownCap_ge (w0.alloc ob) (n + 1) n e
    rw [hz1, zeroCells_one]; simp [hl]; omega
  · rw [hz1, zeroCells_one]
    simp only [Array.toList_append, Array.toList_replicate, List.append_assoc, Nat.mul_one]
    rw [← List.append_assoc, List.take_append_of_le_length (by simp [hl]), List.take_of_length_le (by simp [hl])]
    simp
  · have hb : Below w0.heap.size (w0.alloc ob) (w0.alloc ob).drew := (Below.refl _ _).drew
    exact ((below_alloc w0 ob).trans hb).alloc (by simp) _

/-- append(s, x): s is owned; where the new row lies. -/
theorem wpList_push2 (hT : SlT P T e z 1 bytes) (hz1 : z.cells = #[z]) (hgd : o.guard = none) (s x : Operand)
    (ho : o.op = .call { callee := .builtin .append, args := #[s, x], argTypes := #[T, T] })
    {w0 : World} {ob : Obj} (hw : w = w0.alloc ob)
    {p : Option Addr} {n c : Nat} {l : List α} (hs : a.eval s = .slice p n c) (hown : Own w0 base e E p n c l)
    (y : α) (ad : Addr) (hx : a.eval x = .slice (some ad) 1 1) (hc : w.cell? ad = some (E y)) (h1 : (E y).oneCell' = true)
    (hlen : (n + 1) * bytes ≤ 140737488355328) (hlen2 : n + 1 ≤ maxLen) (hbase : base ≤ w0.heap.size)
    (h : ∀ p' c' w', Own w' base e E p' (n + 1) c' (l ++ [y]) → w0.grownBy w' (Value.slice p n c).ownBlock → (p' = p ∨ ∃ g, p' = some ⟨g, 0, none⟩ ∧ w0.heap.size ≤ g) → wpList P ops Q rest (a.put o.dst (.slice p' (n + 1) c')) w') :
    wpList P ops Q (o :: rest) a w := by
  have hle := hown.le_cap
  by_cases hroom : n + 1 ≤ c
  · subst hw
    obtain ⟨ti, hti, hz0, hz2, hz3⟩ := info_parts hT.info
    have hown' := hown.alloc ob
    obtain ⟨⟨h1', h2⟩, h3⟩ := hown'
    rcases h2 with ⟨h4, h5⟩ | ⟨g, cap, cur, hv, hg, hh, hnc, hcm, hcs, htake⟩
    · simp only [Value.slice.injEq] at h4; omega
    · simp only [Value.slice.injEq] at hv
      obtain ⟨rfl, -, rfl⟩ := hv
      have hl := hown.2
      have hrun := run_append_room (P := P) (ty := o.type) (w0.alloc ob) T e ti hT.under hti g n c cur hh ad 1 1 [E y] (by rw [hz2]; rfl) (by
        intro j v hv
        cases j with
        | zero => simp at hv; subst hv; simpa [Addr.add] using hc
        | succ j => simp at hv) (by intro u hu; simp at hu; subst hu; exact h1) hroom (by rw [hz2]; simp; omega)
      refine Lib.wpList_append_run (w0.alloc ob) hgd s x T T ho _ _ hs hx _ _ hrun (h _ _ _ ⟨⟨by simp [hl], .inr ⟨g, c, _, rfl, hg, setRow_heap _ g cur _ e (0, 0) hh, hroom, hcm, ?_, ?_⟩⟩, by simp [hl]⟩ ?_ (.inl rfl))
      · have hcl : cur.toList.length = c := by simpa using hcs
        rw [hz2]; simp; omega
      · have hcl : cur.toList.length = c := by simpa using hcs
        rw [hz2]
        simp only [Nat.mul_one, List.length_cons, List.length_nil] at htake ⊢
        rw [List.take_append_of_le_length (by simp; simp at hcl; omega), List.take_of_length_le (by simp; omega), htake]
        simp
      · have h1 := World.grownBy_alloc w0 ob (some g)
        have h2 := grownBy_setRow (w0.alloc ob) g ((cur.toList.take (n * ti.size) ++ [E y] ++ cur.toList.drop (n * ti.size + [E y].length)).toArray)
        exact grownBy_trans h1 h2
  · have hcn : c = n := by omega
    subst hcn
    exact wpList_push_full2 hT hz1 hgd s x ho hw hs hown.2 hown.rd y ad hx hc h1 hlen hlen2 hbase fun p' c' w' k1 k2 k3 => h p' c' w' k1 (grownBy_of_below _ k2) (.inr k3)

/-- append(s, x): s is owned or full. -/
theorem wpList_pushB (hT : SlT P T e z 1 bytes) (hz1 : z.cells = #[z]) (hgd : o.guard = none) (s x : Operand)
    (ho : o.op = .call { callee := .builtin .append, args := #[s, x], argTypes := #[T, T] })
    {w0 wz : World} {ob : Obj} (hw : w = w0.alloc ob)
    {p : Option Addr} {n c : Nat} {l : List α} (hs : a.eval s = .slice p n c) (hbuf : Buf w0 base e E p n c l) (hB : Below base wz w0)
    (y : α) (ad : Addr) (hx : a.eval x = .slice (some ad) 1 1) (hc : w.cell? ad = some (E y)) (h1 : (E y).oneCell' = true)
    (hlen : (n + 1) * bytes ≤ 140737488355328) (hlen2 : n + 1 ≤ maxLen) (hbase : base ≤ w0.heap.size)
    (h : ∀ p' c' w', Own w' base e E p' (n + 1) c' (l ++ [y]) → Below base wz w' → wpList P ops Q rest (a.put o.dst (.slice p' (n + 1) c')) w') :
    wpList P ops Q (o :: rest) a w := by
  rcases hbuf with hown | ⟨rfl, hm, hl, hr⟩
  · exact wpList_push hT hgd s x ho hw hs hown y ad hx hc h1 hlen hlen2 hbase fun p' c' w' h1 h2 => h p' c' w' h1 (hown.step hB h2 hbase)
  · exact wpList_push_full2 hT hz1 hgd s x ho hw hs hl hr y ad hx hc h1 hlen hlen2 hbase fun p' c' w' h1 h2 _ => h p' c' w' h1 (hB.trans (h2.mono hbase))
end

set_option maxRecDepth 100000 in
set_option maxHeartbeats 1000000 in
theorem clone_any (a : Option Addr) (n c : Nat) (l : List UInt8) (w : World) (hl : l.length = n) (hn : n ≤ 140737488355328) (hr : Rd w bE a l) :
  Calls Try.prog 56 #[.slice a n c] w fun e w' => ∃ a' c', e = .returned (.slice a' n c') ∧ Own w' w.heap.size 5 bE a' n c' l ∧ Below w.heap.size w w' := by
  have hnil := fun w => Lib.run_eql_slice_nil (P := Try.prog) w 22 5 a n c 0 0 Try.underlying22
  cases a with
  | none =>
    have h0 : l = [] := by rcases hr with h | ⟨b, off, h, _⟩; exact h; cases h
    subst h0
    have : n = 0 := by simpa using hl.symm
    subst this
    go_enter Try.func56, Try.ntmps56
    go_wp2
    go_ret
    exact ⟨none, 0, rfl, Own.nil, Below.refl _ _⟩
  | some ad =>
    have hown0 := own_empty0 (E := bE) w 5 (Nat.le_refl _)
    have hB0 := below_alloc w (.cells #[] 5)
    have hs0 := hB0.size
    have HQ := Lib.hid (hr.below hB0)
    have HL := Lib.hid hl
    clear hl hr
    go_enter Try.func56, Try.ntmps56
    go_wp2_with (at_builtin; refine wpList_cat slByte rfl _ _ rfl rfl hown0 rfl HL.out HQ.out (byteOne _) (by omega) (by unfold maxLen; omega) hs0 ?_; intro a4 c4 w4 hown4 hg4 _ _; simp only [Nat.zero_add, List.nil_append] at hown4; have hb7 := hown0.step hB0 hg4 hs0; clear hown0 hB0 hg4)
    go_ret
    exact ⟨_, _, rfl, hown4, hb7⟩

set_option maxRecDepth 100000 in
set_option maxHeartbeats 1000000 in
theorem clip_any (a : Option Addr) (n c : Nat) (w : World) (hn : n ≤ c) (hc : c ≤ maxLen) (hnil : a = none → n = 0 ∧ c = 0) :
  Calls Try.prog 81 #[.slice a n c] w fun e w' => e = .returned (.slice a n n) ∧ w = w' := by
  unfold maxLen at hc
  cases a with
  | none =>
    obtain ⟨rfl, rfl⟩ := hnil rfl
    go_enter Try.func81, Try.ntmps81
    go_wp2
    go_ret
    exact ⟨rfl, rfl⟩
  | some ad =>
    clear hnil
    go_enter Try.func81, Try.ntmps81
    go_wp2
    go_ret
    exact ⟨rfl, rfl⟩
end Go.Proofs.Ytgcdeadfkljeaaa
/- Bytes to strings. -/
namespace Go.Proofs.Ytgcdeadfkljeaaa
open Go.RowKit
set_option linter.unusedVariables false
set_option linter.unusedSimpArgs false

def strOf (l : List UInt8) : ByteArray := ⟨l.toArray⟩
theorem strOf_toList (l : List UInt8) : (strOf l).toList = l := by
  exact ByteArray.toList_mk l
theorem push_fold (ns : List Int) : ∀ (s : ByteArray), ns.foldl (fun r n => r.push (UInt8.ofNat n.toNat)) s = ⟨s.data ++ (ns.map fun n => UInt8.ofNat n.toNat).toArray⟩ := by
  induction ns with
  | nil => intro s; simp
  | cons n ns ih =>
    intro s
    rw [List.foldl_cons, ih]
    congr 1
    simp [ByteArray.push]
theorem conv_str {P : Program} {T S e : TypeId} (hs : P.underlying T = some (.slice e)) (he : P.underlying e = some (.int .u8)) (hd : P.underlying S = some .string)
    {w : World} {a : Option Addr} {n : Nat} (c : Nat) {l : List UInt8} (hl : l.length = n) (hr : Rd w bE a l) :
    (convert T S (.slice a n c)).run P w = .ok (.string (strOf l)) w := by
  rw [run_convert_bytes_string w T S e a n c hs he hd]
  rcases hr with rfl | ⟨b, off, rfl, hc⟩
  · have : n = 0 := by simpa using hl.symm
    subst this
    cases a with
    | none => simp [Conv.bytesToString, strOf]; rfl
    | some ad =>
      have h0 : (loadCells ad 0).run P w = .ok (([] : List Int).map (Value.int .u8)).toArray w := by
        simpa using run_loadCells_list (P := P) w ad [] (fun j v hv => by simp at hv)
      rw [run_bytesToString w ad 0 c [] h0]; rfl
  · have hload : (loadCells ⟨b, off, none⟩ n).run P w = .ok ((l.map fun x => (x.toNat : Int)).map (Value.int .u8)).toArray w := by
      have := run_loadCells_list (P := P) w ⟨b, off, none⟩ ((l.map fun x => (x.toNat : Int)).map (Value.int .u8)) (fun j v hv => by
        rw [Addr.add_lit]
        simp only [List.map_map, List.getElem?_map] at hv
        obtain ⟨x, hx, rfl⟩ := Option.map_eq_some_iff.1 hv
        exact hc j x hx)
      simpa [hl] using this
    rw [run_bytesToString w _ n c _ hload, push_fold]
    congr 2
    simp [strOf, ByteArray.empty, ByteArray.emptyWithCapacity, Function.comp_def]
    rfl
theorem below_drew_iff {B : Nat} {w w' : World} : Below B w w'.drew ↔ Below B w w' := ⟨fun h => ⟨h.os, h.tape, h.output, h.size, h.block⟩, fun h => h.drew⟩
theorem below_drewN_iff {B n : Nat} {w w' : World} : Below B w (w'.drewN n) ↔ Below B w w' := ⟨fun h => ⟨h.os, h.tape, h.output, h.size, h.block⟩, fun h => ⟨h.os, h.tape, h.output, h.size, h.block⟩⟩
end Go.Proofs.Ytgcdeadfkljeaaa
/- Cells that hold bytes, where a struct's block changes. -/
namespace Go.Proofs.Ytgcdeadfkljeaaa
open Go.RowKit
set_option linter.unusedVariables false
set_option linter.unusedSimpArgs false

/-- Cells that hold bytes keep them. -/
def ByteKeep (w w' : World) : Prop := ∀ b off (x : UInt8), w.cell? ⟨b, off, none⟩ = some (bE x) → w'.cell? ⟨b, off, none⟩ = some (bE x)
theorem ByteKeep.refl (w : World) : ByteKeep w w := fun _ _ _ h => h
theorem keep_of_grown {w w' : World} {g : Nat} (hg : w.grownBy w' (some g)) (hno : ∀ off (x : UInt8), w.cell? ⟨g, off, none⟩ ≠ some (bE x)) : ByteKeep w w' := by
  intro b off x h
  by_cases hb : b = g
  · subst hb; exact absurd h (hno off x)
  · exact hg.cell h (by simpa using hb)
theorem Rd.keep {w w' : World} {a : Option Addr} {l : List UInt8} (h : Rd w bE a l) (hk : ByteKeep w w') : Rd w' bE a l := by
  rcases h with rfl | ⟨b, off, rfl, h⟩
  · exact .inl rfl
  · exact .inr ⟨b, off, rfl, fun j x hj => hk _ _ _ (h j x hj)⟩
theorem blk_nobyte {w : World} {g : Nat} {T : TypeId} {a : Option Addr} {n c : Nat} {x y : Int} (h : Blk w g T #[.slice a n c, .int .i64 x, .int .i64 y]) : ∀ off (z : UInt8), w.cell? ⟨g, off, none⟩ ≠ some (bE z) := by
  intro off z he
  rw [cell_of_row w g off _ T (0, 0) h] at he
  match off, he with
  | 0, he => simp at he
  | 1, he => simp at he
  | 2, he => simp at he
  | off+3, he => simp at he
end Go.Proofs.Ytgcdeadfkljeaaa
