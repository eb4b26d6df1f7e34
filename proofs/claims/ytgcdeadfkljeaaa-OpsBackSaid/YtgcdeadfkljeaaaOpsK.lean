/- A boxed row of bytes; the inner functions of ops.Put and ops.keys. -/
import Derived.Test.YtgcdeadfkljeaaaOpsJ
import Derived.Test.YtgcdeadfkljeaaaCurPB
namespace Go.Proofs.Ytgcdeadfkljeaaa
open Go.RowKit
set_option linter.unusedVariables false
set_option linter.unusedSimpArgs false

abbrev U8 : TypeId := 5
abbrev BSL : TypeId := 22
def u64N (v : Int) : Nat := (v % 18446744073709551616).toNat
theorem u64N_int (v : Int) : IntKind.u64.wrap v = ((u64N v : Nat) : Int) := by
  unfold u64N; simp [IntKind.wrap, IntKind.signed, IntKind.bits]; omega
theorem u64N_lt (v : Int) : u64N v < 18446744073709551616 := by unfold u64N; omega
/-- A variable at block g that holds a row of bytes. -/
def BV (w : World) (B g : Nat) (l : List UInt8) : Prop := B ≤ g ∧ ∃ p n c, Blk w g BSL #[.slice p n c] ∧ Buf w B U8 bE p n c l ∧ (∀ q : Addr, p = some q → q.block ≠ g)
theorem u64N_cast (v : Int) : IntKind.u64.wrap v = ((u64N v : Nat) : Int) := u64N_int v
theorem rd_ne_box {w : World} {p : Option Addr} {l : List UInt8} {g n c : Nat} {q : Option Addr} (h : Rd w bE p l) (hn : 0 < l.length) (hb : Blk w g BSL #[.slice q n c]) : ∀ q : Addr, p = some q → q.block ≠ g := by
  intro q hp he
  subst he
  obtain ⟨b', o', h1, _, h3⟩ := h.at hn
  rw [h1] at hp
  simp only [Option.some.injEq] at hp
  subst hp
  rw [Nat.add_zero, cell_of_row w b' o' _ _ _ hb] at h3
  cases o' with
  | zero => simp at h3
  | succ o => simp at h3
theorem Buf.kept {w w' : World} {B : Nat} {p : Option Addr} {n c g : Nat} {l : List UInt8} (h : Buf w B U8 bE p n c l) (hne : ∀ q : Addr, p = some q → q.block ≠ g) (hg : w.grownBy w' (some g)) : Buf w' B U8 bE p n c l := by
  rcases h with h | ⟨h1, h2, h3, h4⟩
  · exact .inl (h.grown hg (fun b hb he => hne _ hb (by simpa using he)))
  · exact .inr ⟨h1, h2, h3, h4.grown hg (fun b o hb he => hne _ hb (by simpa using he))⟩
theorem Rd.ne_new {α : Type} {E : α → Value} {w : World} {p : Option Addr} {l : List α} (h : Rd w E p l) (hn : 0 < l.length) : ∀ q : Addr, p = some q → q.block < w.heap.size := by
  intro q hp
  obtain ⟨b', o', h1, h2, _⟩ := h.at hn
  rw [h1] at hp
  simp only [Option.some.injEq] at hp
  subst hp
  exact h2
set_option maxRecDepth 100000 in
set_option maxHeartbeats 8000000 in
theorem put1_any (g B : Nat) (l : List UInt8) (v : Int) (z : Nat) (hz : z = 1 ∨ z = 2 ∨ z = 4) (w : World) (h : BV w B g l) (hl : l.length ≤ 1000000000) (hB : B ≤ w.heap.size) :
  Calls Try.prog 51 #[.int .i64 v, .int .i64 (z : Int), .pointer (some ⟨g, 0, none⟩)] w fun e w' => e = .returned (.tuple #[]) ∧ BV w' B g (l ++ putB (u64N v) z) ∧ w.grownBy w' (some g) := by
  obtain ⟨hBg, p, n, c, hb, hbuf, hne⟩ := h
  have c0 : w.cell? ⟨g, 0, none⟩ = some (.slice p n c) := hb.cell rfl
  have gv := u64N_cast v
  have HH := Lib.hid (And.intro hBg (And.intro hb (And.intro hbuf (And.intro hne hB))))
  have HL := Lib.hid hl
  have HV := Lib.hid (u64N_lt v)
  generalize u64N v = V at *
  clear hBg hb hbuf hne hB hl
  have HZ := Lib.hid hz
  clear hz
  go_enter Try.func51, Try.ntmps51
  go_wp2_with fail
  refine (cBig_any p n c l V (z : Int) w HH.out.2.2.1.len (by have := HL.out; have := HH.out.2.2.1.len; omega) HV.out (by omega) (by have := HZ.out; omega) HH.out.2.2.1.rd).mono ?_
  rintro e w1 ⟨p', n', c', rfl, hbuf, hB1⟩
  have HB1 := Lib.hid hB1
  have hg := HH.out.2.1.below hB1
  have HG := Lib.hid hg
  have HBF := Lib.hid hbuf
  have c1 : w1.cell? ⟨g, 0, none⟩ = some (.slice p n c) := hg.cell rfl
  have f1 := hg.frozen 0
  clear hbuf hB1 hg c0
  go_wp2
  go_end0
  have hsz : 0 < (l ++ putB V z).length := by
    rw [List.length_append]
    have : (putB V z).length = z := by rcases HZ.out with rfl | rfl | rfl <;> (unfold putB; rw [if_pos (by decide)]; simp [littleL_length])
    have := HZ.out
    omega
  have hne := rd_ne_box HBF.out.rd hsz HG.out
  have hgs := grownBy_setCell w1 ⟨g, 0, none⟩ (.slice p' n' c')
  refine ⟨rfl, ⟨HH.out.1, p', n', c', HG.out.setCell 0 _, (HBF.out.kept hne hgs).mono HH.out.2.2.2.2, hne⟩, ?_⟩
  exact grownBy_trans (grownBy_of_below _ HB1.out) hgs
set_option maxRecDepth 100000 in
set_option maxHeartbeats 8000000 in
theorem keys1_any (g B : Nat) (l : List UInt8) (v : Int) (w : World) (h : BV w B g l) (hl : l.length ≤ 1000000000) (hB : B ≤ w.heap.size) :
  Calls Try.prog 83 #[.int .i64 v, .pointer (some ⟨g, 0, none⟩)] w fun e w' => e = .returned (.tuple #[]) ∧ BV w' B g (l ++ putB (u64N v) 4) ∧ w.grownBy w' (some g) := by
  obtain ⟨hBg, p, n, c, hb, hbuf, hne⟩ := h
  have c0 : w.cell? ⟨g, 0, none⟩ = some (.slice p n c) := hb.cell rfl
  have gv := u64N_cast v
  have HH := Lib.hid (And.intro hBg (And.intro hb (And.intro hbuf (And.intro hne hB))))
  have HL := Lib.hid hl
  have HV := Lib.hid (u64N_lt v)
  generalize u64N v = V at *
  clear hBg hb hbuf hne hB hl
  go_enter Try.func83, Try.ntmps83
  go_wp2_with fail
  refine (cBig_any p n c l V 4 w HH.out.2.2.1.len (by have := HL.out; have := HH.out.2.2.1.len; omega) HV.out (by decide) (by decide) HH.out.2.2.1.rd).mono ?_
  rintro e w1 ⟨p', n', c', rfl, hbuf, hB1⟩
  have HB1 := Lib.hid hB1
  have hg := HH.out.2.1.below hB1
  have HG := Lib.hid hg
  have HBF := Lib.hid hbuf
  have c1 : w1.cell? ⟨g, 0, none⟩ = some (.slice p n c) := hg.cell rfl
  have f1 := hg.frozen 0
  clear hbuf hB1 hg c0
  go_wp2
  go_end0
  have hsz : 0 < (l ++ putB V 4).length := by
    rw [List.length_append]
    have : (putB V 4).length = 4 := by unfold putB; rw [if_pos (by decide)]; simp [littleL_length]
    omega
  have hne := rd_ne_box HBF.out.rd hsz HG.out
  have hgs := grownBy_setCell w1 ⟨g, 0, none⟩ (.slice p' n' c')
  refine ⟨rfl, ⟨HH.out.1, p', n', c', HG.out.setCell 0 _, (HBF.out.kept hne hgs).mono HH.out.2.2.2.2, hne⟩, ?_⟩
  exact grownBy_trans (grownBy_of_below _ HB1.out) hgs
theorem keep_own {w w' : World} {p : Option Addr} {n c : Nat} (hg : w.grownBy w' (Value.slice p n c).ownBlock) : ∀ x, (∀ q : Addr, p = some q → q.block ≠ x) → x < w.heap.size → w'.heap[x]? = w.heap[x]? := by
  intro x hx hlt
  refine hg.block x hlt (fun he => ?_)
  cases p with
  | none => simp [Value.ownBlock] at he
  | some q => exact hx q rfl (by simpa [Value.ownBlock] using he.symm)
section
variable {P : Program} {w : World} {ops : Array Oper} {rest : List Oper} {o : Oper} {a : Act} {Q : Exit → Act → World → Prop} {α : Type} {E : α → Value} {T e : TypeId} {z : Value} {bytes base : Nat}
theorem wpList_catB2 (hT : SlT P T e z 1 bytes) (hz1 : z.cells = #[z]) (hgd : o.guard = none) (s x : Operand)
    (ho : o.op = .call { callee := .builtin .append, args := #[s, x], argTypes := #[T, T] }) {wz : World}
    {p : Option Addr} {n c : Nat} {l : List α} (hs : a.eval s = .slice p n c) (hbuf : Buf w base e E p n c l) (hB : Below base wz w)
    {q : Option Addr} {m d : Nat} {k : List α} (hx : a.eval x = .slice q m d) (hk : k.length = m) (hr : Rd w E q k) (h1 : ∀ y ∈ k, (E y).oneCell' = true)
    (hlen : (n + m) * bytes ≤ 140737488355328) (hlen2 : n + m ≤ maxLen) (hbase : base ≤ w.heap.size)
    (h : ∀ p' c' w', Buf w' base e E p' (n + m) c' (l ++ k) → Below base wz w' → (∀ x, (∀ q : Addr, p = some q → q.block ≠ x) → x < w.heap.size → w'.heap[x]? = w.heap[x]?) → wpList P ops Q rest (a.put o.dst (.slice p' (n + m) c')) w') :
    wpList P ops Q (o :: rest) a w := by
  rcases hbuf with hown | ⟨rfl, hm, hl, hrl⟩
  · exact wpList_cat hT hgd s x ho hs hown hx hk hr h1 hlen hlen2 hbase fun p' c' w' h2 h3 _ _ => h p' c' w' (.inl h2) (hown.step hB h3 hbase) (keep_own h3)
  · obtain ⟨ti, hti, hz0, hz2, hz3⟩ := info_parts hT.info
    by_cases hm0 : m = 0
    · subst hm0
      have hk0 : k = [] := List.eq_nil_of_length_eq_zero hk
      subst hk0
      have hf : ∀ (b : Option Addr) (d : Nat) (w : World), (Builtin.firstCells ti.size 0 (.slice b 0 d)).run P w = .ok #[] w := by
        intro b d w
        cases b with
        | none => exact run_firstCells_none w ti.size 0 0 d
        | some b => exact run_firstCells_some w ti.size 0 b 0 d [] (by simp) (by simp)
      have hrun : (Builtin.append_ #[T, T] o.type #[.slice p c c, .slice q 0 d]).run P w = .ok (.slice p c c) w := by
        cases p with
        | none => simp [Builtin.append_, run_underlying hT.under, sizeOf, typeInfo, hti, Builtin.lenOf, hf]
        | some b => simp [Builtin.append_, run_underlying hT.under, sizeOf, typeInfo, hti, Builtin.lenOf, hf, storeCells]
      exact Lib.wpList_append_run w hgd s x T T ho _ _ hs hx _ _ hrun (h _ _ _ (by rw [Nat.add_zero, List.append_nil]; exact .inr ⟨rfl, hm, hl, hrl⟩) hB (fun _ _ _ => rfl))
    · have hmax := hlen2
      unfold maxLen at hlen2
      have hold : (Builtin.firstCells ti.size c (.slice p c c)).run P w.drew = .ok (l.map E).toArray w.drew := by
        rw [hz2]; exact firstCells_rd (P := P) (w := w.drew) (c := c) hl hrl.drew
      have hnew : (Builtin.firstCells ti.size m (.slice q m d)).run P w.drew = .ok (k.map E).toArray w.drew := by
        rw [hz2]; exact firstCells_rd (P := P) (w := w.drew) (c := d) hk hr.drew
      have hn : ¬ (c + m ≤ c) := by omega
      have h63 : ¬ (9223372036854775807 < ((c : Int) + (m : Int))) := by omega
      have hfit : ¬ (281474976710656 < Builtin.nextslicecap (c + m) c * ti.bytes) := by
        have := growslice_fits (need := c + m) (old := c) (bytes := ti.bytes) (by omega) (by rw [hz3]; exact hlen)
        omega
      have hrun : (Builtin.append_ #[T, T] o.type #[.slice p c c, .slice q m d]).run P w = .ok (.slice (some ⟨w.heap.size, 0, none⟩) (c + m) (grownCap w (c + m) c e)) (w.drew.alloc (.cells ((l.map E).toArray ++ (k.map E).toArray ++ Builtin.zeroCells z.cells (grownCap w (c + m) c e - (c + m))) e)) := by
        simp [Builtin.append_, run_underlying hT.under, sizeOf, typeInfo, zeroValue, hti, hz0, Builtin.lenOf, hn, h63, hfit, Question.forced, hold, hnew, newRow, grownCap, hm0]
        rw [← List.append_toArray, Array.append_assoc]
      refine Lib.wpList_append_run w hgd s x T T ho _ _ hs hx _ _ hrun (h _ _ _ (.inl ⟨⟨by simp [hl, hk], .inr ⟨w.heap.size, _, _, rfl, hbase, heap_alloc_new w.drew _, grownCap_ge _ _ _ _, grownCap_le_maxLen _ _ _ _ hmax, ?_, ?_⟩⟩, by simp [hl, hk]⟩) ?_ ?_)
      · have := grownCap_ge w (c + m) c e
        rw [hz1, zeroCells_one]; simp [hl, hk]; omega
      · rw [hz1, zeroCells_one]
        simp only [Array.toList_append, Array.toList_replicate, List.append_assoc, Nat.mul_one]
        rw [← List.append_assoc, List.take_append_of_le_length (by simp [hl, hk]), List.take_of_length_le (by simp [hl, hk])]
        simp
      · have hb : Below w.heap.size w w.drew := (Below.refl _ _).drew
        exact hB.trans ((hb.alloc (by simp) _).mono hbase)
      · intro x _ hx
        have hb : Below w.heap.size w w.drew := (Below.refl _ _).drew
        exact (hb.alloc (by simp) _).block x hx
end
theorem BV.store {w : World} {B g : Nat} {l : List UInt8} {p p0 : Option Addr} {n c n0 c0 : Nat} (hB : B ≤ g) (hb : Blk w g BSL #[.slice p0 n0 c0]) (hbuf : Buf w B U8 bE p n c l) (h0 : 0 < l.length) : BV (w.setCell ⟨g, 0, none⟩ (.slice p n c)) B g l := by
  have hne := rd_ne_box hbuf.rd h0 hb
  exact ⟨hB, p, n, c, hb.setCell 0 _, hbuf.kept hne (grownBy_setCell w _ _), hne⟩
theorem blk_keep {w w' : World} {g : Nat} {T : TypeId} {cs : Array Value} {p : Option Addr} (h : Blk w g T cs) (hk : ∀ x, (∀ q : Addr, p = some q → q.block ≠ x) → x < w.heap.size → w'.heap[x]? = w.heap[x]?) (hne : ∀ q : Addr, p = some q → q.block ≠ g) : Blk w' g T cs := (hk g hne h.lt).trans h
theorem BV.below {w w' : World} {B g : Nat} {l : List UInt8} (h : BV w B g l) (hb : Below w.heap.size w w') : BV w' B g l := by
  obtain ⟨h1, p, n, c, h2, h3, h4⟩ := h
  exact ⟨h1, p, n, c, h2.below hb, h3.below hb, h4⟩
end Go.Proofs.Ytgcdeadfkljeaaa
