/- Rows of tokens; what tokens stand for. -/
import Derived.Test.YtnfdbljeinlblaaMatE
import Derived.Test.YtnfdbljeinlblaaOpenS
namespace Go.Proofs.Ytnfdbljeinlblaa
open Go.RowKit
set_option linter.unusedVariables false
set_option linter.unusedSimpArgs false

theorem slTok : SlT Try.prog 44 TT (.agg #[.int .u8 0, .int .i64 0, .int .i64 0]) 3 24 := ⟨Try.underlying44, by kernel_rfl, rfl⟩
def tokL (ts : List Tok) : List Value := ts.flatMap fun q => [.int .u8 q.1, .int .i64 q.2.1, .int .i64 q.2.2]
theorem tokL_len (ts : List Tok) : (tokL ts).length = ts.length * 3 := by
  induction ts with
  | nil => rfl
  | cons p r ih => simp only [tokL, List.flatMap_cons, List.length_append, List.length_cons, List.length_nil] at ih ⊢; omega
theorem tokL_app (ps qs : List Tok) : tokL (ps ++ qs) = tokL ps ++ tokL qs := by simp [tokL]
theorem tokL_at : ∀ (ps : List Tok) (i : Nat) (h : i < ps.length), (tokL ps)[i * 3]? = some (.int .u8 ps[i].1) ∧ (tokL ps)[i * 3 + 1]? = some (.int .i64 ps[i].2.1) ∧ (tokL ps)[i * 3 + 2]? = some (.int .i64 ps[i].2.2)
  | p :: r, 0, _ => ⟨rfl, rfl, rfl⟩
  | p :: r, i + 1, h => by
    have := tokL_at r i (by simpa using h)
    have e1 : (i + 1) * 3 = i * 3 + 1 + 1 + 1 := by omega
    have e2 : (i + 1) * 3 + 1 = i * 3 + 1 + 1 + 1 + 1 := by omega
    have e3 : (i + 1) * 3 + 2 = i * 3 + 2 + 1 + 1 + 1 := by omega
    rw [e3, e2, e1]
    exact this
/-- A slice of tokens that are read. -/
def RdT (w : World) (a : Option Addr) (n : Nat) (ts : List Tok) : Prop :=
  ts.length = n ∧ ∃ F, RdN w a n 3 F ∧ ∀ i (h : i < ts.length), F i 0 = .int .u8 ts[i].1 ∧ F i 1 = .int .i64 ts[i].2.1 ∧ F i 2 = .int .i64 ts[i].2.2
theorem RdT.below {w w' : World} {a : Option Addr} {n : Nat} {ts : List Tok} (h : RdT w a n ts) (hb : Below w.heap.size w w') : RdT w' a n ts := by
  obtain ⟨h1, F, h2, h3⟩ := h
  exact ⟨h1, F, h2.below hb, h3⟩
theorem RdT.at {w : World} {a : Option Addr} {n : Nat} {ts : List Tok} (h : RdT w a n ts) {i : Nat} (hi : i < ts.length) :
    ∃ b off, a = some ⟨b, off, none⟩ ∧ w.cell? ⟨b, off + i * 3, none⟩ = some (.int .u8 ts[i].1) ∧ w.cell? ⟨b, off + i * 3 + 1, none⟩ = some (.int .i64 ts[i].2.1) ∧ w.cell? ⟨b, off + i * 3 + 2, none⟩ = some (.int .i64 ts[i].2.2) := by
  obtain ⟨h1, F, h2, h3⟩ := h
  obtain ⟨b, off, rfl, hc⟩ := h2.at (i := i) (by omega)
  have e := h3 i hi
  refine ⟨b, off, rfl, ?_, ?_, ?_⟩
  · have := hc 0 (by omega); rw [e.1] at this; exact this
  · have := hc 1 (by omega); rw [e.2.1, ← Nat.add_assoc] at this; exact this
  · have := hc 2 (by omega); rw [e.2.2, ← Nat.add_assoc] at this; exact this
/-- An owned slice of tokens. -/
def OwnT (w : World) (base : Nat) (a : Option Addr) (n c : Nat) (ts : List Tok) : Prop := w.ownsRow base TT 3 (.slice a n c) n (tokL ts) ∧ ts.length = n
theorem OwnT.nil {w : World} {base : Nat} : OwnT w base none 0 0 [] := ⟨World.ownsRow_nil _ _ _ _, rfl⟩
section
variable {w w' : World} {base : Nat} {a : Option Addr} {n c : Nat} {ts : List Tok}
theorem OwnT.below (h : OwnT w base a n c ts) (hb : Below w.heap.size w w') : OwnT w' base a n c ts := ⟨ownsRow_below h.1 hb, h.2⟩
theorem OwnT.keep (h : OwnT w base a n c ts) (hb : TokKeep w w') : OwnT w' base a n c ts := by
  obtain ⟨⟨h1, h2⟩, h3⟩ := h
  refine ⟨⟨h1, ?_⟩, h3⟩
  rcases h2 with h4 | ⟨g, cap, cur, hv, hg, hh, r⟩
  · exact .inl h4
  · exact .inr ⟨g, cap, cur, hv, hg, hb _ _ hh, r⟩
theorem OwnT.row (h : OwnT w base a n c ts) : ∀ k, (Value.slice a n c).ownBlock = some k → base ≤ k ∧ k < w.heap.size ∧ ∃ cs, Blk w k TT cs := by
  obtain ⟨⟨h1, h2⟩, h3⟩ := h
  intro k hk
  rcases h2 with ⟨h4, h5⟩ | ⟨g, cap, cur, hv, hg, hh, r⟩
  · simp only [Value.slice.injEq] at h4
    obtain ⟨rfl, _⟩ := h4
    simp [Value.ownBlock] at hk
  · simp only [Value.slice.injEq] at hv
    obtain ⟨rfl, _⟩ := hv
    simp [Value.ownBlock] at hk
    subst hk
    exact ⟨hg, (Array.getElem?_eq_some_iff.1 hh).1, _, hh⟩
theorem OwnT.grown {row : Option Nat} (h : OwnT w base a n c ts) (hg : w.grownBy w' row) (hne : ∀ k, (Value.slice a n c).ownBlock = some k → some k ≠ row) : OwnT w' base a n c ts := by
  obtain ⟨⟨h1, h2⟩, h3⟩ := h
  refine ⟨⟨h1, ?_⟩, h3⟩
  rcases h2 with h4 | ⟨g, cap, cur, hv, hgb, hh, r⟩
  · exact .inl h4
  · refine .inr ⟨g, cap, cur, hv, hgb, (hg.block g (Array.getElem?_eq_some_iff.1 hh).1 (hne g ?_)).trans hh, r⟩
    rw [hv]; simp [Value.ownBlock]
theorem OwnT.rd (h : OwnT w base a n c ts) : RdT w a n ts := by
  refine ⟨h.2, fun i j => (tokL ts).getD (i * 3 + j) undef, ?_, ?_⟩
  · obtain ⟨⟨h1, h2⟩, h3⟩ := h
    rcases h2 with ⟨h4, h5⟩ | ⟨g, cap, cur, hv, hg, hh, hnc, hcm, hcs, htake⟩
    · exact .inl h5
    · simp only [Value.slice.injEq] at hv
      obtain ⟨rfl, -, rfl⟩ := hv
      refine .inr ⟨g, 0, rfl, fun i j hi hj => ?_⟩
      rw [Nat.zero_add, cell_of_row w g _ cur _ (0, 0) hh]
      have hlt : i * 3 + j < (tokL ts).length := by rw [tokL_len, h3]; omega
      have hx : (tokL ts)[i * 3 + j]? = cur[i * 3 + j]? := by
        rw [← htake, List.getElem?_take, if_pos (by omega), Array.getElem?_toList]
      show cur[i * 3 + j]? = some ((tokL ts).getD (i * 3 + j) undef)
      rw [← hx, List.getD_eq_getElem?_getD, List.getElem?_eq_getElem hlt]; rfl
  · intro i hi
    have := tokL_at ts i hi
    exact ⟨by simp only [Nat.add_zero, List.getD_eq_getElem?_getD, this.1]; rfl, by simp only [List.getD_eq_getElem?_getD, this.2.1]; rfl, by simp only [List.getD_eq_getElem?_getD, this.2.2]; rfl⟩
theorem OwnT.chn {B g n' c' u : Nat} {l : List UInt8} {a' : Option Addr} (h : OwnT w base a n c ts) (hC : Chn w B g l a' n' c' u) (hg : w.grownBy w' (Value.slice a n c).ownBlock) : Chn w' B g l a' n' c' u := by
  cases hk : (Value.slice a n c).ownBlock with
  | none => rw [hk] at hg; exact hC.below (below_of_grownBy hg)
  | some k =>
    rw [hk] at hg
    obtain ⟨_, _, cs, hb⟩ := h.row k hk
    exact hC.tok hb hg
end
section
variable {P : Program} {w : World} {ops : Array Oper} {rest : List Oper} {o : Oper} {a : Act} {Q : Exit → Act → World → Prop} {base : Nat}
theorem wpList_pushT (hgd : o.guard = none) (s x : Operand)
    (ho : o.op = .call { callee := .builtin .append, args := #[s, x], argTypes := #[44, 44] })
    {w0 : World} {q : Tok} (hw : w = w0.alloc (.cells #[.int .u8 q.1, .int .i64 q.2.1, .int .i64 q.2.2] TT))
    {p : Option Addr} {n c : Nat} {ts : List Tok} (hs : a.eval s = .slice p n c) (hown : OwnT w0 base p n c ts)
    (hx : a.eval x = .slice (some ⟨w0.heap.size, 0, none⟩) 1 1) (hlen : n ≤ 1000000000) (hbase : base ≤ w0.heap.size)
    (h : ∀ p' c' w', OwnT w' base p' (n + 1) c' (ts ++ [q]) → w0.grownBy w' (Value.slice p n c).ownBlock → wpList Try.prog ops Q rest (a.put o.dst (.slice p' (n + 1) c')) w') :
    wpList Try.prog ops Q (o :: rest) a w := by
  subst hw
  obtain ⟨i, hi, hz0, hz1, hz2⟩ := info_parts slTok.info
  have hb := Blk.new w0 TT #[.int .u8 q.1, .int .i64 q.2.1, .int .i64 q.2.2]
  refine wpList_append_own (P := Try.prog) (w0.alloc (.cells #[.int .u8 q.1, .int .i64 q.2.1, .int .i64 q.2.2] TT)) hgd s x _ ho base _ i _ 3 24 slTok.under hi hz0 hz1 hz2 slTok.zsize (by decide) _ n _ hs (hown.1.alloc _) ⟨w0.heap.size, 0, none⟩ 1 1 [.int .u8 q.1, .int .i64 q.2.1, .int .i64 q.2.2] hx rfl ?_ ?_ (by unfold maxLen; omega) (by omega) (by simp; omega) ?_
  · intro j y hj
    rw [Addr.add_lit, Nat.zero_add]
    match j, hj with
    | 0, hj => simp at hj; subst hj; exact hb.cell rfl
    | 1, hj => simp at hj; subst hj; exact hb.cell rfl
    | 2, hj => simp at hj; subst hj; exact hb.cell rfl
  · intro y hy; simp at hy; rcases hy with rfl | rfl | rfl <;> rfl
  · intro v' w' hr hg hiff
    have hv : ∃ p' c', v' = .slice p' (n + 1) c' := by
      rcases hr.2 with ⟨_, h0⟩ | ⟨g, cap, cur, hv, _⟩
      · omega
      · exact ⟨_, _, hv⟩
    obtain ⟨p', c', rfl⟩ := hv
    refine h p' c' w' ⟨by rw [tokL_app]; exact hr, by simp [hown.2]⟩ ?_
    exact ⟨hg.os, hg.tape, hg.output, Nat.le_trans (by simp) hg.size, fun k hk hne => (hg.block k (by simp; omega) hne).trans (Below.heap_alloc _ _ _ hk)⟩
end
/-- Is it a token? -/
def rightT (q : Tok) : Bool := if q.2.1 = 0 then decide (q.2.2 = 0) else decide (3 ≤ q.2.1) && decide (q.2.1 ≤ 258) && decide (1 ≤ q.2.2) && decide (q.2.2 ≤ 32768) && decide (q.1 = 0)
def copyGo (d : Nat) : Nat → List UInt8 → List UInt8
  | 0, out => out
  | k+1, out => copyGo d k (out ++ [out.getD (out.length - d) 0])
theorem copyGo_len (d : Nat) : ∀ (k : Nat) (out : List UInt8), (copyGo d k out).length = out.length + k := by
  intro k
  induction k with
  | zero => intro out; rfl
  | succ k ih => intro out; rw [copyGo, ih]; simp; omega
/-- What tokens stand for, behind out: the error, the bytes. -/
def expT (most : Int) : List Tok → List UInt8 → Int × List UInt8
  | [], out => (0, out)
  | q :: r, out => if rightT q = false then (5, []) else if q.2.2 > out.length then (13, []) else if max q.2.1 1 > most - out.length then (3, []) else
    expT most r (if q.2.1 = 0 then out ++ [UInt8.ofNat q.1.toNat] else copyGo q.2.2.toNat q.2.1.toNat out)
/-- The tokens tell the first p bytes. -/
def TokOk (l : List UInt8) (ts : List Tok) (p : Nat) : Prop := (∀ q ∈ ts, 0 ≤ q.1 ∧ q.1 < 256) ∧ ∀ rest, expT (l.length : Int) (ts ++ rest) [] = expT (l.length : Int) rest (l.take p)
theorem TokOk.start (l : List UInt8) : TokOk l [] 0 := ⟨fun q hq => absurd hq (by simp), fun rest => by simp⟩
theorem TokOk.lit {l : List UInt8} {ts : List Tok} {p : Nat} (h : TokOk l ts p) (hp : p < l.length) : TokOk l (ts ++ [(((l.getD p 0).toNat : Int), 0, 0)]) (p + 1) := by
  refine ⟨fun q hq => ?_, fun rest => ?_⟩
  · rcases List.mem_append.1 hq with hq | hq
    · exact h.1 q hq
    · have hlt := (l.getD p 0).toNat_lt
      rw [List.mem_singleton.1 hq]
      exact ⟨by simp only; omega, by simp only; omega⟩
  rw [List.append_assoc, h.2]
  have hlen : (l.take p).length = p := by rw [List.length_take]; omega
  show expT _ ((((l.getD p 0).toNat : Int), 0, 0) :: rest) (l.take p) = _
  rw [expT, if_neg (by simp [rightT]), if_neg (by simp only; omega), if_neg (by rw [hlen]; simp only; omega), if_pos rfl]
  congr 1
  rw [List.take_succ_eq_append_getElem hp]
  simp [hp]
theorem copyGo_take (l : List UInt8) (p d : Nat) (hd : 1 ≤ d ∧ d ≤ p) : ∀ (k j : Nat), p + j + k ≤ l.length → (∀ i, j ≤ i → i < j + k → l.getD (p + i) 0 = l.getD (p - d + i) 0) → copyGo d k (l.take (p + j)) = l.take (p + j + k) := by
  intro k
  induction k with
  | zero => intro j _ _; rfl
  | succ k ih =>
    intro j hl h
    have hlen : (l.take (p + j)).length = p + j := by rw [List.length_take]; omega
    have e1 : (l.take (p + j)).getD (p + j - d) 0 = l.getD (p + j) 0 := by
      rw [h j (Nat.le_refl _) (by omega), List.getD_eq_getElem?_getD, List.getD_eq_getElem?_getD, List.getElem?_take, if_pos (by omega), show p + j - d = p - d + j by omega]
    rw [copyGo, hlen, e1]
    have e2 : l.take (p + j) ++ [l.getD (p + j) 0] = l.take (p + (j + 1)) := by
      have hlt : p + j < l.length := by omega
      rw [show p + (j + 1) = p + j + 1 by omega, List.take_succ_eq_append_getElem hlt]
      simp [hlt]
    rw [e2, ih (j + 1) (by omega) (fun i h1 h2 => h i (by omega) (by omega))]
    congr 1; omega
theorem sameF_spec (l : List UInt8) : ∀ (f p q i : Nat), p ≤ q → i < sameF l f p q → q + i < l.length ∧ l.getD (q + i) 0 = l.getD (p + i) 0 := by
  intro f
  induction f with
  | zero => intro p q i _ h; simp [sameF] at h
  | succ f ih =>
    intro p q i hpq h
    rw [sameF] at h
    split at h
    · rename_i x y hx hy
      split at h
      · rename_i hxy
        cases i with
        | zero =>
          have := List.getElem?_eq_some_iff.1 hy
          exact ⟨by simpa using this.1, by simp only [Nat.add_zero, List.getD_eq_getElem?_getD, hx, hy, hxy]⟩
        | succ i =>
          have := ih (p + 1) (q + 1) i (by omega) (by omega)
          rw [show q + (i + 1) = q + 1 + i by omega, show p + (i + 1) = p + 1 + i by omega]
          exact this
      · omega
    · omega
theorem sameF_sub (l : List UInt8) (f p q : Nat) (hpq : p ≤ q) : q + sameF l f p q ≤ l.length ∨ sameF l f p q = 0 := by
  cases h : sameF l f p q with
  | zero => exact .inr rfl
  | succ k =>
    have := sameF_spec l f p q k hpq (by omega)
    exact .inl (by omega)
theorem sameN_three (l : List UInt8) (p q : Nat) (hpq : p ≤ q) (hq : q + 3 ≤ l.length) (h0 : l.getD q 0 = l.getD p 0) (h1 : l.getD (q + 1) 0 = l.getD (p + 1) 0) (h2 : l.getD (q + 2) 0 = l.getD (p + 2) 0) : 3 ≤ sameN l p q := by
  have key : ∀ j, j < l.length → l[j]? = some (l.getD j 0) := fun j hj => by simp [hj]
  unfold sameN
  rw [sameF_yes l 257 p q (key p (by omega)) (by rw [key q (by omega), h0]), sameF_yes l 256 _ _ (key (p + 1) (by omega)) (by rw [key (q + 1) (by omega), h1]), sameF_yes l 255 _ _ (key (p + 1 + 1) (by omega)) (by rw [key (q + 1 + 1) (by omega)]; exact congrArg some h2)]
  omega
theorem lastOf_key (l : List UInt8) (x y z : UInt8) : ∀ u, 0 < lastOf l u x y z → lastOf l u x y z ≤ u ∧ x = l.getD (lastOf l u x y z - 1) 0 ∧ y = l.getD (lastOf l u x y z - 1 + 1) 0 ∧ z = l.getD (lastOf l u x y z - 1 + 2) 0 := by
  intro u
  induction u with
  | zero => intro h; simp [lastOf] at h
  | succ u ih =>
    intro h
    rw [lastOf] at h ⊢
    by_cases he : x = l.getD u 0 ∧ y = l.getD (u + 1) 0 ∧ z = l.getD (u + 2) 0
    · rw [if_pos he]; exact ⟨Nat.le_refl _, he⟩
    · rw [if_neg he] at h ⊢
      have := ih h
      exact ⟨by omega, this.2⟩
/-- A copy that may be told. -/
def GoodT (l : List UInt8) (p : Nat) (b : Nat × Nat) : Prop := b.1 = 0 ∨ (3 ≤ b.1 ∧ b.1 ≤ 258 ∧ 1 ≤ b.2 ∧ b.2 ≤ p ∧ b.2 ≤ 32768 ∧ b.1 = sameN l (p - b.2) p)
theorem findGo_good (l : List UInt8) (p : Nat) (hp : p + 3 ≤ l.length) : ∀ (t f : Nat) (b : Nat × Nat), GoodT l p b → f ≤ p → (0 < f → l.getD p 0 = l.getD (f - 1) 0 ∧ l.getD (p + 1) 0 = l.getD (f - 1 + 1) 0 ∧ l.getD (p + 2) 0 = l.getD (f - 1 + 2) 0) → GoodT l p (findGo l p t f b) := by
  intro t
  induction t with
  | zero => intro f b h _ _; exact h
  | succ t ih =>
    intro f b h hf hk
    rw [findGo]
    by_cases hc : 0 < f ∧ p + 1 ≤ 32768 + f
    · rw [if_pos hc]
      obtain ⟨k0, k1, k2⟩ := hk hc.1
      have h3 := sameN_three l (f - 1) p (by omega) hp k0 k1 k2
      have hle := sameN_le l (f - 1) p
      have hpv : prevV l (f - 1) = lastOf l (f - 1) (l.getD p 0) (l.getD (p + 1) 0) (l.getD (p + 2) 0) := by unfold prevV; rw [k0, k1, k2]
      refine ih _ _ ?_ ?_ ?_
      · split
        · refine .inr ⟨h3, hle, ?_, ?_, ?_, ?_⟩
          · simp only; omega
          · simp only; omega
          · simp only; omega
          · simp only; rw [show p - (p + 1 - f) = f - 1 by omega]
        · exact h
      · rw [hpv]; have := lastOf_le l (l.getD p 0) (l.getD (p + 1) 0) (l.getD (p + 2) 0) (f - 1); omega
      · rw [hpv]
        intro h0
        exact (lastOf_key l _ _ _ _ h0).2
    · rw [if_neg hc]; exact h
theorem longN_good (l : List UInt8) (p t : Nat) : GoodT l p (longN l p t) := by
  unfold longN
  by_cases h : p + 3 ≤ l.length
  · rw [if_pos h]
    refine findGo_good l p h _ _ _ (.inl rfl) (lastOf_le _ _ _ _ _) (fun h0 => (lastOf_key l _ _ _ _ h0).2)
  · rw [if_neg h]; exact .inl rfl
theorem longN_le (l : List UInt8) (p t : Nat) (hp : p ≤ l.length) : p + (longN l p t).1 ≤ l.length ∧ (longN l p t).1 ≤ 258 := by
  rcases longN_good l p t with h | ⟨h1, h2, h3, h4, h5, h6⟩
  · rw [h]; omega
  · refine ⟨?_, h2⟩
    rcases sameF_sub l 258 (p - (longN l p t).2) p (by omega) with h | h
    · rw [h6]; exact h
    · unfold sameN at h6; omega
theorem TokOk.copy {l : List UInt8} {ts : List Tok} {p : Nat} {b : Nat × Nat} (h : TokOk l ts p) (hg : GoodT l p b) (h0 : 0 < b.1) (hp : p ≤ l.length) : TokOk l (ts ++ [(0, (b.1 : Int), (b.2 : Int))]) (p + b.1) := by
  rcases hg with h' | ⟨h1, h2, h3, h4, h5, h6⟩
  · omega
  refine ⟨fun q hq => ?_, fun rest => ?_⟩
  · rcases List.mem_append.1 hq with hq | hq
    · exact h.1 q hq
    · rw [List.mem_singleton.1 hq]; exact ⟨Int.le_refl 0, by simp only; omega⟩
  have hlen : (l.take p).length = p := by rw [List.length_take]; omega
  have hsub : p + b.1 ≤ l.length := by
    rcases sameF_sub l 258 (p - b.2) p (by omega) with h | h
    · rw [h6]; exact h
    · unfold sameN at h6; omega
  rw [List.append_assoc, h.2]
  show expT _ ((0, (b.1 : Int), (b.2 : Int)) :: rest) (l.take p) = _
  have hr : rightT (0, (b.1 : Int), (b.2 : Int)) = true := by
    unfold rightT
    simp only
    rw [if_neg (by omega), decide_eq_true (show (3 : Int) ≤ b.1 by omega), decide_eq_true (show (b.1 : Int) ≤ 258 by omega), decide_eq_true (show (1 : Int) ≤ b.2 by omega), decide_eq_true (show (b.2 : Int) ≤ 32768 by omega)]; rfl
  rw [expT, if_neg (by rw [hr]; simp), if_neg (by simp only; omega), if_neg (by rw [hlen]; simp only; omega), if_neg (by simp only; omega)]
  congr 1
  simp only [Int.toNat_natCast]
  have := copyGo_take l p b.2 ⟨h3, h4⟩ b.1 0 (by omega) (fun i _ hi => by
    have := sameF_spec l 258 (p - b.2) p i (by omega) (by have : b.1 = sameF l 258 (p - b.2) p := h6; omega)
    exact this.2)
  simpa using this
end Go.Proofs.Ytnfdbljeinlblaa
