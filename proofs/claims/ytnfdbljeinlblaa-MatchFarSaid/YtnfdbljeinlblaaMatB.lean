/- match.start: the chains of places. -/
import Derived.Test.YtnfdbljeinlblaaMatA
namespace Go.Proofs.Ytnfdbljeinlblaa
open Go.RowKit
set_option linter.unusedVariables false
set_option linter.unusedSimpArgs false

abbrev CT : TypeId := 111
abbrev TT : TypeId := 48
/-- The last place of a beginning, of the first u, and 1. -/
def lastOf (l : List UInt8) : Nat → UInt8 → UInt8 → UInt8 → Nat
  | 0, _, _, _ => 0
  | u+1, x, y, z => if x = l.getD u 0 ∧ y = l.getD (u + 1) 0 ∧ z = l.getD (u + 2) 0 then u + 1 else lastOf l u x y z
def prevV (l : List UInt8) (p : Nat) : Nat := lastOf l p (l.getD p 0) (l.getD (p + 1) 0) (l.getD (p + 2) 0)
def prevL (l : List UInt8) (n u : Nat) : List Int := (List.range n).map fun p => if p < u then (prevV l p : Int) else 0
theorem lastOf_le (l : List UInt8) (x y z : UInt8) : ∀ u, lastOf l u x y z ≤ u := by
  intro u
  induction u with
  | zero => exact Nat.le_refl _
  | succ u ih => rw [lastOf]; split <;> omega
theorem prevL_zero (l : List UInt8) (n : Nat) : prevL l n 0 = List.replicate n 0 := by
  unfold prevL
  apply List.ext_getElem
  · simp
  · intro i h1 h2; simp
theorem prevL_set (l : List UInt8) (n u : Nat) : (prevL l n u).set u (prevV l u : Int) = prevL l n (u + 1) := by
  unfold prevL
  apply List.ext_getElem
  · simp
  · intro i h1 h2
    rw [List.getElem_set]
    simp only [List.getElem_map, List.getElem_range]
    by_cases h : u = i
    · subst h; simp
    · rw [if_neg h]
      by_cases h3 : i < u
      · rw [if_pos h3, if_pos (by omega)]
      · rw [if_neg h3, if_neg (by omega)]
theorem prevL_get (l : List UInt8) (n u p : Nat) (hp : p < n) (hu : p < u) : (prevL l n u)[p]? = some (prevV l p : Int) := by
  unfold prevL; simp [hp, hu]
/-- Rows and cells of tokens stay. -/
def TokKeep (w w' : World) : Prop := ∀ (k : Nat) (cs : Array Value), w.heap[k]? = some (.cells cs TT) → w'.heap[k]? = some (.cells cs TT)
theorem TokKeep.refl (w : World) : TokKeep w w := fun _ _ h => h
theorem TokKeep.trans {w w1 w2 : World} (h : TokKeep w w1) (k : TokKeep w1 w2) : TokKeep w w2 := fun j cs hh => k j cs (h j cs hh)
theorem TokKeep.below {w w' : World} (h : Below w.heap.size w w') : TokKeep w w' := fun k cs hh => (h.block k (Array.getElem?_eq_some_iff.1 hh).1).trans hh
theorem TokKeep.grown {w w' : World} {g : Nat} (h : w.grownBy w' (some g)) (hne : ∀ cs, w.heap[g]? ≠ some (.cells cs TT)) : TokKeep w w' := by
  intro k cs hh
  refine (h.block k (Array.getElem?_eq_some_iff.1 hh).1 ?_).trans hh
  intro e
  simp only [Option.some.injEq] at e
  subst e
  exact hne cs hh
/-- The chains of bytes, of the first u places. -/
def Chn (w : World) (B g : Nat) (l : List UInt8) (a : Option Addr) (n c u : Nat) : Prop :=
  ∃ m pq, Blk w g CT #[.slice a n c, .map (some m), .slice pq n n, .int .i64 (u : Int)] ∧ Own w B 3 iR pq n n (prevL l n u) ∧ MapOf w m u (lastOf l u) ∧ B ≤ m ∧ B ≤ g ∧ m ≠ g ∧ ∀ q, pq = some ⟨q, 0, none⟩ → q ≠ g ∧ q ≠ m
section
variable {w w' : World} {B g : Nat} {l : List UInt8} {a : Option Addr} {n c u : Nat}
theorem Chn.below (h : Chn w B g l a n c u) (hb : Below w.heap.size w w') : Chn w' B g l a n c u := by
  obtain ⟨m, pq, h1, h2, h3, h4⟩ := h
  exact ⟨m, pq, h1.below hb, h2.below hb, h3.below hb, h4⟩
theorem Chn.lt (h : Chn w B g l a n c u) : g < w.heap.size ∧ B ≤ g := by
  obtain ⟨m, pq, h1, h2, h3, h4, h5, _⟩ := h
  exact ⟨h1.lt, h5⟩
end
theorem nok_int {w : World} {B n c q : Nat} {l : List Int} (h : Own w B 3 iR (some ⟨q, 0, none⟩) n c l) : ∀ cs, w.heap[q]? ≠ some (.cells cs TT) := by
  intro cs hh
  obtain ⟨⟨h1, h2⟩, h3⟩ := h
  rcases h2 with ⟨h4, h5⟩ | ⟨g, cap, cur, hv, hg, hb, _⟩
  · simp only [Value.slice.injEq] at h4; exact absurd h4.1 (by simp)
  · simp only [Value.slice.injEq, Option.some.injEq, Addr.mk.injEq, and_true] at hv
    obtain ⟨⟨rfl, _⟩, _⟩ := hv
    rw [hb] at hh
    simp at hh
    exact absurd hh.2 (by decide)
theorem nok_map {w : World} {m n : Nat} {f : UInt8 → UInt8 → UInt8 → Nat} (h : MapOf w m n f) : ∀ cs, w.heap[m]? ≠ some (.cells cs TT) := by
  intro cs hh
  obtain ⟨D, ⟨es, clock, hb, _⟩, _⟩ := h
  rw [hb] at hh
  cases hh
theorem nok_blk {w : World} {g : Nat} {cs' : Array Value} (h : Blk w g CT cs') : ∀ cs, w.heap[g]? ≠ some (.cells cs TT) := by
  intro cs hh
  rw [h] at hh
  simp at hh
  exact absurd hh.2 (by decide)
set_option maxRecDepth 100000 in
set_option maxHeartbeats 8000000 in
theorem mStart_any (a : Option Addr) (n c : Nat) (l : List UInt8) (w : World) (hn : n ≤ 1000000000) :
  Calls Try.prog 69 #[.slice a n c] w fun e w' => ∃ g, e = .returned (.pointer (some ⟨g, 0, none⟩)) ∧ Chn w' w.heap.size g l a n c 0 ∧ Below w.heap.size w w' := by
  have hmm := @run_makeMap Try.prog
  go_enter Try.func69, Try.ntmps69
  go_wp2_with (at_make; refine wpList_mk (E := iR) (base := w.heap.size + 1) slIR rfl rfl _ _ rfl n rfl rfl rfl rfl (0 : Int) rfl (by omega) (by unfold maxLen; omega) (by simp) ?_; intro p1 w1 hown1 hg1)
  have hm0 := MapOf.made w
  have hB0 := below_alloc w (.map #[] 0)
  have hB1 := below_of_grownBy hg1
  have hm1 := hm0.below hB1
  have hB2 := below_trans0 hB0 (by simp) hB1
  have hs := hB1.size
  simp at hs
  clear hm0 hB0 hB1 hg1
  have HN : Hid (Chn (w1.alloc (.cells #[.slice a n c, .map (some w.heap.size), .slice p1 n n, .int .i64 0] CT)) w.heap.size w1.heap.size l a n c 0 ∧ Below w.heap.size w (w1.alloc (.cells #[.slice a n c, .map (some w.heap.size), .slice p1 n n, .int .i64 0] CT))) := Lib.hid (by
    refine ⟨⟨w.heap.size, p1, Blk.new _ _ _, by rw [prevL_zero]; exact (hown1.mono (by omega)).alloc _, hm1.below (below_alloc _ _), Nat.le_refl _, by omega, by omega, fun q hq => ?_⟩, hB2.alloc hB2.size _⟩
    rcases hown1.blk with ⟨h1, _⟩ | ⟨q', h1, h2, h3⟩
    · rw [h1] at hq; cases hq
    · rw [h1] at hq; simp at hq; subst hq; omega)
  clear hown1 hm1 hB2
  go_wp2
  go_ret
  exact ⟨_, rfl, HN.out⟩
end Go.Proofs.Ytnfdbljeinlblaa
