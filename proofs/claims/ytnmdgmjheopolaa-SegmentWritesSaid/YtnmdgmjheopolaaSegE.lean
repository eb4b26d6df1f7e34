/- What a stream's bytes tell: plain. -/
import Derived.Test.YtnmdgmjheopolaaSegC
import Derived.Test.YtnmdgmjheopolaaCurOB
import Derived.Test.YtnmdgmjheopolaaRef02D
import Derived.Test.YtnmdgmjheopolaaPushC
namespace Go.Proofs.Ytnmdgmjheopolaa
open Go.RowKit
set_option linter.unusedVariables false
set_option linter.unusedSimpArgs false

theorem bigR_small (l : List UInt8) (h : l.length ≤ 4) : 0 ≤ bigR l ∧ bigR l < 256 ^ l.length := by
  rw [← numR_big]
  match l, h with
  | [], _ => simp [numR]
  | [a], _ => have := a.toNat_lt; simp [numR, numI]; omega
  | [a, b], _ => have := a.toNat_lt; have := b.toNat_lt; simp [numR, numI]; omega
  | [a, b, c], _ => have := a.toNat_lt; have := b.toNat_lt; have := c.toNat_lt; simp [numR, numI]; omega
  | [a, b, c, d], _ => have := a.toNat_lt; have := b.toNat_lt; have := c.toNat_lt; have := d.toNat_lt; simp [numR, numI]; omega
theorem nextL_lenm (l : List UInt8) (p : Nat) (er m : Int) (sz : Bool) : (nextL l p er m sz).length ≤ m.toNat := by
  unfold nextL; split
  · rw [List.length_take]; omega
  · simp
theorem pow256I {a k : Nat} (h : a ≤ k) : (256 : Int) ^ a ≤ 256 ^ k := by
  have := Nat.pow_le_pow_right (show 0 < 256 by omega) h
  have h2 : ((256 ^ a : Nat) : Int) ≤ ((256 ^ k : Nat) : Int) := Int.ofNat_le.2 this
  rw [Int.natCast_pow, Int.natCast_pow] at h2
  exact h2
theorem big2_range (l : List UInt8) (p : Nat) (er : Int) : 0 ≤ bigR (nextL l p er 2 (sizedB 2)) ∧ bigR (nextL l p er 2 (sizedB 2)) < 65536 := by
  have h := nextL_lenm l p er 2 (sizedB 2)
  generalize nextL l p er 2 (sizedB 2) = u at *
  have h1 : u.length ≤ 2 := h
  have h2 := bigR_small u (by omega)
  have h3 := pow256I h1
  exact ⟨h2.1, Int.lt_of_lt_of_le h2.2 h3⟩
theorem big4_range (l : List UInt8) (p : Nat) (er : Int) : 0 ≤ bigR (nextL l p er 4 (sizedB 4)) ∧ bigR (nextL l p er 4 (sizedB 4)) < 4294967296 := by
  have h := nextL_lenm l p er 4 (sizedB 4)
  generalize nextL l p er 4 (sizedB 4) = u at *
  have h1 : u.length ≤ 4 := h
  have h2 := bigR_small u (by omega)
  have h3 := pow256I h1
  exact ⟨h2.1, Int.lt_of_lt_of_le h2.2 h3⟩
section
variable (B : List UInt8)
def sp1 : Nat := nextAt B.length 0 0 4 true
def se1 : Int := nextEr B.length 0 0 4 true
def smag : List UInt8 := nextL B 0 0 4 true
def sv2 : Int := bigR (nextL B (sp1 B) (se1 B) 2 (sizedB 2))
def sp2 : Nat := nextAt B.length (sp1 B) (se1 B) 2 (sizedB 2)
def se2 : Int := nextEr B.length (sp1 B) (se1 B) 2 (sizedB 2)
def sv3 : Int := bigR (nextL B (sp2 B) (se2 B) 2 (sizedB 2))
def sp3 : Nat := nextAt B.length (sp2 B) (se2 B) 2 (sizedB 2)
def se3 : Int := nextEr B.length (sp2 B) (se2 B) 2 (sizedB 2)
/-- What the head tells. -/
def segHE : Int := if se3 B ≠ 0 then se3 B else if smag B ≠ [80, 75, 83, 76] ∨ sv2 B ≠ 1 then 14 else if 255 < sv3 B then 4 else 0
/-- The sizes, the place, the error, after k of them. -/
def szIt (p : Nat) (e : Int) : Nat → List Int × Nat × Int
  | 0 => ([], p, e)
  | k+1 => ((szIt p e k).1 ++ [bigR (nextL B (szIt p e k).2.1 (szIt p e k).2.2 4 (sizedB 4))], nextAt B.length (szIt p e k).2.1 (szIt p e k).2.2 4 (sizedB 4), nextEr B.length (szIt p e k).2.1 (szIt p e k).2.2 4 (sizedB 4))
def tkIt (ms : List Int) (p : Nat) (e : Int) : Nat → List (List UInt8) × Nat × Int
  | 0 => ([], p, e)
  | k+1 => ((tkIt ms p e k).1 ++ [nextL B (tkIt ms p e k).2.1 (tkIt ms p e k).2.2 (ms.getD k 0) true], nextAt B.length (tkIt ms p e k).2.1 (tkIt ms p e k).2.2 (ms.getD k 0) true, nextEr B.length (tkIt ms p e k).2.1 (tkIt ms p e k).2.2 (ms.getD k 0) true)
theorem szIt_len (p : Nat) (e : Int) (k : Nat) : (szIt B p e k).1.length = k := by
  induction k with
  | zero => rfl
  | succ k ih => simp [szIt, ih]
theorem tkIt_len (ms : List Int) (p : Nat) (e : Int) (k : Nat) : (tkIt B ms p e k).1.length = k := by
  induction k with
  | zero => rfl
  | succ k ih => simp [tkIt, ih]
theorem szIt_range (p : Nat) (e : Int) (k : Nat) : ∀ x ∈ (szIt B p e k).1, 0 ≤ x ∧ x < 4294967296 := by
  induction k with
  | zero => intro x hx; simp [szIt] at hx
  | succ k ih =>
    intro x hx
    simp only [szIt, List.mem_append, List.mem_singleton] at hx
    rcases hx with hx | hx
    · exact ih x hx
    · subst hx; exact big4_range _ _ _
def segN : Nat := (sv3 B).toNat
def segS : List Int × Nat × Int := szIt B (sp3 B) (se3 B) (segN B)
def segT : List (List UInt8) × Nat × Int := tkIt B (segS B).1 (segS B).2.1 (segS B).2.2 (segN B)
def segBE : Int := if segHE B ≠ 0 then segHE B else endEr B.length (segT B).2.1 (segT B).2.2
theorem sv2_range : 0 ≤ sv2 B ∧ sv2 B < 65536 := big2_range _ _ _
theorem sv3_range : 0 ≤ sv3 B ∧ sv3 B < 65536 := big2_range _ _ _
theorem nextEr6 (n p : Nat) (er : Int) (m : Int) (sz : Bool) (h : er = 0 ∨ er = 6) (hm : 0 ≤ m) (hs : sz = true) : nextEr n p er m sz = 0 ∨ nextEr n p er m sz = 6 := by
  unfold nextEr
  rcases h with h | h
  · rw [if_neg (by omega), if_neg (by rw [hs]; simp; omega)]; split <;> simp
  · rw [if_pos (by omega)]; exact .inr h
theorem se3_cases : se3 B = 0 ∨ se3 B = 6 := by
  have h1 : se1 B = 0 ∨ se1 B = 6 := nextEr6 _ _ _ _ _ (.inl rfl) (by omega) rfl
  have h2 : se2 B = 0 ∨ se2 B = 6 := nextEr6 _ _ _ _ _ h1 (by omega) (by decide)
  exact nextEr6 _ _ _ _ _ h2 (by omega) (by decide)
end
def segE (l : List UInt8) (most : Int) : Int := if most < 0 ∨ most > 16777216 then 1 else if (l.length : Int) > most then 3 else if openEr l ≠ 0 then openEr l else segBE (openL l)
def segO (l : List UInt8) (most : Int) : List (List UInt8) := if segE l most = 0 then (segT (openL l)).1 else []
def SegRPost (w : World) (l : List UInt8) (most : Int) (e : Ending) (w' : World) : Prop :=
  ∃ a n c, e = .returned (.tuple #[.slice a n c, .int .i64 (segE l most)]) ∧ n ≤ 255 ∧ Parts w' a n (segO l most) ∧ Below w.heap.size w w'
theorem segR_bad {w w' : World} {l : List UInt8} {most : Int} {x : Int} (hx : segE l most = x) (h0 : x ≠ 0) (hB : Below w.heap.size w w') : SegRPost w l most (.returned (.tuple #[.slice none 0 0, .int .i64 x])) w' := by
  have ho : segO l most = [] := by unfold segO; rw [hx, if_neg h0]
  exact ⟨none, 0, 0, by rw [hx], by omega, by rw [ho]; exact ⟨[], rfl, rfl, Rd.nil, trivial⟩, hB⟩
theorem segR_ok {w w' : World} {l : List UInt8} {most : Int} {a : Option Addr} {n c : Nat} (hx : segE l most = 0) (hn : n ≤ 255) (hp : Parts w' a n (segT (openL l)).1) (hB : Below w.heap.size w w') : SegRPost w l most (.returned (.tuple #[.slice a n c, .int .i64 0])) w' := by
  have ho : segO l most = (segT (openL l)).1 := by unfold segO; rw [if_pos hx]
  exact ⟨a, n, c, by rw [hx], hn, by rw [ho]; exact hp, hB⟩
/-- The parts taken so far, in the row made for all. -/
theorem set_rep {α : Type} (l : List α) (z y : α) (k n : Nat) (hl : l.length = k) (hk : k < n) : (l ++ List.replicate (n - k) z).set k y = l ++ [y] ++ List.replicate (n - (k + 1)) z := by
  rw [List.set_append, if_neg (by omega), hl, Nat.sub_self]
  obtain ⟨m, hm⟩ : ∃ m, n - k = m + 1 := ⟨n - k - 1, by omega⟩
  rw [hm, List.replicate_succ, List.set_cons_zero, show n - (k + 1) = m by omega]
  simp
theorem sl_nobyte (a : Option Addr) (n c : Nat) (u : UInt8) : Value.slice a n c ≠ bE u := by intro h; cases h
theorem i64_nobyte (x : Int) (u : UInt8) : Value.int .i64 x ≠ bE u := by intro h; cases h
end Go.Proofs.Ytnmdgmjheopolaa
