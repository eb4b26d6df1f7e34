/- Slices of a slice whose pointer is not known. -/
import Derived.Test.YtgcdeadfkljeaaaLib
namespace Go.Proofs.Ytgcdeadfkljeaaa
open Go.RowKit
set_option linter.unusedVariables false
set_option linter.unusedSimpArgs false

theorem Rd.sl {α : Type} {w : World} {E : α → Value} {a : Option Addr} {l : List α} (h : Rd w E a l) (lo c : Nat) (hc : l.length ≤ c) : Rd w E (if c = lo then a else a.map (·.add lo)) (l.drop lo) := by
  split
  · have : l.drop lo = [] := List.drop_of_length_le (by omega)
    rw [this]; exact .inl rfl
  · rcases h with rfl | ⟨b, off, rfl, h⟩
    · exact .inl (by simp)
    · have := Rd.drop (.inr ⟨b, off, rfl, h⟩) lo
      by_cases h0 : lo = 0
      · subst h0; simpa [Addr.add] using this
      · simpa [Addr.add, h0] using this
theorem map_add0 (a : Option Addr) : a.map (fun x => x.add 0) = a := by cases a <;> rfl
/-- The pointer of s[lo:..]. -/
def slP (a : Option Addr) (c lo : Nat) : Option Addr := if c = lo then a else a.map (·.add lo)
theorem Rd.slP {α : Type} {w : World} {E : α → Value} {a : Option Addr} {l : List α} (h : Rd w E a l) (lo c : Nat) (hc : l.length ≤ c) : Rd w E (slP a c lo) (l.drop lo) := h.sl lo c hc
section
variable {P : Program} {T e : TypeId} {z : Value} {bytes : Nat}
/-- s[lo:hi]: a rule for the walk. -/
theorem run_slice_lh1 (hT : SlT P T e z 1 bytes) (a : Option Addr) (n c lo hi : Nat) (h1 : lo ≤ hi) (h2 : hi ≤ c) (x y : Int) (hx : x = (lo : Int)) (hy : y = (hi : Int)) (w : World) :
    (Instr.slice T (.slice a n c) (some (.int .i64 x)) (some (.int .i64 y)) none).run P w = .ok (.slice (slP a c lo) (hi - lo) (c - lo)) w := by
  subst hx hy
  obtain ⟨i, hi', hz0, hz1, hz2⟩ := info_parts hT.info
  have hu := hT.under
  simp [Instr.slice, run_underlying hu, Instr.sliceBounds, run_sliceBound, sizeOf, typeInfo, hi', hz1, h1, h2, slP]
theorem run_slice_l1 (hT : SlT P T e z 1 bytes) (a : Option Addr) (n c lo : Nat) (h1 : lo ≤ n) (x : Int) (hx : x = (lo : Int)) (w : World) :
    (Instr.slice T (.slice a n c) (some (.int .i64 x)) none none).run P w = .ok (.slice (slP a c lo) (n - lo) (c - lo)) w := by
  subst hx
  obtain ⟨i, hi', hz0, hz1, hz2⟩ := info_parts hT.info
  have hu := hT.under
  simp [Instr.slice, run_underlying hu, Instr.sliceBounds, run_sliceBound, sizeOf, typeInfo, hi', hz1, h1, slP]
end
end Go.Proofs.Ytgcdeadfkljeaaa
