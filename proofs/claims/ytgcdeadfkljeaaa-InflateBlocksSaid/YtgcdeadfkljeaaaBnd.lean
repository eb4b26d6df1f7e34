/- A row that lies in an older block than its object. -/
import Derived.Test.YtgcdeadfkljeaaaLib
namespace Go.Proofs.Ytgcdeadfkljeaaa
open Go.RowKit

/-- The row is empty, or lies in a block older than g. -/
def Bnd {α : Type} (l : List α) (a : Option Addr) (g : Nat) : Prop := l = [] ∨ ∀ b off, a = some ⟨b, off, none⟩ → b < g
theorem Bnd.of_rd {α : Type} {E : α → Value} {w : World} {a : Option Addr} {l : List α} (h : Rd w E a l) : Bnd l a w.heap.size := by
  rcases h with h | ⟨b, off, rfl, h⟩
  · exact .inl h
  · cases l with
    | nil => exact .inl rfl
    | cons x l =>
      refine .inr (fun b' off' e => ?_)
      have hc := h 0 x rfl
      have := World.block_lt_of_cell? w _ hc
      simp at e this
      omega
theorem Bnd.mono {α : Type} {l : List α} {a : Option Addr} {g g' : Nat} (h : Bnd l a g) (hg : g ≤ g') : Bnd l a g' := by
  rcases h with h | h
  · exact .inl h
  · exact .inr (fun b off e => Nat.lt_of_lt_of_le (h b off e) hg)
/-- A younger row grows. -/
theorem Bnd.grown {α : Type} {E : α → Value} {w w' : World} {a : Option Addr} {l : List α} {g : Nat} {row : Option Nat} (h : Bnd l a g) (hr : Rd w E a l) (hg : w.grownBy w' row) (hrow : ∀ k, row = some k → g ≤ k) : Rd w' E a l := by
  rcases hr with rfl | ⟨b, off, rfl, hc⟩
  · exact .inl rfl
  · rcases h with h | h
    · exact .inl h
    · refine .inr ⟨b, off, rfl, fun j x hj => hg.cell (hc j x hj) (fun e => ?_)⟩
      have h1 := hrow b e.symm
      have h2 := h b off rfl
      omega
end Go.Proofs.Ytgcdeadfkljeaaa
