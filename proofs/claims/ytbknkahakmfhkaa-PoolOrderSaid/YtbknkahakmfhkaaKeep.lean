/- Cells that hold bytes, where a struct's block changes. -/
import Derived.Test.YtbknkahakmfhkaaBuf
namespace Go.Proofs.Ytbknkahakmfhkaa
open Go.RowKit
set_option linter.unusedVariables false
set_option linter.unusedSimpArgs false

/-- Cells that hold bytes keep them. -/
def ByteKeep (w w' : World) : Prop := ∀ b off (x : UInt8), w.cell? ⟨b, off, none⟩ = some (bE x) → w'.cell? ⟨b, off, none⟩ = some (bE x)
theorem ByteKeep.refl (w : World) : ByteKeep w w := fun _ _ _ h => h
theorem keep_of_grown {w w' : World} {g : Nat} (hg : w.grownBy w' (some g)) (hno : ∀ off (x : UInt8), w.cell? ⟨g, off, none⟩ ≠ some (bE x)) : ByteKeep w w' := by
  intro b off x h
  by_cases hb : b = g
  · subst hb; exact absurd h (hno off x)
  · exact hg.cell h (by simpa using hb)
theorem Rd.keep {w w' : World} {a : Option Addr} {l : List UInt8} (h : Rd w bE a l) (hk : ByteKeep w w') : Rd w' bE a l := by
  rcases h with rfl | ⟨b, off, rfl, h⟩
  · exact .inl rfl
  · exact .inr ⟨b, off, rfl, fun j x hj => hk _ _ _ (h j x hj)⟩
theorem blk_nobyte {w : World} {g : Nat} {T : TypeId} {a : Option Addr} {n c : Nat} {x y : Int} (h : Blk w g T #[.slice a n c, .int .i64 x, .int .i64 y]) : ∀ off (z : UInt8), w.cell? ⟨g, off, none⟩ ≠ some (bE z) := by
  intro off z he
  rw [cell_of_row w g off _ T (0, 0) h] at he
  match off, he with
  | 0, he => simp at he
  | 1, he => simp at he
  | 2, he => simp at he
  | off+3, he => simp at he
end Go.Proofs.Ytbknkahakmfhkaa
