/- The walks of packsaddleref03: Divisor, Sum. -/
import Derived.Test.YtgcdeadfkljeaaaRef01W
import Derived.Test.YtgcdeadfkljeaaaOwn2
import Derived.StillTailTactics
namespace Go.Proofs.Ytgcdeadfkljeaaa
open Go.RowKit
set_option linter.unusedVariables false
set_option linter.unusedSimpArgs false

def divP : List Nat := [32, 26, 23, 22, 16, 12, 11, 10, 8, 7, 5, 4, 2, 1, 0]
def divK (k : Nat) : List Bool := (divP.take k).foldl (fun l p => l.set (32 - p) true) (List.replicate 33 false)
def divL : List Bool := divK 15
abbrev natV (n : Nat) : Value := .int .i64 (n : Int)
theorem divK_length (k : Nat) : (divK k).length = 33 := by
  have : ∀ (q : List Nat) (l : List Bool), (q.foldl (fun l p => l.set (32 - p) true) l).length = l.length := by
    intro q
    induction q with
    | nil => intro l; rfl
    | cons p q ih => intro l; simp only [List.foldl_cons]; rw [ih]; simp
  unfold divK; rw [this]; simp
theorem divK_succ (k : Nat) (h : k < divP.length) : divK (k + 1) = (divK k).set (32 - divP[k]) true := by
  unfold divK; rw [List.take_succ_eq_append_getElem h, List.foldl_append]; rfl
theorem divP_le : ∀ x ∈ divP, x ≤ 32 := by decide

/-- The first k bits turned over, one by one. -/
def flipK (l : List Bool) : Nat → List Bool
  | 0 => l
  | k+1 => (flipK l k).set k (!((flipK l k).getD k false))
/-- d put upon l from place i on, j of its bits, one by one. -/
def xorUp (l d : List Bool) (i : Nat) : Nat → List Bool
  | 0 => l
  | j+1 => (xorUp l d i j).set (i + j) ((xorUp l d i j).getD (i + j) false != d.getD j false)
/-- Long division: k rounds. -/
def divRun (l d : List Bool) : Nat → List Bool
  | 0 => l
  | k+1 => if (divRun l d k).getD k false = true then xorUp (divRun l d k) d k d.length else divRun l d k
theorem flipK_length (l : List Bool) (k : Nat) : (flipK l k).length = l.length := by
  induction k with
  | zero => rfl
  | succ k ih => simp [flipK, ih]
theorem xorUp_length (l d : List Bool) (i j : Nat) : (xorUp l d i j).length = l.length := by
  induction j with
  | zero => rfl
  | succ j ih => simp [xorUp, ih]
theorem divRun_length (l d : List Bool) (k : Nat) : (divRun l d k).length = l.length := by
  induction k with
  | zero => rfl
  | succ k ih =>
    simp only [divRun]; split
    · rw [xorUp_length, ih]
    · exact ih
def pad32 (b : List UInt8) : List Bool := ofL b ++ List.replicate 32 false
def sumRow (b : List UInt8) : List Bool := divRun (flipK (pad32 b) 32) divL (8 * b.length)
def refSumN (b : List UInt8) : Nat := numL (((sumRow b).drop (8 * b.length)).map fun x => !x)
theorem pad32_length (b : List UInt8) : (pad32 b).length = 8 * b.length + 32 := by simp [pad32, ofL_length]
theorem sumRow_length (b : List UInt8) : (sumRow b).length = 8 * b.length + 32 := by rw [sumRow, divRun_length, flipK_length, pad32_length]
theorem refSumN_lt (b : List UInt8) : refSumN b < 4294967296 := numL_lt _
theorem getD_of_get? {l : List Bool} {i : Nat} {y : Bool} (h : l[i]? = some y) : l.getD i false = y := by simp [List.getD, h]
theorem divL_length : divL.length = 33 := divK_length 15

end Go.Proofs.Ytgcdeadfkljeaaa
