/- A block of m cells, each by its number. -/
import Derived.Test.YtnmdgmjheopolaaMem
namespace Go.Proofs.Ytnmdgmjheopolaa
open Go.RowKit
set_option linter.unusedVariables false
set_option linter.unusedSimpArgs false

def Arr (w : World) (g : Nat) (T : TypeId) (m : Nat) (f : Nat → Value) : Prop := Blk w g T ((List.range m).map f).toArray
section
variable {w w' : World} {g : Nat} {T : TypeId} {m : Nat} {f f' : Nat → Value}
theorem Arr.cell (h : Arr w g T m f) {k : Nat} (hk : k < m) : w.cell? ⟨g, k, none⟩ = some (f k) := Blk.cell h (by simp [hk])
theorem Arr.frozen (h : Arr w g T m f) (k : Nat) : w.frozen? ⟨g, k, none⟩ = false := Blk.frozen h k
theorem Arr.below (h : Arr w g T m f) (hb : Below w.heap.size w w') : Arr w' g T m f := Blk.below h hb
theorem Arr.congr (h : Arr w g T m f) (he : ∀ k, k < m → f k = f' k) : Arr w g T m f' := by
  unfold Arr at h ⊢
  rwa [show (List.range m).map f' = (List.range m).map f from List.map_congr_left fun k hk => (he k (List.mem_range.1 hk)).symm]
theorem Arr.set (h : Arr w g T m f) (k : Nat) (v : Value) : Arr (w.setCell ⟨g, k, none⟩ v) g T m (fun j => if j = k then v else f j) := by
  have h1 := Blk.setCell h k v
  unfold Arr
  have : (((List.range m).map f).toArray.setIfInBounds k v) = ((List.range m).map fun j => if j = k then v else f j).toArray := by
    rw [List.setIfInBounds_toArray]
    congr 1
    apply List.ext_getElem?
    intro j
    rw [List.getElem?_set, List.getElem?_map, List.getElem?_map]
    by_cases hj : j < m
    · rw [List.getElem?_range hj]
      by_cases hjk : k = j
      · subst hjk; simp [hj]
      · have : ¬ j = k := fun e => hjk e.symm
        simp [hjk, this]
    · rw [List.getElem?_eq_none (l := List.range m) (by simpa using hj)]
      simp; omega
  rwa [this] at h1
theorem Arr.other (h : Arr w g T m f) {p : Addr} (hne : g ≠ p.block) (v : Value) : Arr (w.setCell p v) g T m f := Blk.setCell_ne h hne v
theorem Arr.grown (h : Arr w g T m f) {row : Option Nat} (hg : w.grownBy w' row) (hne : some g ≠ row) : Arr w' g T m f := Blk.grown h hg hne
end
end Go.Proofs.Ytnmdgmjheopolaa
