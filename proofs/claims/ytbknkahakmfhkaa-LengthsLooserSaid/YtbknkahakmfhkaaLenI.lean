/- Sorting packs is sorting their keys. -/
import Derived.Test.YtbknkahakmfhkaaLenC
import Derived.Test.YtbknkahakmfhkaaLenD
namespace Go.Proofs.Ytbknkahakmfhkaa
open Go.RowKit Go.Shelf Go.Sort
set_option linter.unusedVariables false
set_option linter.unusedSimpArgs false

section
variable {α β : Type} [Inhabited α] [Inhabited β] (f : α → β) (hf : f default = default) (lt : α → α → Bool) (lt' : β → β → Bool) (h : ∀ x y, lt' (f x) (f y) = lt x y)
include hf
theorem get_mapA (d : Array α) (i : Nat) : (d.map f)[i]! = f d[i]! := by
  by_cases hi : i < d.size
  · rw [getElem!_pos (d.map f) i (by simpa using hi), getElem!_pos d i hi, Array.getElem_map]
  · rw [getElem!_neg (d.map f) i (by simpa using hi), getElem!_neg d i hi]; exact hf.symm
theorem swp_mapA (d : Array α) (i j : Nat) : (swp d i j).map f = swp (d.map f) i j := by
  unfold swp
  rw [get_mapA f hf, get_mapA f hf, Array.map_setIfInBounds, Array.map_setIfInBounds]
include h
theorem insInner_mapA (a : Nat) : ∀ (j : Nat) (d : Array α), (insInner lt a j d).map f = insInner lt' a j (d.map f)
  | 0, d => rfl
  | j + 1, d => by
    unfold insInner
    rw [get_mapA f hf, get_mapA f hf, h]
    split
    · rw [insInner_mapA a j, swp_mapA f hf]
    · rfl
theorem insOuter_mapA (a b : Nat) : ∀ (n i : Nat) (d : Array α), b - i ≤ n → (insOuter lt a b i d).map f = insOuter lt' a b i (d.map f)
  | 0, i, d, hn => by
    unfold insOuter
    rw [if_neg (by omega), if_neg (by omega)]
  | n + 1, i, d, hn => by
    unfold insOuter
    split
    · rw [insOuter_mapA a b n (i + 1) _ (by omega), insInner_mapA f hf lt lt' h]
    · rfl
end
def ltK (x y : Int × List Nat) : Bool := decide (x.1 < y.1)
/-- The sort, of keys. -/
def sortK (l : List (Int × List Nat)) : List (Int × List Nat) := (Sort.insertionSort ltK l.toArray 0 l.length).toList
theorem sortP_keys (ps : List Pk) : (sortP ps).map keyP = sortK (ps.map keyP) := by
  have h := insOuter_mapA keyP rfl (ltOf cfP) ltK (fun x y => by rw [ltP]; rfl) 0 ps.length ps.length (0 + 1) ps.toArray (by omega)
  unfold sortP insP sortK Sort.insertionSort
  rw [List.length_map, show (ps.map keyP).toArray = ps.toArray.map keyP by simp, ← h, Array.toList_map]
  rfl
theorem sortP_perm (ps : List Pk) : (sortP ps).Perm ps := by
  obtain ⟨h1, _, h3⟩ := (insertionSort_holds swoP ps.toArray 0 ps.toArray.size (Nat.zero_le _) (Nat.le_refl _)).1
  have e1 : ∀ d : Array Pk, d.size = ps.toArray.size → (d.extract 0 ps.toArray.size).toList = d.toList := by
    intro d hd; rw [← hd]; simp
  rw [e1 _ h1, e1 _ rfl] at h3
  exact h3
theorem sortK_perm (l : List (Int × List Nat)) : (sortK l).Perm l := by
  have swo : SWO ltK := ⟨fun x => by simp [ltK], fun x y z => by simp only [ltK, decide_eq_true_eq]; omega, fun x y z => by simp only [ltK, decide_eq_false_iff_not]; omega⟩
  obtain ⟨h1, _, h3⟩ := (insertionSort_holds swo l.toArray 0 l.length (Nat.zero_le _) (by simp)).1
  have e1 : ∀ d : Array (Int × List Nat), d.size = l.toArray.size → (d.extract 0 l.length).toList = d.toList := by
    intro d hd; rw [show l.length = d.size by rw [hd]; simp]; simp
  rw [e1 _ h1, e1 _ rfl] at h3
  exact h3
theorem sortK_len (l : List (Int × List Nat)) : (sortK l).length = l.length := by
  have swo : SWO ltK := ⟨fun x => by simp [ltK], fun x y z => by simp only [ltK, decide_eq_true_eq]; omega, fun x y z => by simp only [ltK, decide_eq_false_iff_not]; omega⟩
  have h := (insertionSort_holds swo l.toArray 0 l.length (Nat.zero_le _) (by simp)).1
  unfold sortK
  rw [Array.length_toList, h.1]
  rfl
end Go.Proofs.Ytbknkahakmfhkaa
