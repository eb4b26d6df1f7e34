/- slices.SortStableFunc over an owned row of fewer than 20 packs. -/
import Derived.Test.YtbknkahakmfhkaaLenB
namespace Go.Proofs.Ytbknkahakmfhkaa
open Go.RowKit Go.Shelf Go.Sort
set_option linter.unusedVariables false
set_option linter.unusedSimpArgs false

def sortP (ps : List Pk) : List Pk := (insP ps.toArray).toList
theorem ltP (x y : Pk) : ltOf cfP x y = decide (x.often < y.often) := by
  unfold ltOf cfP sgnI
  by_cases h : x.often < y.often
  · rw [if_pos h, decide_eq_true h]; rfl
  · rw [if_neg h, decide_eq_false h]
    by_cases h2 : y.often < x.often
    · rw [if_pos h2]; rfl
    · rw [if_neg h2]; rfl
theorem swoP : SWO (ltOf cfP) := by
  constructor
  · intro x; rw [ltP]; simp
  · intro x y z; simp only [ltP, decide_eq_true_eq]; omega
  · intro x y z; simp only [ltP, decide_eq_false_iff_not]; omega
theorem sortP_len (ps : List Pk) : (sortP ps).length = ps.length := by
  have h := (insertionSort_holds swoP ps.toArray 0 ps.toArray.size (Nat.zero_le _) (Nat.le_refl _)).1
  unfold sortP insP
  rw [Array.length_toList, h.1]
  rfl
set_option maxRecDepth 100000 in
set_option maxHeartbeats 8000000 in
theorem sort_any (w : World) (base g n c : Nat) (ps : List Pk) (h : OwnR w base PK 2 (some ⟨g, 0, none⟩) n c (ps.map pkE)) (hn : n < 20) :
  Calls Try.prog 74 #[.slice (some ⟨g, 0, none⟩) n c, .func (.func 75) #[] #[]] w fun e w' =>
    e = .returned (.tuple #[]) ∧ OwnR w' base PK 2 (some ⟨g, 0, none⟩) n c ((sortP ps).map pkE) ∧ w.grownBy w' (some g) := by
  have HH := Lib.hid h
  have hl : Hid (ps.length = n) := Lib.hid (by have := h.2.1; rwa [List.length_map] at this)
  have HS := Lib.hid (stable_small g 0 c n ps.toArray w (by have := hl.out; simpa using this) h.holds.1 h.holds.2 hn)
  clear h
  go_enter Try.func74, Try.ntmps74
  go_wp2_with fail
  refine HS.out.mono ?_
  rintro e w1 ⟨rfl, m, os, hw⟩
  have HW := Lib.hid hw
  clear hw
  go_wp2
  go_end0
  exact ⟨rfl, by rw [HW.out]; exact HH.out.sorted (by have := sortP_len ps; unfold sortP at this; rw [Array.length_toList] at this; rw [this, hl.out]), by rw [HW.out]; exact sorted_grown⟩
end Go.Proofs.Ytbknkahakmfhkaa
