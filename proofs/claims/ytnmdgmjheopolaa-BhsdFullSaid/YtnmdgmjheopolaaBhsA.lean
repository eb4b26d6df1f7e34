/- The small functions of package bhsd. -/
import Derived.Test.YtnmdgmjheopolaaRows
import Derived.Test.YtnmdgmjheopolaaGrowM
import Derived.Test.YtnmdgmjheopolaaCurO
import Derived.Test.YtnmdgmjheopolaaMem
namespace Go.Proofs.Ytnmdgmjheopolaa
open Go.RowKit
set_option linter.unusedVariables false
set_option linter.unusedSimpArgs false

def RightC (b h s d : Int) : Prop := 1 ≤ b ∧ b ≤ 5 ∧ 2 ≤ h ∧ h ≤ 256 ∧ 0 ≤ s ∧ s ≤ 2 ∧ 0 ≤ d ∧ d ≤ 1 ∧ (1 < b ∨ h = 256) ∧ (b < 5 ∨ h < 256)
instance (b h s d : Int) : Decidable (RightC b h s d) := by unfold RightC; infer_instance
def In64 (x : Int) : Prop := -9223372036854775808 ≤ x ∧ x ≤ 9223372036854775807
set_option maxRecDepth 100000 in
set_option maxHeartbeats 4000000 in
theorem bRight_any (b h s d : Int) (w : World) (hb : In64 b) (hh : In64 h) (hs : In64 s) (hd : In64 d) :
  Calls Try.prog 16 #[.agg #[.int .i64 b, .int .i64 h, .int .i64 s, .int .i64 d]] w fun e w' => e = .returned (.bool (decide (RightC b h s d))) ∧ Below w.heap.size w w' := by
  by_cases g1 : b < 1
  · rw [show decide (RightC b h s d) = false from decide_eq_false (by unfold RightC; omega)]
    go_enter Try.func16, Try.ntmps16
    go_wp2
    go_ret
    exact ⟨rfl, below_alloc _ _⟩
  by_cases g2 : b > 5
  · rw [show decide (RightC b h s d) = false from decide_eq_false (by unfold RightC; omega)]
    go_enter Try.func16, Try.ntmps16
    go_wp2
    go_ret
    exact ⟨rfl, below_alloc _ _⟩
  by_cases g3 : h < 2
  · rw [show decide (RightC b h s d) = false from decide_eq_false (by unfold RightC; omega)]
    go_enter Try.func16, Try.ntmps16
    go_wp2
    go_ret
    exact ⟨rfl, below_alloc _ _⟩
  by_cases g4 : h > 256
  · rw [show decide (RightC b h s d) = false from decide_eq_false (by unfold RightC; omega)]
    go_enter Try.func16, Try.ntmps16
    go_wp2
    go_ret
    exact ⟨rfl, below_alloc _ _⟩
  by_cases g5 : s < 0
  · rw [show decide (RightC b h s d) = false from decide_eq_false (by unfold RightC; omega)]
    go_enter Try.func16, Try.ntmps16
    go_wp2
    go_ret
    exact ⟨rfl, below_alloc _ _⟩
  by_cases g6 : s > 2
  · rw [show decide (RightC b h s d) = false from decide_eq_false (by unfold RightC; omega)]
    go_enter Try.func16, Try.ntmps16
    go_wp2
    go_ret
    exact ⟨rfl, below_alloc _ _⟩
  by_cases g7 : d < 0 ∨ d > 1
  · rw [show decide (RightC b h s d) = false from decide_eq_false (by unfold RightC; omega)]
    have k7 : (d / 2 != 0) = true := bne_iff_ne.2 (by omega)
    go_enter Try.func16, Try.ntmps16
    go_wp2
    go_ret
    exact ⟨rfl, below_alloc _ _⟩
  have k7 : (d / 2 != 0) = false := bne_eq_false_iff_eq.2 (by omega)
  by_cases g8 : b > 1
  · by_cases g9 : b < 5
    · rw [show decide (RightC b h s d) = true from decide_eq_true (by unfold RightC; omega)]
      clear g7
      go_enter Try.func16, Try.ntmps16
      go_wp2
      go_ret
      exact ⟨rfl, below_alloc _ _⟩
    · by_cases g10 : h < 256
      · rw [show decide (RightC b h s d) = true from decide_eq_true (by unfold RightC; omega)]
        clear g7
        go_enter Try.func16, Try.ntmps16
        go_wp2
        go_ret
        exact ⟨rfl, below_alloc _ _⟩
      · rw [show decide (RightC b h s d) = false from decide_eq_false (by unfold RightC; omega)]
        clear g7
        go_enter Try.func16, Try.ntmps16
        go_wp2
        go_ret
        exact ⟨rfl, below_alloc _ _⟩
  · by_cases g9 : h = 256
    · rw [show decide (RightC b h s d) = true from decide_eq_true (by unfold RightC; omega)]
      have g10 : b < 5 := by omega
      clear g7
      subst g9
      go_enter Try.func16, Try.ntmps16
      go_wp2
      go_ret
      exact ⟨rfl, below_alloc _ _⟩
    · rw [show decide (RightC b h s d) = false from decide_eq_false (by unfold RightC; omega)]
      have k9 : (h == 256) = false := beq_eq_false_iff_ne.2 g9
      clear g7
      go_enter Try.func16, Try.ntmps16
      go_wp2
      go_ret
      exact ⟨rfl, below_alloc _ _⟩
set_option maxRecDepth 100000 in
set_option maxHeartbeats 4000000 in
theorem rRight_any (b h s d : Int) (w : World) (hb : In64 b) (hh : In64 h) (hs : In64 s) (hd : In64 d) :
  Calls Try.prog 14 #[.agg #[.int .i64 b, .int .i64 h, .int .i64 s, .int .i64 d]] w fun e w' => e = .returned (.bool (decide (RightC b h s d))) ∧ Below w.heap.size w w' := by
  by_cases g1 : b < 1
  · rw [show decide (RightC b h s d) = false from decide_eq_false (by unfold RightC; omega)]
    go_enter Try.func14, Try.ntmps14
    go_wp2
    go_ret
    exact ⟨rfl, below_alloc _ _⟩
  by_cases g2 : b > 5
  · rw [show decide (RightC b h s d) = false from decide_eq_false (by unfold RightC; omega)]
    go_enter Try.func14, Try.ntmps14
    go_wp2
    go_ret
    exact ⟨rfl, below_alloc _ _⟩
  by_cases g3 : h < 2
  · rw [show decide (RightC b h s d) = false from decide_eq_false (by unfold RightC; omega)]
    go_enter Try.func14, Try.ntmps14
    go_wp2
    go_ret
    exact ⟨rfl, below_alloc _ _⟩
  by_cases g4 : h > 256
  · rw [show decide (RightC b h s d) = false from decide_eq_false (by unfold RightC; omega)]
    go_enter Try.func14, Try.ntmps14
    go_wp2
    go_ret
    exact ⟨rfl, below_alloc _ _⟩
  by_cases g5 : s < 0
  · rw [show decide (RightC b h s d) = false from decide_eq_false (by unfold RightC; omega)]
    go_enter Try.func14, Try.ntmps14
    go_wp2
    go_ret
    exact ⟨rfl, below_alloc _ _⟩
  by_cases g6 : s > 2
  · rw [show decide (RightC b h s d) = false from decide_eq_false (by unfold RightC; omega)]
    go_enter Try.func14, Try.ntmps14
    go_wp2
    go_ret
    exact ⟨rfl, below_alloc _ _⟩
  by_cases g7 : d < 0
  · rw [show decide (RightC b h s d) = false from decide_eq_false (by unfold RightC; omega)]
    go_enter Try.func14, Try.ntmps14
    go_wp2
    go_ret
    exact ⟨rfl, below_alloc _ _⟩
  by_cases g8 : d > 1
  · rw [show decide (RightC b h s d) = false from decide_eq_false (by unfold RightC; omega)]
    go_enter Try.func14, Try.ntmps14
    go_wp2
    go_ret
    exact ⟨rfl, below_alloc _ _⟩
  by_cases g9 : b > 1
  · by_cases g10 : h < 256
    · rw [show decide (RightC b h s d) = true from decide_eq_true (by unfold RightC; omega)]
      go_enter Try.func14, Try.ntmps14
      go_wp2
      go_ret
      exact ⟨rfl, below_alloc _ _⟩
    · by_cases g11 : b ≤ 4
      · rw [show decide (RightC b h s d) = true from decide_eq_true (by unfold RightC; omega)]
        go_enter Try.func14, Try.ntmps14
        go_wp2
        go_ret
        exact ⟨rfl, below_alloc _ _⟩
      · rw [show decide (RightC b h s d) = false from decide_eq_false (by unfold RightC; omega)]
        go_enter Try.func14, Try.ntmps14
        go_wp2
        go_ret
        exact ⟨rfl, below_alloc _ _⟩
  · by_cases g10 : h = 256
    · rw [show decide (RightC b h s d) = true from decide_eq_true (by unfold RightC; omega)]
      have g11 : b ≤ 4 := by omega
      subst g10
      go_enter Try.func14, Try.ntmps14
      go_wp2
      go_ret
      exact ⟨rfl, below_alloc _ _⟩
    · rw [show decide (RightC b h s d) = false from decide_eq_false (by unfold RightC; omega)]
      have k9 : (h == 256) = false := beq_eq_false_iff_ne.2 g10
      go_enter Try.func14, Try.ntmps14
      go_wp2
      go_ret
      exact ⟨rfl, below_alloc _ _⟩
end Go.Proofs.Ytnmdgmjheopolaa
