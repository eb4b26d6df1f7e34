/- match.Right, match.Expand; packsaddleref07.Right, Expand. -/
import Derived.Test.YtnfdbljeinlblaaMatF
namespace Go.Proofs.Ytnfdbljeinlblaa
open Go.RowKit
set_option linter.unusedVariables false
set_option linter.unusedSimpArgs false
set_option maxRecDepth 100000 in
set_option maxHeartbeats 4000000 in
theorem mRight_any (x y z : Int) (w : World) : Calls Try.prog 34 #[.agg #[.int .u8 x, .int .i64 y, .int .i64 z]] w fun e w' => e = .returned (.bool (rightT (x, y, z))) ∧ Below w.heap.size w w' := by
  have hk := Blk.new w TT #[.int .u8 x, .int .i64 y, .int .i64 z]
  have hal := Lib.hid (below_alloc w (.cells #[.int .u8 x, .int .i64 y, .int .i64 z] TT))
  have c0 := hk.cell (i := 0) rfl
  have c1 := hk.cell (i := 1) rfl
  have c2 := hk.cell (i := 2) rfl
  clear hk
  go_enter Try.func34, Try.ntmps34
  by_cases h0 : y = 0
  · have hb : (y == 0) = true := beq_iff_eq.2 h0
    have HR : Hid (rightT (x, y, z) = (z == 0)) := Lib.hid (by unfold rightT; simp only; rw [if_pos h0]; by_cases hz : z = 0 <;> simp [hz])
    clear h0
    go_wp2
    go_ret
    exact ⟨by rw [HR.out]; rfl, hal.out⟩
  · have hb : (y == 0) = false := beq_eq_false_iff_ne.2 h0
    have hr : rightT (x, y, z) = (decide (3 ≤ y) && decide (y ≤ 258) && decide (1 ≤ z) && decide (z ≤ 32768) && decide (x = 0)) := by unfold rightT; simp only; rw [if_neg h0]
    by_cases h3 : 3 ≤ y
    · by_cases h258 : y ≤ 258
      · by_cases h1 : 1 ≤ z
        · by_cases hz : z ≤ 32768
          · rw [decide_eq_true h3, decide_eq_true h258, decide_eq_true h1, decide_eq_true hz] at hr
            have HR : Hid (rightT (x, y, z) = (x == 0)) := Lib.hid (by rw [hr]; by_cases hx : x = 0 <;> simp [hx])
            clear hr h0
            go_wp2
            go_ret
            exact ⟨by rw [HR.out]; rfl, hal.out⟩
          · have HR : Hid (rightT (x, y, z) = false) := Lib.hid (by rw [hr, decide_eq_false hz]; simp)
            clear hr h0
            go_wp2
            go_ret
            exact ⟨by rw [HR.out]; rfl, hal.out⟩
        · have HR : Hid (rightT (x, y, z) = false) := Lib.hid (by rw [hr, decide_eq_false h1]; simp)
          clear hr h0
          go_wp2
          go_ret
          exact ⟨by rw [HR.out]; rfl, hal.out⟩
      · have HR : Hid (rightT (x, y, z) = false) := Lib.hid (by rw [hr, decide_eq_false h258]; simp)
        clear hr h0
        go_wp2
        go_ret
        exact ⟨by rw [HR.out]; rfl, hal.out⟩
    · have HR : Hid (rightT (x, y, z) = false) := Lib.hid (by rw [hr, decide_eq_false h3]; simp)
      clear hr h0
      go_wp2
      go_ret
      exact ⟨by rw [HR.out]; rfl, hal.out⟩
set_option maxRecDepth 100000 in
set_option maxHeartbeats 4000000 in
theorem rRight_any (x y z : Int) (w : World) : Calls Try.prog 35 #[.agg #[.int .u8 x, .int .i64 y, .int .i64 z]] w fun e w' => e = .returned (.bool (rightT (x, y, z))) ∧ Below w.heap.size w w' := by
  have hk := Blk.new w TT #[.int .u8 x, .int .i64 y, .int .i64 z]
  have hal := Lib.hid (below_alloc w (.cells #[.int .u8 x, .int .i64 y, .int .i64 z] TT))
  have c0 := hk.cell (i := 0) rfl
  have c1 := hk.cell (i := 1) rfl
  have c2 := hk.cell (i := 2) rfl
  clear hk
  go_enter Try.func35, Try.ntmps35
  by_cases h0 : y = 0
  · have hb : (y == 0) = true := beq_iff_eq.2 h0
    have HR : Hid (rightT (x, y, z) = (z == 0)) := Lib.hid (by unfold rightT; simp only; rw [if_pos h0]; by_cases hz : z = 0 <;> simp [hz])
    clear h0
    go_wp2
    go_ret
    exact ⟨by rw [HR.out]; rfl, hal.out⟩
  · have hb : (y == 0) = false := beq_eq_false_iff_ne.2 h0
    have hr : rightT (x, y, z) = (decide (3 ≤ y) && decide (y ≤ 258) && decide (1 ≤ z) && decide (z ≤ 32768) && decide (x = 0)) := by unfold rightT; simp only; rw [if_neg h0]
    by_cases h3 : 3 ≤ y
    · by_cases h258 : y ≤ 258
      · by_cases h1 : 1 ≤ z
        · by_cases hz : z ≤ 32768
          · rw [decide_eq_true h3, decide_eq_true h258, decide_eq_true h1, decide_eq_true hz] at hr
            have HR : Hid (rightT (x, y, z) = (x == 0)) := Lib.hid (by rw [hr]; by_cases hx : x = 0 <;> simp [hx])
            clear hr h0
            go_wp2
            go_ret
            exact ⟨by rw [HR.out]; rfl, hal.out⟩
          · have HR : Hid (rightT (x, y, z) = false) := Lib.hid (by rw [hr, decide_eq_false hz]; simp)
            clear hr h0
            go_wp2
            go_ret
            exact ⟨by rw [HR.out]; rfl, hal.out⟩
        · have HR : Hid (rightT (x, y, z) = false) := Lib.hid (by rw [hr, decide_eq_false h1]; simp)
          clear hr h0
          go_wp2
          go_ret
          exact ⟨by rw [HR.out]; rfl, hal.out⟩
      · have HR : Hid (rightT (x, y, z) = false) := Lib.hid (by rw [hr, decide_eq_false h258]; simp)
        clear hr h0
        go_wp2
        go_ret
        exact ⟨by rw [HR.out]; rfl, hal.out⟩
    · have HR : Hid (rightT (x, y, z) = false) := Lib.hid (by rw [hr, decide_eq_false h3]; simp)
      clear hr h0
      go_wp2
      go_ret
      exact ⟨by rw [HR.out]; rfl, hal.out⟩
end Go.Proofs.Ytnfdbljeinlblaa
