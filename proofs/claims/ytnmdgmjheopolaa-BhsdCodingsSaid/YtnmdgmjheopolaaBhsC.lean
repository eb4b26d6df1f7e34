/- Plain numbers of bhsd and the document. -/
import Derived.Test.YtnmdgmjheopolaaBhsM
namespace Go.Proofs.Ytnmdgmjheopolaa
open Go.RowKit
set_option linter.unusedVariables false
set_option linter.unusedSimpArgs false

def partC (s : Int) : Int := if s = 1 then 1 else if s = 2 then 3 else 0
def plainC (s v : Int) : Int := if v < -8589934592 ∨ v > 8589934592 then -1 else if s = 0 then v else if v < 0 then (-1 - v) * (partC s + 1) + partC s else v + v / partC s

set_option maxRecDepth 100000 in
set_option maxHeartbeats 4000000 in
theorem bPlain_any (b h s d v : Int) (w : World) (hs : 0 ≤ s ∧ s ≤ 2) :
  Calls Try.prog 62 #[.agg #[.int .i64 b, .int .i64 h, .int .i64 s, .int .i64 d], .int .i64 v] w fun e w' => e = .returned (.int .i64 (plainC s v)) ∧ Below w.heap.size w w' := by
  by_cases g1 : v < -8589934592
  · have HF : plainC s v = -1 := if_pos (.inl g1)
    rw [HF]
    go_enter Try.func62, Try.ntmps62
    go_wp2
    go_ret
    exact ⟨rfl, below_alloc _ _⟩
  by_cases g2 : v > 8589934592
  · have HF : plainC s v = -1 := if_pos (.inr g2)
    rw [HF]
    go_enter Try.func62, Try.ntmps62
    go_wp2
    go_ret
    exact ⟨rfl, below_alloc _ _⟩
  rcases (show s = 0 ∨ s = 1 ∨ s = 2 by omega) with rfl | rfl | rfl
  · have HF : plainC 0 v = v := by unfold plainC; rw [if_neg (by omega)]; rfl
    rw [HF]
    go_enter Try.func62, Try.ntmps62
    go_wp2
    go_ret
    exact ⟨rfl, below_alloc _ _⟩
  · by_cases g3 : v < 0
    · have HF := Lib.hid (show plainC 1 v = (-1 - v) * 2 + 1 by unfold plainC; rw [if_neg (by omega), if_neg (by omega), if_pos g3]; rfl)
      go_enter Try.func62, Try.ntmps62
      go_wp2
      go_ret
      refine ⟨ret_int ?_, below_alloc _ _⟩
      rw [HF.out, not64 v (by unfold In64; omega), IntWalk.wrap64_in _ (by omega), or_low1 _ (by omega)]
    · have HF := Lib.hid (show plainC 1 v = v + v by unfold plainC; rw [if_neg (by omega), if_neg (by omega), if_neg g3]; show v + v / 1 = _; omega)
      go_enter Try.func62, Try.ntmps62
      go_wp2
      go_ret
      refine ⟨ret_int ?_, below_alloc _ _⟩
      exact HF.out.symm
  · by_cases g3 : v < 0
    · have HF := Lib.hid (show plainC 2 v = (-1 - v) * 4 + 3 by unfold plainC; rw [if_neg (by omega), if_neg (by omega), if_pos g3]; rfl)
      go_enter Try.func62, Try.ntmps62
      go_wp2
      go_ret
      refine ⟨ret_int ?_, below_alloc _ _⟩
      rw [HF.out, not64 v (by unfold In64; omega), IntWalk.wrap64_in _ (by omega), or_low3 _ (by omega)]
    · have HF := Lib.hid (show plainC 2 v = v + v / 3 by unfold plainC; rw [if_neg (by omega), if_neg (by omega), if_neg g3]; rfl)
      go_enter Try.func62, Try.ntmps62
      go_wp2
      go_ret
      refine ⟨ret_int ?_, below_alloc _ _⟩
      exact HF.out.symm

set_option maxRecDepth 100000 in
set_option maxHeartbeats 4000000 in
theorem bPlain_some (b h s d v : Int) (w : World) (hs : In64 s) :
  Calls Try.prog 62 #[.agg #[.int .i64 b, .int .i64 h, .int .i64 s, .int .i64 d], .int .i64 v] w fun e w' => (∃ u, In64 u ∧ e = .returned (.int .i64 u)) ∧ Below w.heap.size w w' := by
  by_cases g1 : v < -8589934592
  · go_enter Try.func62, Try.ntmps62
    go_wp2
    go_ret
    exact ⟨⟨_, by unfold In64; omega, rfl⟩, below_alloc _ _⟩
  by_cases g2 : v > 8589934592
  · go_enter Try.func62, Try.ntmps62
    go_wp2
    go_ret
    exact ⟨⟨_, by unfold In64; omega, rfl⟩, below_alloc _ _⟩
  by_cases g0 : s = 0
  · subst g0
    go_enter Try.func62, Try.ntmps62
    go_wp2
    go_ret
    exact ⟨⟨_, by unfold In64; omega, rfl⟩, below_alloc _ _⟩
  have k0 : (s == 0) = false := beq_eq_false_iff_ne.2 g0
  by_cases g3 : v < 0
  · go_enter Try.func62, Try.ntmps62
    go_wp2
    go_ret
    exact ⟨⟨_, bits_i64_in _ _ _, rfl⟩, below_alloc _ _⟩
  · have hne := signs_ne' s hs g0
    go_enter Try.func62, Try.ntmps62
    go_wp2
    go_ret
    exact ⟨⟨_, wrap64_in _, rfl⟩, below_alloc _ _⟩
end Go.Proofs.Ytnmdgmjheopolaa
