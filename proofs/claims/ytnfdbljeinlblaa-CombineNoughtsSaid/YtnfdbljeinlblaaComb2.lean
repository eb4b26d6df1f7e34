/- The fixed facts of layer 37 return true. -/
import Derived.Test.YtnfdbljeinlblaaCombW
import Derived.Lib.SlBytesConst
namespace Go.Proofs.Ytnfdbljeinlblaa
open Go.RowKit
set_option linter.unusedVariables false
set_option linter.unusedSimpArgs false

theorem f37a : joinI (crcSumI [49, 50, 51, 52]) (crcSumI [53, 54, 55, 56, 57]) 5 = 3421780262 := by decide +kernel
theorem f37b : headI 3421780262 (crcSumI [53, 54, 55, 56, 57]) 5 = crcSumI [49, 50, 51, 52] := by decide +kernel
theorem f37c : tailI 3421780262 (crcSumI [49, 50, 51, 52]) 5 = crcSumI [53, 54, 55, 56, 57] := by decide +kernel
theorem f37d : powI 0 = 2147483648 := by decide +kernel
theorem f37e : powI 1 = 1073741824 := by decide +kernel
theorem f37f (a b : Int) : joinI a b (-1) = 0 := by unfold joinI; rfl

set_option maxHeartbeats 2000000 in
set_option maxRecDepth 100000 in
theorem fixed37_any (w : World) : Calls Try.prog 20 #[] w fun e w' => e = .returned (.bool true) ∧ Below w.heap.size w w' := by
  have kc := fun (w : World) (C : Array Value) (n c : Nat) => Lib.run_convert_bytes_const (P := Try.prog) w 32 5 C n c Try.underlying32 Try.underlying5
  have g1 := f37a
  have g2 := f37b
  have g3 := f37c
  have r1 := crcSumI_range [49, 50, 51, 52]
  have r2 := crcSumI_range [53, 54, 55, 56, 57]
  generalize e1 : crcSumI [49, 50, 51, 52] = s1 at g1 g2 g3 r1
  generalize e2 : crcSumI [53, 54, 55, 56, 57] = s2 at g1 g2 g3 r2
  have E1 := Lib.hid e1
  have E2 := Lib.hid e2
  clear e1 e2
  have b1 : (joinI s1 s2 5 == 3421780262) = true := by rw [g1]; rfl
  have b2 : (headI 3421780262 s2 5 == s1) = true := by rw [g2]; simp
  have b3 : (tailI 3421780262 s1 5 == s2) = true := by rw [g3]; simp
  have b4 : (powI 0 == 2147483648) = true := by rw [f37d]; rfl
  have b5 : (powI 1 == 1073741824) = true := by rw [f37e]; rfl
  have b6 : (joinI s1 s2 (-1) == 0) = true := by rw [f37f]; rfl
  clear g1 g2 g3
  go_enter Try.func20, Try.ntmps20
  go_wp2_with fail
  refine (crcSum_any _ _ _ [49, 50, 51, 52] _ rfl (by decide) (rd_new w _ _ _ _ rfl)).mono ?_
  rintro e w1 ⟨rfl, hb1⟩
  rw [E1.out]
  have hB1 : Below w.heap.size w w1 := (below_alloc w _).trans (hb1.mono (by simp))
  clear hb1
  go_wp2_with fail
  refine (crcSum_any _ _ _ [53, 54, 55, 56, 57] _ rfl (by decide) (rd_new w1 _ _ _ _ rfl)).mono ?_
  rintro e w2 ⟨rfl, hb2⟩
  rw [E2.out]
  have hB2 : Below w.heap.size w w2 := hB1.trans (((below_alloc w1 _).trans (hb2.mono (by simp))).mono hB1.size)
  clear hb2
  go_wp2_with fail
  refine (join_any _ _ _ _ r1 r2 (by omega) (by omega)).mono ?_
  rintro e w' ⟨rfl, rfl⟩
  go_wp2_with fail
  refine (head_any _ _ _ _ (by omega) r2 (by omega) (by omega)).mono ?_
  rintro e w' ⟨rfl, rfl⟩
  go_wp2_with fail
  refine (tail_any _ _ _ _ (by omega) r1 (by omega) (by omega)).mono ?_
  rintro e w' ⟨rfl, rfl⟩
  go_wp2_with fail
  refine (power_any _ _ (by omega) (by omega)).mono ?_
  rintro e w' ⟨rfl, rfl⟩
  go_wp2_with fail
  refine (power_any _ _ (by omega) (by omega)).mono ?_
  rintro e w' ⟨rfl, rfl⟩
  go_wp2_with fail
  refine (join_any _ _ _ _ r1 r2 (by omega) (by omega)).mono ?_
  rintro e w' ⟨rfl, rfl⟩
  go_wp2
  go_ret
  exact ⟨rfl, hB2⟩
end Go.Proofs.Ytnfdbljeinlblaa
