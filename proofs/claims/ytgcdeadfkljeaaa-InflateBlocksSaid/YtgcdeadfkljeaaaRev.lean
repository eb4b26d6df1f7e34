/- bits.Reverse32, bitio.Reverse. -/
import Derived.Test.YtgcdeadfkljeaaaNumF
import Derived.Test.YtgcdeadfkljeaaaCrcW
namespace Go.Proofs.Ytgcdeadfkljeaaa
open Go.RowKit
set_option linter.unusedVariables false
set_option linter.unusedSimpArgs false

theorem orI (x y : B32) : bits .or .u32 (x.toNat : Int) (y.toNat : Int) = ((x ||| y).toNat : Int) := by
  rw [u32_or_nat _ _ x.isLt y.isLt, BitVec.toNat_or]
theorem shrI (x : B32) (k : Nat) (z : Int) (hz : z = ((2 ^ k : Nat) : Int)) : (x.toNat : Int) / z = ((x >>> k).toNat : Int) := by
  subst hz; rw [BitVec.toNat_ushiftRight, Nat.shiftRight_eq_div_pow]; rfl
theorem shlI (x : B32) (k : Nat) (z : Int) (hz : z = ((2 ^ k : Nat) : Int)) : (x.toNat : Int) * z % 4294967296 = ((x <<< k).toNat : Int) := by
  subst hz; rw [BitVec.toNat_shiftLeft, Nat.shiftLeft_eq]
  rw [← Int.natCast_mul]
  exact (Int.natCast_emod _ _).symm
/-- Neighbouring groups of k bits change places. -/
def sw (m : B32) (k : Nat) (x : B32) : B32 := ((x >>> k) &&& m) ||| ((x &&& m) <<< k)
theorem swI (x m : B32) (k : Nat) (z c : Int) (hz : z = ((2 ^ k : Nat) : Int)) (hc : c = (m.toNat : Int)) :
    bits .or .u32 (bits .and .u32 ((x.toNat : Int) / z) c) (bits .and .u32 (x.toNat : Int) c * z % 4294967296) = ((sw m k x).toNat : Int) := by
  subst hc
  rw [shrI x k z hz, andI, andI, shlI _ k z hz, orI]; rfl
def revB8 (x : B32) : B32 := (sw 0x00ff00ff#32 8 x >>> 16) ||| (sw 0x00ff00ff#32 8 x <<< 16)
def revB (x : B32) : B32 := revB8 (sw 0x0f0f0f0f#32 4 (sw 0x33333333#32 2 (sw 0x55555555#32 1 x)))
set_option maxRecDepth 100000 in
set_option maxHeartbeats 4000000 in
theorem revB_bit (x : B32) : ∀ i : Fin 32, (revB x).getLsbD i = x.getLsbD (31 - i) := by
  intro i
  have h : ∀ n, n < 32 → (revB x).getLsbD n = x.getLsbD (31 - n) := by
    intro n hn
    have hc : n = 0 ∨ n = 1 ∨ n = 2 ∨ n = 3 ∨ n = 4 ∨ n = 5 ∨ n = 6 ∨ n = 7 ∨ n = 8 ∨ n = 9 ∨ n = 10 ∨ n = 11 ∨ n = 12 ∨ n = 13 ∨ n = 14 ∨ n = 15 ∨ n = 16 ∨ n = 17 ∨ n = 18 ∨ n = 19 ∨ n = 20 ∨ n = 21 ∨ n = 22 ∨ n = 23 ∨ n = 24 ∨ n = 25 ∨ n = 26 ∨ n = 27 ∨ n = 28 ∨ n = 29 ∨ n = 30 ∨ n = 31 := by omega
    rcases hc with rfl | rfl | rfl | rfl | rfl | rfl | rfl | rfl | rfl | rfl | rfl | rfl | rfl | rfl | rfl | rfl | rfl | rfl | rfl | rfl | rfl | rfl | rfl | rfl | rfl | rfl | rfl | rfl | rfl | rfl | rfl | rfl <;>
      simp [revB, revB8, sw, BitVec.getLsbD_or, BitVec.getLsbD_and, BitVec.getLsbD_ushiftRight, BitVec.getLsbD_shiftLeft]
  exact h i i.isLt

/-- The n lowest bits of v the other way round. -/
def revN (v n : Nat) : Nat := ((revB (BitVec.ofNat 32 v)) >>> (32 - n)).toNat
def revI (v : Nat) (n : Int) : Nat := if n ≤ 0 ∨ n > 32 then 0 else revN v n.toNat
/-- Turned round: the number of the bits, the last first. -/
theorem revN_num (v n : Nat) (hv : v < 4294967296) (hn : n ≤ 32) : revN v n = numL (bitsL v n).reverse := by
  have hlt : revN v n < 2 ^ 32 := (revB (BitVec.ofNat 32 v) >>> (32 - n)).isLt
  apply Nat.eq_of_testBit_eq
  intro j
  by_cases hj : j < 32
  · rw [numL_bit _ j hj]
    have h1 : (revN v n).testBit j = (revB (BitVec.ofNat 32 v) >>> (32 - n)).getLsbD j := rfl
    rw [h1, BitVec.getLsbD_ushiftRight]
    by_cases hjn : j < n
    · rw [revB_bit (BitVec.ofNat 32 v) ⟨32 - n + j, by omega⟩]
      simp only [BitVec.getLsbD_ofNat]
      rw [decide_eq_true (show 31 - (32 - n + j) < 32 by omega), Bool.true_and]
      simp only [List.getD]
      rw [List.getElem?_reverse (by rw [bitsL_length]; exact hjn), bitsL_length]
      simp [bitsL, show n - 1 - j < n by omega, show 31 - (32 - n + j) = n - 1 - j by omega, Nat.testBit_eq_decide_div_mod_eq]
    · rw [BitVec.getLsbD_of_ge _ _ (by omega)]
      have hnone : (bitsL v n).reverse[j]? = none := List.getElem?_eq_none (by rw [List.length_reverse, bitsL_length]; omega)
      simp [List.getD, hnone]
  · have h2 : 2 ^ 32 ≤ 2 ^ j := Nat.pow_le_pow_right (by omega) (by omega)
    have h3 := numL_lt (bitsL v n).reverse
    rw [Nat.testBit_lt_two_pow (by omega), Nat.testBit_lt_two_pow (by omega)]
theorem revN_lt (v n : Nat) (hn : n ≤ 32) (hv : v < 4294967296) : revN v n < 2 ^ n := by
  rw [revN_num v n hv hn, numL_numF _ (by rw [List.length_reverse, bitsL_length]; exact hn)]
  have := numF_lt (bitsL v n).reverse
  rwa [List.length_reverse, bitsL_length] at this
/-- Turned twice: as it was. -/
theorem revN_twice (v n : Nat) (hv : v < 4294967296) (hn : n ≤ 32) : revN (revN v n) n = numL (bitsL v n) := by
  have h1 := revN_lt v n hn hv
  have hp : (2 : Nat) ^ n ≤ 4294967296 := Nat.pow_le_pow_right (n := 2) (by omega) hn
  rw [revN_num _ n (by omega) hn]
  congr 1
  have h2 : bitsL (revN v n) n = (bitsL v n).reverse := by
    have h3 := bitsL_numF (bitsL v n).reverse
    rw [List.length_reverse, bitsL_length] at h3
    rw [revN_num v n hv hn, numL_numF _ (by rw [List.length_reverse, bitsL_length]; exact hn)]
    exact h3
  rw [h2, List.reverse_reverse]
end Go.Proofs.Ytgcdeadfkljeaaa
