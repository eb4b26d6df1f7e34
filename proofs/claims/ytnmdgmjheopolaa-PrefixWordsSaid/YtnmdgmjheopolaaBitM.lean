/- Numbers of 32 bits as bit vectors; one step of the sum. -/
import Derived.Test.YtnmdgmjheopolaaCrcW
namespace Go.Proofs.Ytnmdgmjheopolaa
open Go.RowKit
set_option linter.unusedVariables false
set_option linter.unusedSimpArgs false

abbrev B32 := BitVec 32
def polyB : B32 := 3988292384#32
def nextB (x : B32) : B32 := if x.getLsbD 0 then (x >>> 1) ^^^ polyB else x >>> 1

theorem toI_range (x : B32) : 0 ≤ (x.toNat : Int) ∧ (x.toNat : Int) < 4294967296 := by have := x.isLt; omega
theorem ofI (a : Int) (h : 0 ≤ a ∧ a < 4294967296) : ∃ x : B32, a = (x.toNat : Int) := by
  refine ⟨BitVec.ofNat 32 a.toNat, ?_⟩
  rw [BitVec.toNat_ofNat, Nat.mod_eq_of_lt (by omega)]; omega
theorem xorI (x y : B32) : bits .xor .u32 (x.toNat : Int) (y.toNat : Int) = ((x ^^^ y).toNat : Int) := by
  rw [u32_xor_nat _ _ x.isLt y.isLt, BitVec.toNat_xor]
theorem andI (x y : B32) : bits .and .u32 (x.toNat : Int) (y.toNat : Int) = ((x &&& y).toNat : Int) := by
  rw [u32_and_nat _ _ x.isLt y.isLt, BitVec.toNat_and]
theorem and1I (x : B32) : bits .and .u32 (x.toNat : Int) 1 = ((x.toNat % 2 : Nat) : Int) := by
  have := u32_and_nat x.toNat 1 x.isLt (by omega)
  rw [Nat.and_one_is_mod] at this; exact this
theorem lsb0 (x : B32) : x.getLsbD 0 = (x.toNat % 2 == 1) := by
  rw [BitVec.getLsbD, Nat.testBit_zero]
  by_cases h : x.toNat % 2 = 1 <;> simp [h]
theorem half_toNat (x : B32) : ((x >>> 1).toNat : Int) = (x.toNat : Int) / 2 := by
  rw [BitVec.toNat_ushiftRight, Nat.shiftRight_eq_div_pow]; simp
theorem nextI_B (x : B32) : nextI (x.toNat : Int) = ((nextB x).toNat : Int) := by
  unfold nextI nextB
  rw [and1I, lsb0]
  by_cases h : x.toNat % 2 = 1
  · rw [h]
    simp only [show (((1 : Nat) : Int) == 1) = true from rfl, beq_self_eq_true, if_true]
    rw [← half_toNat, show (3988292384 : Int) = (polyB.toNat : Int) from by decide, xorI]
  · have h0 : x.toNat % 2 = 0 := by omega
    rw [h0]
    simp only [show (((0 : Nat) : Int) == 1) = false from rfl, show ((0 : Nat) == 1) = false from rfl]
    simp only [Bool.false_eq_true, if_false]
    exact (half_toNat x).symm
theorem nextB_xor (x y : B32) : nextB (x ^^^ y) = nextB x ^^^ nextB y := by
  unfold nextB
  rw [BitVec.getLsbD_xor, BitVec.ushiftRight_xor_distrib]
  cases x.getLsbD 0 <;> cases y.getLsbD 0 <;> simp
  · rw [BitVec.xor_assoc]
  · rw [BitVec.xor_assoc, BitVec.xor_assoc, BitVec.xor_comm polyB]
  · rw [BitVec.xor_assoc, BitVec.xor_comm polyB, BitVec.xor_assoc]; simp
theorem nextB_zero : nextB 0#32 = 0#32 := by decide
end Go.Proofs.Ytnmdgmjheopolaa
