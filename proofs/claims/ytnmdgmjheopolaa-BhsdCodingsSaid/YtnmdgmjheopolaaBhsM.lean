/- Plain laws: words of bits on int. -/
import Derived.Test.YtnmdgmjheopolaaBhsB
import Derived.Laws.BitsAllLaws
namespace Go.Proofs.Ytnmdgmjheopolaa
open Go.RowKit
set_option linter.unusedVariables false
set_option linter.unusedSimpArgs false

theorem not64 (v : Int) (h : In64 v) : bits .xor .i64 (-1) v = -1 - v := by
  obtain ⟨h1, h2⟩ := h
  show IntKind.i64.wrap ((BitVec.ofInt 64 (-1) ^^^ BitVec.ofInt 64 v).toNat : Int) = _
  have h3 : BitVec.ofInt 64 (-1) = BitVec.allOnes 64 := by decide
  rw [h3, BitVec.allOnes_xor, BitVec.toNat_not, BitVec.toNat_ofInt, IntKind.wrap_i64]
  omega
theorem or_low64 (x r k : Nat) (h : x * 2 ^ k + r < 9223372036854775808) (hr : r < 2 ^ k) : bits .or .i64 ((x * 2 ^ k : Nat) : Int) (r : Int) = ((x * 2 ^ k + r : Nat) : Int) := by
  show IntKind.i64.wrap ((BitVec.ofInt 64 ((x * 2 ^ k : Nat) : Int) ||| BitVec.ofInt 64 (r : Int)).toNat : Int) = _
  rw [BitVec.toNat_or, ofInt_u64 _ (by generalize x * 2 ^ k = y at *; omega), ofInt_u64 r (by generalize x * 2 ^ k = y at *; omega), Nat.mul_comm, ← Nat.two_pow_add_eq_or_of_lt hr x, Nat.mul_comm]
  generalize x * 2 ^ k + r = y at *
  rw [IntKind.wrap_i64]; omega
theorem or_low1 (x : Int) (h : 0 ≤ x ∧ x ≤ 1099511627776) : bits .or .i64 (x * 2) 1 = x * 2 + 1 := by
  obtain ⟨n, rfl⟩ := Int.eq_ofNat_of_zero_le h.1
  have := or_low64 n 1 1 (by omega) (by decide)
  simpa using this
theorem or_low3 (x : Int) (h : 0 ≤ x ∧ x ≤ 1099511627776) : bits .or .i64 (x * 4) 3 = x * 4 + 3 := by
  obtain ⟨n, rfl⟩ := Int.eq_ofNat_of_zero_le h.1
  have := or_low64 n 3 2 (by omega) (by decide)
  simpa using this
theorem and1_64 (n : Int) : bits .and .i64 n 1 = n % 2 := by
  have hm : (BitVec.ofInt 64 1).toNat = 2 ^ 1 - 1 := by decide
  have key : (BitVec.ofInt 64 n &&& BitVec.ofInt 64 1).toNat = (n % ((2 ^ 64 : Nat) : Int)).toNat % 2 ^ 1 := by
    rw [BitVec.toNat_and, BitVec.toNat_ofInt, hm, Nat.and_two_pow_sub_one_eq_mod]
  show IntKind.i64.wrap ((BitVec.ofInt 64 n &&& BitVec.ofInt 64 1).toNat : Nat) = _
  rw [key, IntKind.wrap_i64]
  omega
theorem and3_64 (n : Int) : bits .and .i64 n 3 = n % 4 := by
  have hm : (BitVec.ofInt 64 3).toNat = 2 ^ 2 - 1 := by decide
  have key : (BitVec.ofInt 64 n &&& BitVec.ofInt 64 3).toNat = (n % ((2 ^ 64 : Nat) : Int)).toNat % 2 ^ 2 := by
    rw [BitVec.toNat_and, BitVec.toNat_ofInt, hm, Nat.and_two_pow_sub_one_eq_mod]
  show IntKind.i64.wrap ((BitVec.ofInt 64 n &&& BitVec.ofInt 64 3).toNat : Nat) = _
  rw [key, IntKind.wrap_i64]
  omega
theorem signs_ne : ∀ k : Fin 65, k.val ≠ 0 → ¬ wrap64 (wrap64 (2 ^ k.val) - 1) = 0 := by
  have h : ∀ k : Fin 65, k.val ≠ 0 → wrap64 (wrap64 (2 ^ k.val) - 1) ≠ 0 := by unfold wrap64; decide +kernel
  exact h
theorem signs_ne' (s : Int) (hs : In64 s) (h0 : ¬ s = 0) : ¬ wrap64 (wrap64 (2 ^ min (IntKind.u64.wrap s).toNat 64) - 1) = 0 := by
  obtain ⟨h1, h2⟩ := hs
  have hw : IntKind.u64.wrap s ≠ 0 := by rw [IntKind.wrap_u64]; omega
  have hw2 : 0 ≤ IntKind.u64.wrap s := by rw [IntKind.wrap_u64]; omega
  exact signs_ne ⟨min (IntKind.u64.wrap s).toNat 64, by omega⟩ (by simp; omega)
theorem wrap64_in (x : Int) : In64 (wrap64 x) := by
  unfold wrap64 In64; omega
theorem bits_i64_in (op : BinOp) (a b : Int) : In64 (bits op .i64 a b) := by
  unfold bits; simp only [IntKind.wrap_i64]; unfold In64; omega
end Go.Proofs.Ytnmdgmjheopolaa
