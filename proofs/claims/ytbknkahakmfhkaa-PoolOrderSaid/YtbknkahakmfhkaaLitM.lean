/- Plain laws: numbers of bytes, the lowest first. -/
import Derived.Test.YtbknkahakmfhkaaCurO
namespace Go.Proofs.Ytbknkahakmfhkaa
open Go.RowKit
set_option linter.unusedVariables false
set_option linter.unusedSimpArgs false

theorem or64_add' (a b k : Nat) (ha : a * 2 ^ k < 18446744073709551616) (hb : b < 2 ^ k) (hb2 : b < 18446744073709551616) : bits .or .u64 (b : Int) ((a * 2 ^ k : Nat) : Int) = ((a * 2 ^ k + b : Nat) : Int) := by
  rw [u64_or_nat _ _ hb2 ha, Nat.or_comm, Nat.mul_comm, Nat.two_pow_add_eq_or_of_lt hb a]
theorem litI_nat (a : Nat) (x : UInt8) (j : Nat) (hj : j < 8) (ha : a < 256 ^ j) : litI (a : Int) x j = ((x.toNat * 256 ^ j + a : Nat) : Int) := by
  have hx := x.toNat_lt
  have e : (256 : Nat) ^ j = 2 ^ (8 * j) := by rw [Nat.pow_mul]
  have h1 : 256 ^ j * 256 ≤ 256 ^ 8 := by rw [← Nat.pow_succ]; exact Nat.pow_le_pow_right (by omega) (by omega)
  have h2 : x.toNat * 256 ^ j < 18446744073709551616 := by
    have : x.toNat * 256 ^ j < 256 * 256 ^ j := Nat.mul_lt_mul_of_pos_right hx (Nat.pow_pos (by omega))
    omega
  rw [e] at ha h2 ⊢
  rw [e] at h1
  have := or64_add' x.toNat a (8 * j) h2 ha (by omega)
  rw [← this, litI]
  congr 1
  have e5 : (x.toNat : Int) * 2 ^ (8 * j) = ((x.toNat * 2 ^ (8 * j) : Nat) : Int) := by push_cast; rfl
  rw [e5, Int.emod_eq_of_lt (Int.natCast_nonneg _) (by generalize x.toNat * 2 ^ (8 * j) = y at h2 ⊢; omega)]
/-- The number of the first j bytes, the lowest first. -/
def numLE (l : List UInt8) : Nat → Nat
  | 0 => 0
  | j+1 => (l.getD j 0).toNat * 256 ^ j + numLE l j
theorem numLE_lt (l : List UInt8) (j : Nat) : numLE l j < 256 ^ j := by
  induction j with
  | zero => simp [numLE]
  | succ j ih =>
    have hx := (l.getD j 0).toNat_lt
    have : (l.getD j 0).toNat * 256 ^ j ≤ 255 * 256 ^ j := Nat.mul_le_mul_right _ (by omega)
    rw [numLE, Nat.pow_succ]
    omega
theorem litR_num (l : List UInt8) (j : Nat) (hj : j ≤ 8) : litR l j = ((numLE l j : Nat) : Int) := by
  induction j with
  | zero => rfl
  | succ j ih => rw [litR, ih (by omega), litI_nat _ _ _ (by omega) (numLE_lt l j)]; rfl
theorem numLE_digit (l : List UInt8) (n i : Nat) (hi : i < n) : numLE l n / 256 ^ i % 256 = (l.getD i 0).toNat := by
  induction n with
  | zero => omega
  | succ n ih =>
    have hx := (l.getD n 0).toNat_lt
    have hlt := numLE_lt l n
    rw [numLE]
    by_cases h : i = n
    · subst h
      rw [Nat.add_comm, Nat.add_mul_div_right _ _ (Nat.pow_pos (by omega)), Nat.div_eq_of_lt hlt, Nat.zero_add, Nat.mod_eq_of_lt (by omega)]
    · rw [← ih (by omega)]
      have e : 256 ^ n = 256 ^ (n - i - 1) * 256 * 256 ^ i := by
        rw [← Nat.pow_succ, ← Nat.pow_add]; congr 1; omega
      rw [e, ← Nat.mul_assoc, Nat.add_comm, Nat.add_mul_div_right _ _ (Nat.pow_pos (by omega)), ← Nat.mul_assoc, Nat.add_mul_mod_self_right]
theorem littleL_num (l : List UInt8) : littleL (numLE l l.length) l.length = l := by
  apply List.ext_getElem
  · simp [littleL]
  · intro i h1 h2
    simp only [littleL, List.getElem_map, List.getElem_range]
    rw [numLE_digit l _ i h2]
    simp [List.getD, h2]
theorem littleL_num4 (l : List UInt8) (h : l.length = 4) : littleL (numLE l 4) 4 = l := by
  have := littleL_num l
  rwa [h] at this
theorem numLE_little (v n j : Nat) (hj : j ≤ n) : numLE (littleL v n) j = v % 256 ^ j := by
  induction j with
  | zero => simp [numLE, Nat.mod_one]
  | succ j ih =>
    have hg : (littleL v n).getD j 0 = UInt8.ofNat (v / 256 ^ j % 256) := by simp [littleL, List.getD, show j < n by omega]
    rw [numLE, hg, byte_toNat, ih (by omega), Nat.pow_succ, Nat.mod_mul]
    rw [Nat.mul_comm]; omega
theorem putL4 (v : Nat) : putL v 4 = littleL v 4 := by simp [putL, sizedB]
end Go.Proofs.Ytbknkahakmfhkaa
