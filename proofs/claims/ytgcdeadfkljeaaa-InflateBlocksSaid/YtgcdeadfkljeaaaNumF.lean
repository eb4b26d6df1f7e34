/- Numbers of bits, however many. -/
import Derived.Test.YtgcdeadfkljeaaaRef01B
namespace Go.Proofs.Ytgcdeadfkljeaaa
open Go.RowKit
set_option linter.unusedVariables false
set_option linter.unusedSimpArgs false

def numF : List Bool → Nat
  | [] => 0
  | b :: l => 2 * numF l + if b then 1 else 0
theorem numF_lt (l : List Bool) : numF l < 2 ^ l.length := by
  induction l with
  | nil => simp [numF]
  | cons b l ih => rw [numF, List.length_cons, Nat.pow_succ]; split <;> omega
theorem numF_append (a b : List Bool) : numF (a ++ b) = numF a + 2 ^ a.length * numF b := by
  induction a with
  | nil => simp [numF]
  | cons x a ih => rw [List.cons_append, numF, numF, ih, List.length_cons, Nat.pow_succ, Nat.mul_add, Nat.mul_comm (2 ^ a.length) 2, Nat.mul_assoc]; omega
theorem numF_drop (l : List Bool) (k : Nat) : numF (l.drop k) = numF l / 2 ^ k := by
  by_cases hk : k ≤ l.length
  · have h := numF_append (l.take k) (l.drop k)
    rw [List.take_append_drop, List.length_take, Nat.min_eq_left hk] at h
    have hlt := numF_lt (l.take k)
    rw [List.length_take, Nat.min_eq_left hk] at hlt
    rw [h, Nat.add_mul_div_left _ _ (Nat.pow_pos (by omega)), Nat.div_eq_of_lt hlt, Nat.zero_add]
  · rw [List.drop_of_length_le (by omega)]
    have hlt := numF_lt l
    have h2 : 2 ^ l.length ≤ 2 ^ k := Nat.pow_le_pow_right (by omega) (by omega)
    rw [Nat.div_eq_of_lt (by omega)]; rfl
theorem numF_take (l : List Bool) (k : Nat) : numF (l.take k) = numF l % 2 ^ k := by
  by_cases hk : k ≤ l.length
  · have h := numF_append (l.take k) (l.drop k)
    rw [List.take_append_drop, List.length_take, Nat.min_eq_left hk] at h
    have hlt := numF_lt (l.take k)
    rw [List.length_take, Nat.min_eq_left hk] at hlt
    rw [h, Nat.add_mul_mod_self_left, Nat.mod_eq_of_lt hlt]
  · rw [List.take_of_length_le (by omega)]
    have hlt := numF_lt l
    have h2 : 2 ^ l.length ≤ 2 ^ k := Nat.pow_le_pow_right (by omega) (by omega)
    rw [Nat.mod_eq_of_lt (by omega)]
theorem numF_bitsL (v n : Nat) : numF (bitsL v n) = v % 2 ^ n := by
  induction n with
  | zero => simp [bitsL, numF, Nat.mod_one]
  | succ n ih =>
    rw [bitsL_succ, numF_append, bitsL_length, ih, Nat.pow_succ, Nat.mod_mul]
    congr 1
    by_cases h : v / 2 ^ n % 2 = 1
    · simp [numF, h]
    · have : v / 2 ^ n % 2 = 0 := by omega
      simp [numF, this]
theorem numL_numF (l : List Bool) (h : l.length ≤ 32) : numL l = numF l := by
  induction l with
  | nil => rfl
  | cons b l ih =>
    have hl : l.length ≤ 31 := by simpa using h
    rw [numL, numF, ih (by omega)]
    have hlt := numF_lt l
    have h2 : 2 ^ l.length ≤ 2 ^ 31 := Nat.pow_le_pow_right (by omega) hl
    split <;> omega
theorem bitsL_numF (l : List Bool) : bitsL (numF l) l.length = l := by
  induction l with
  | nil => rfl
  | cons b l ih =>
    rw [List.length_cons, bitsL_cons, numF]
    congr 1
    · cases b <;> simp
    · have : (2 * numF l + if b = true then 1 else 0) / 2 = numF l := by split <;> omega
      rw [this, ih]
theorem bytesK_front (A X : List Bool) (k : Nat) (h : 8 * k ≤ A.length) : bytesK (A ++ X) k = bytesK A k := by
  unfold bytesK
  apply List.map_congr_left
  intro j hj
  rw [List.mem_range] at hj
  rw [List.drop_append_of_le_length (by omega), List.take_append_of_le_length (by rw [List.length_drop]; omega)]
theorem bytesK_length (L : List Bool) (k : Nat) : (bytesK L k).length = k := by simp [bytesK]
/-- The next byte of bits held as a number. -/
theorem byte_numF (L : List Bool) (k : Nat) : UInt8.ofNat (numL ((L.drop (8 * k)).take 8) % 256) = UInt8.ofNat (numF (L.drop (8 * k)) % 256) := by
  have hl : ((L.drop (8 * k)).take 8).length ≤ 8 := by rw [List.length_take]; omega
  rw [numL_numF _ (by omega), numF_take, show (2 : Nat) ^ 8 = 256 from rfl, Nat.mod_mod]
end Go.Proofs.Ytgcdeadfkljeaaa
