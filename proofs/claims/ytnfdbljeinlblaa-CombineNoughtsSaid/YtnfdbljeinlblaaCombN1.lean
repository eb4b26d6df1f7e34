/- The plain law of CombineNoughts: products by rows of bits and long division are the program's products. -/
import Derived.Test.YtnfdbljeinlblaaCombJoin
import Derived.Test.YtnfdbljeinlblaaRef37P
namespace Go.Proofs.Ytnfdbljeinlblaa
open Go.ChangeShapes Go.WideShapes Go.ChangeAt Go.RowKit
set_option linter.unusedVariables false
set_option linter.unusedSimpArgs false

theorem regB_zeros (k : Nat) (v : B32) : regB (List.replicate k false) v = iterB k v := by
  induction k generalizing v with
  | zero => rfl
  | succ k ih =>
    show regB (List.replicate k false) (nextB (v ^^^ bitB false)) = _
    rw [ih]; simp [bitB, iterB]
theorem ofL_zeros (k : Nat) : ofL (List.replicate k 0) = List.replicate (8 * k) false := by
  induction k with
  | zero => rfl
  | succ k ih =>
    rw [List.replicate_succ]
    simp only [ofL, List.flatMap_cons] at ih ⊢
    rw [ih, show bitsL (0 : UInt8).toNat 8 = List.replicate 8 false from by decide, List.replicate_append_replicate]
    congr 1; omega
theorem sum_noughts (l : List UInt8) (k : Nat) : noughtsI (crcSumI l) (k : Int) = crcSumI (l ++ List.replicate k 0) := by
  unfold noughtsI
  rw [if_neg (by omega), crcSumI_B, crcSumI_B, notI_xor, ofL_append, regB_append, ofL_zeros, regB_zeros, bytesI_nat, timesI_B, mulB_xP, notI_xor]
  congr 2
  rw [← BitVec.xor_assoc, BitVec.xor_self, BitVec.zero_xor]

/-- A row of coefficients, the highest power first. -/
def evalP (l : List Bool) : B32 := l.foldl (fun v m => nextB v ^^^ topB m) 0#32
theorem evalP_take (l : List Bool) (k : Nat) (h : k < l.length) : evalP (l.take (k + 1)) = nextB (evalP (l.take k)) ^^^ topB l[k] := by
  rw [List.take_succ_eq_append_getElem h, evalP, List.foldl_append]; rfl
theorem evalP_bit (l : List Bool) (m : Nat) (hm : m ≤ 32) (hl : m ≤ l.length) (j : Nat) (hj : j < 32) : (evalP (l.take m)).getLsbD j = (decide (32 - m ≤ j) && l.getD (j - (32 - m)) false) := by
  induction m generalizing j with
  | zero =>
    have : ¬ 32 - 0 ≤ j := by omega
    simp [evalP, this]
  | succ m ih =>
    rw [evalP_take _ _ (by omega), BitVec.getLsbD_xor, nextB_bit _ _ hj, topB_bit _ _ hj, ih (by omega) (by omega) 0 (by omega)]
    have h0 : ¬ 32 - m ≤ 0 := by omega
    simp only [h0, decide_false, Bool.false_and]
    by_cases h31 : j < 31
    · rw [ih (by omega) (by omega) (j + 1) (by omega)]
      have hne : ¬ j = 31 := by omega
      simp only [h31, hne, decide_true, decide_false, Bool.true_and, Bool.and_false]
      have e1 : decide (32 - m ≤ j + 1) = decide (32 - (m + 1) ≤ j) := decide_eq_decide.2 (by omega)
      have e2 : j + 1 - (32 - m) = j - (32 - (m + 1)) := by omega
      rw [e1, e2]; simp
    · have : j = 31 := by omega
      subst this
      have e1 : 32 - (m + 1) ≤ 31 := by omega
      have e2 : 31 - (32 - (m + 1)) = m := by omega
      have e3 : l.getD m false = l[m] := by simp [List.getD, show m < l.length from by omega]
      simp only [e1, e2, decide_true, Bool.true_and, Nat.lt_irrefl, decide_false, Bool.false_and, Bool.and_true]
      rw [e3]; simp
theorem win_eval (l : List Bool) (k : Nat) (hk : k + 32 ≤ l.length) : winB (divRun l divL k) k = evalP (l.take (k + 32)) := by
  induction k with
  | zero =>
    apply eq_of_bits
    intro j hj
    rw [winB_bit _ _ _ hj, evalP_bit l 32 (by omega) (by omega) j hj]
    simp [divRun]
  | succ k ih =>
    rw [win_step l k (by omega), ih (by omega), show k + 1 + 32 = (k + 32) + 1 from by omega, evalP_take l (k + 32) (by omega)]
    congr 1
    simp [List.getD, show k + 32 < l.length from by omega]
theorem evalP_append (l : List Bool) (m : Bool) : evalP (l ++ [m]) = nextB (evalP l) ^^^ topB m := by rw [evalP, List.foldl_append]; rfl
theorem xP_succ (k : Nat) : xP (k + 1) = nextB (xP k) := rfl
theorem evalP_flip (l : List Bool) (t : Nat) (ht : t < l.length) : evalP (l.set t (!(l.getD t false))) = evalP l ^^^ xP (l.length - 1 - t) := by
  have h : ∀ (n : Nat) (l : List Bool) (t : Nat), l.length = n → t < n → evalP (l.set t (!(l.getD t false))) = evalP l ^^^ xP (n - 1 - t) := by
    intro n
    induction n with
    | zero => intro l t h1 h2; omega
    | succ n ih =>
      intro l t hl ht
      have hne : l ≠ [] := by intro h; simp [h] at hl
      obtain ⟨l', m, rfl⟩ : ∃ l' m, l = l' ++ [m] := ⟨l.dropLast, l.getLast hne, (List.dropLast_concat_getLast hne).symm⟩
      have hl' : l'.length = n := by simpa using hl
      by_cases hlast : t = n
      · subst hlast
        rw [List.set_append_right _ _ (by omega)]
        have e0 : t - l'.length = 0 := by omega
        rw [e0]
        simp only [List.set_cons_zero]
        rw [evalP_append, evalP_append, show t + 1 - 1 - t = 0 from by omega]
        have e1 : (l' ++ [m]).getD t false = m := by simp [List.getD, ← hl']
        rw [e1, BitVec.xor_assoc]
        congr 1
        cases m <;> decide
      · rw [List.set_append_left _ _ (by omega), evalP_append, evalP_append]
        have e1 : (l' ++ [m]).getD t false = l'.getD t false := by
          simp only [List.getD]; rw [List.getElem?_append_left (by omega)]
        rw [e1, ih l' t hl' (by omega), nextB_xor, show n + 1 - 1 - t = (n - 1 - t) + 1 from by omega, xP_succ]
        rw [BitVec.xor_assoc, BitVec.xor_assoc, BitVec.xor_comm (nextB (xP _))]
  exact h l.length l t rfl ht
theorem iterB_xP (k m : Nat) : iterB k (xP m) = xP (m + k) := by
  induction k generalizing m with
  | zero => rfl
  | succ k ih => rw [iterB, ← xP_succ, ih]; congr 1; omega
theorem iterB_zero (k : Nat) : iterB k 0#32 = 0#32 := by
  induction k with
  | zero => rfl
  | succ k ih => rw [iterB, nextB_zero, ih]
/-- The first k coefficients of y, behind i others. -/
theorem mulRow_eval (L y : List Bool) (p : Bool) (i k : Nat) (hL : L.length = 63) (hy : y.length = 32) (hi : i < 32) (hk : k ≤ 32) :
    evalP (mulRow L p y i k) = evalP L ^^^ (if p then iterB (31 - i) (iterB (32 - k) (evalP (y.take k))) else 0#32) := by
  induction k with
  | zero => simp [mulRow, evalP, iterB_zero]
  | succ k ih =>
    rw [mulRow, evalP_take _ _ (by omega)]
    have ih := ih (by omega)
    cases p with
    | false => simp at ih ⊢; exact ih
    | true =>
      simp only [Bool.true_and, if_true] at ih ⊢
      have hg : y.getD k false = y[k] := by simp [List.getD, show k < y.length from by omega]
      rw [hg, iterB_xor, iterB_xor]
      have e1 : iterB (32 - k) (evalP (y.take k)) = iterB (32 - (k + 1)) (nextB (evalP (y.take k))) := by
        rw [show 32 - k = (32 - (k + 1)) + 1 from by omega]; rfl
      rw [e1] at ih
      cases hb : y[k] with
      | false =>
        simp only [Bool.false_eq_true, if_false, topB]
        rw [ih, iterB_zero, iterB_zero]; simp
      | true =>
        simp only [if_true, topB]
        rw [evalP_flip _ _ (by rw [mulRow_length, hL]; omega), ih, mulRow_length, hL]
        have e2 : (2147483648#32 : B32) = xP 0 := rfl
        rw [e2, iterB_xP, iterB_xP, BitVec.xor_assoc]
        congr 3
        omega
theorem eval_bits (b : B32) : evalP (bitsL b.toNat 32) = b := by
  have h := evalP_bit (bitsL b.toNat 32) 32 (by omega) (by rw [bitsL_length]; omega)
  rw [List.take_of_length_le (by rw [bitsL_length]; omega)] at h
  apply eq_of_bits
  intro j hj
  rw [h j hj]
  simp only [Nat.sub_self, Nat.zero_le, decide_true, Bool.true_and, Nat.sub_zero]
  simp [List.getD, bitsL, hj, BitVec.getLsbD, Nat.testBit_eq_decide_div_mod_eq]
theorem mulAll_eval (a b : B32) (i : Nat) (hi : i ≤ 32) : evalP (mulAll (bitsL a.toNat 32) (bitsL b.toNat 32) i) = mulS a i (iterB (32 - i) b) := by
  induction i with
  | zero =>
    rw [mulAll, mulS]; decide +kernel
  | succ i ih =>
    rw [mulAll, mulRow_eval _ _ _ _ _ (mulAll_length _ _ _) (bitsL_length _ _) (by omega) (by omega), ih (by omega), List.take_of_length_le (by rw [bitsL_length]; omega), eval_bits, mulS]
    have e1 : (bitsL a.toNat 32).getD i false = a.getLsbD i := by
      simp [List.getD, bitsL, show i < 32 from by omega, BitVec.getLsbD, Nat.testBit_eq_decide_div_mod_eq]
    rw [e1, show 31 - i = 32 - (i + 1) from by omega, Nat.sub_self]
    have e2 : iterB (32 - i) b = nextB (iterB (32 - (i + 1)) b) := by
      rw [nextB_iter, show 32 - i = (32 - (i + 1)) + 1 from by omega]; rfl
    rw [e2]
    show _ ^^^ (if _ then iterB _ b else _) = _
    rw [BitVec.xor_comm]
theorem refTimes_B (a b : B32) : refTimesN a.toNat b.toNat = (mulB a b).toNat := by
  unfold refTimesN
  rw [← winB_toNat, win_eval _ _ (by rw [mulAll_length]; omega), List.take_of_length_le (by rw [mulAll_length]; omega), mulAll_eval a b 32 (by omega)]; rfl
theorem refTimes_eq (p q : Nat) (hp : p < 4294967296) (hq : q < 4294967296) : timesI (p : Int) (q : Int) = (refTimesN p q : Nat) := by
  have h := refTimes_B (BitVec.ofNat 32 p) (BitVec.ofNat 32 q)
  have h2 := timesI_B (BitVec.ofNat 32 p) (BitVec.ofNat 32 q)
  rw [ton hp, ton hq] at h h2
  rw [h2, h]
theorem refPow_step (n v : Nat) (h : (xP n).toNat = v) : refTimesN v 1073741824 = (xP (n + 1)).toNat := by
  have h2 := refTimes_B (xP n) (xP 1)
  have e : (xP 1).toNat = 1073741824 := by decide
  rw [xP_add, h, e] at h2
  exact h2
theorem refPow_nat (n : Nat) : (xP n).toNat = refPowN n := by
  induction n with
  | zero => decide
  | succ n ih => exact (refPow_step n _ ih).symm
theorem refPow_eq (n : Nat) : powI (n : Int) = (refPowN n : Nat) := by
  rw [powI_nat, refPow_nat]
end Go.Proofs.Ytnfdbljeinlblaa
