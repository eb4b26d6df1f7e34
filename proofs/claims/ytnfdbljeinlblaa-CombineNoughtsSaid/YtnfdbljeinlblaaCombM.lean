/- The plain laws of layer 37: products of polynomials are commutative and associative, powers of x. -/
import Derived.Test.YtnfdbljeinlblaaCombW
namespace Go.Proofs.Ytnfdbljeinlblaa
open Go.RowKit
set_option linter.unusedVariables false
set_option linter.unusedSimpArgs false

abbrev B32 := BitVec 32
def polyB : B32 := 3988292384#32
def nextB (x : B32) : B32 := if x.getLsbD 0 then (x >>> 1) ^^^ polyB else x >>> 1

theorem toI_range (x : B32) : 0 ≤ (x.toNat : Int) ∧ (x.toNat : Int) < 4294967296 := by have := x.isLt; omega
theorem ofI (a : Int) (h : 0 ≤ a ∧ a < 4294967296) : ∃ x : B32, a = (x.toNat : Int) := by
  refine ⟨BitVec.ofNat 32 a.toNat, ?_⟩
  rw [BitVec.toNat_ofNat, Nat.mod_eq_of_lt (by omega)]; omega
theorem xorI (x y : B32) : bits .xor .u32 (x.toNat : Int) (y.toNat : Int) = ((x ^^^ y).toNat : Int) := by
  rw [u32_xor_nat _ _ x.isLt y.isLt, BitVec.toNat_xor]
theorem andI (x y : B32) : bits .and .u32 (x.toNat : Int) (y.toNat : Int) = ((x &&& y).toNat : Int) := by
  rw [u32_and_nat _ _ x.isLt y.isLt, BitVec.toNat_and]
theorem and1I (x : B32) : bits .and .u32 (x.toNat : Int) 1 = ((x.toNat % 2 : Nat) : Int) := by
  have := u32_and_nat x.toNat 1 x.isLt (by omega)
  rw [Nat.and_one_is_mod] at this; exact this
theorem lsb0 (x : B32) : x.getLsbD 0 = (x.toNat % 2 == 1) := by
  rw [BitVec.getLsbD, Nat.testBit_zero]
  by_cases h : x.toNat % 2 = 1 <;> simp [h]
theorem half_toNat (x : B32) : ((x >>> 1).toNat : Int) = (x.toNat : Int) / 2 := by
  rw [BitVec.toNat_ushiftRight, Nat.shiftRight_eq_div_pow]; simp
theorem nextI_B (x : B32) : nextI (x.toNat : Int) = ((nextB x).toNat : Int) := by
  unfold nextI nextB
  rw [and1I, lsb0]
  by_cases h : x.toNat % 2 = 1
  · rw [h]
    simp only [show (((1 : Nat) : Int) == 1) = true from rfl, beq_self_eq_true, if_true]
    rw [← half_toNat, show (3988292384 : Int) = (polyB.toNat : Int) from by decide, xorI]
  · have h0 : x.toNat % 2 = 0 := by omega
    rw [h0]
    simp only [show (((0 : Nat) : Int) == 1) = false from rfl, show ((0 : Nat) == 1) = false from rfl]
    simp only [Bool.false_eq_true, if_false]
    exact (half_toNat x).symm
theorem nextB_xor (x y : B32) : nextB (x ^^^ y) = nextB x ^^^ nextB y := by
  unfold nextB
  rw [BitVec.getLsbD_xor, BitVec.ushiftRight_xor_distrib]
  cases x.getLsbD 0 <;> cases y.getLsbD 0 <;> simp
  · rw [BitVec.xor_assoc]
  · rw [BitVec.xor_assoc, BitVec.xor_assoc, BitVec.xor_comm polyB]
  · rw [BitVec.xor_assoc, BitVec.xor_comm polyB, BitVec.xor_assoc]; simp
theorem nextB_zero : nextB 0#32 = 0#32 := by decide

/-- The sum of b times x to what the bits of a say. -/
def mulS (a : B32) : Nat → B32 → B32
  | 0, _ => 0#32
  | j+1, b => (if a.getLsbD j then b else 0#32) ^^^ mulS a j (nextB b)
theorem mulS_xor (a : B32) (j : Nat) (b c : B32) : mulS a j (b ^^^ c) = mulS a j b ^^^ mulS a j c := by
  induction j generalizing b c with
  | zero => simp [mulS]
  | succ j ih =>
    simp only [mulS, nextB_xor, ih]
    cases a.getLsbD j <;> simp
    simp only [BitVec.xor_assoc]
    congr 1
    rw [← BitVec.xor_assoc, ← BitVec.xor_assoc, BitVec.xor_comm c]
theorem mulS_zero (a : B32) (j : Nat) : mulS a j 0#32 = 0#32 := by
  induction j with
  | zero => rfl
  | succ j ih => simp only [mulS, nextB_zero, ih]; simp
theorem mulS_next (a : B32) (j : Nat) (b : B32) : mulS a j (nextB b) = nextB (mulS a j b) := by
  induction j generalizing b with
  | zero => simp [mulS, nextB_zero]
  | succ j ih =>
    simp only [mulS, nextB_xor, ih]
    cases a.getLsbD j <;> simp [nextB_zero]
theorem mulS_comm (a c : B32) (j k : Nat) (b : B32) : mulS a j (mulS c k b) = mulS c k (mulS a j b) := by
  induction j generalizing b with
  | zero => simp [mulS, mulS_zero]
  | succ j ih =>
    simp only [mulS, ← mulS_next, ih, mulS_xor]
    cases a.getLsbD j <;> simp [mulS_zero]
theorem mulS_axor (a c : B32) (j : Nat) (b : B32) : mulS (a ^^^ c) j b = mulS a j b ^^^ mulS c j b := by
  induction j generalizing b with
  | zero => simp [mulS]
  | succ j ih =>
    simp only [mulS, ih, BitVec.getLsbD_xor]
    cases a.getLsbD j <;> cases c.getLsbD j <;> simp
    · rw [← BitVec.xor_assoc, ← BitVec.xor_assoc, BitVec.xor_comm b]
    · rw [BitVec.xor_assoc]
    · rw [BitVec.xor_assoc, ← BitVec.xor_assoc (mulS a j (nextB b)), BitVec.xor_comm (mulS a j (nextB b)) b, ← BitVec.xor_assoc, ← BitVec.xor_assoc]; simp
theorem nextB_two : ∀ j, j < 31 → nextB (1#32 <<< (j + 1)) = 1#32 <<< j := by decide
theorem mulS_one_bit (a : B32) (j : Nat) (hj : j < 32) (i : Nat) : (mulS a (j + 1) (1#32 <<< j)).getLsbD i = (decide (i ≤ j) && a.getLsbD i) := by
  induction j with
  | zero =>
    simp only [mulS, BitVec.getLsbD_xor]
    by_cases h : a.getLsbD 0 = true
    · by_cases hi : i = 0
      · subst hi; simp [h]
      · have : ¬ i ≤ 0 := by omega
        simp [h, hi]
    · simp only [h]
      by_cases hi : i = 0
      · subst hi; simp only [Bool.not_eq_true] at h; simp; exact h
      · simp [hi]
  | succ j ih =>
    rw [mulS, nextB_two j (by omega), BitVec.getLsbD_xor, ih (by omega)]
    by_cases hi : i = j + 1
    · subst hi
      have h2 : ¬ (j + 1 ≤ j) := by omega
      by_cases h : a.getLsbD (j + 1) = true
      · simp [h, h2, BitVec.getLsbD_shiftLeft]; omega
      · simp [h, h2]
    · have e1 : (if a.getLsbD (j + 1) = true then 1#32 <<< (j + 1) else 0#32).getLsbD i = false := by
        split
        · rw [BitVec.getLsbD_shiftLeft]
          by_cases hlt : i < j + 1
          · simp [hlt]
          · have : ¬ (i - (j + 1) = 0) := by omega
            simp [this]
        · simp
      rw [e1]
      by_cases h3 : i ≤ j
      · simp [h3, show i ≤ j + 1 from by omega]
      · simp [h3, show ¬ i ≤ j + 1 from by omega]
def mulB (a b : B32) : B32 := mulS a 32 b
def oneB : B32 := 2147483648#32
theorem mulB_one (a : B32) : mulB a oneB = a := by
  apply BitVec.eq_of_getLsbD_eq
  intro i hi
  have := mulS_one_bit a 31 (by omega) i
  rw [show (1#32 <<< 31 : B32) = oneB from by decide] at this
  unfold mulB
  rw [this]
  simp; omega
theorem mulB_comm (a b : B32) : mulB a b = mulB b a := by
  have h1 : mulB a b = mulB a (mulB b oneB) := by rw [mulB_one]
  have h2 : mulB b a = mulB b (mulB a oneB) := by rw [mulB_one]
  rw [h1, h2]; exact mulS_comm _ _ _ _ _
theorem mulB_assoc (a b c : B32) : mulB (mulB a b) c = mulB a (mulB b c) := by
  rw [mulB_comm (mulB a b) c]
  have h := mulS_comm c a 32 32 b
  show mulS c 32 (mulS a 32 b) = mulS a 32 (mulB b c)
  rw [h, mulB_comm b c]; rfl
theorem mulB_xor (a b c : B32) : mulB a (b ^^^ c) = mulB a b ^^^ mulB a c := mulS_xor _ _ _ _
theorem mulB_xorl (a b c : B32) : mulB (a ^^^ b) c = mulB a c ^^^ mulB b c := mulS_axor _ _ _ _
theorem mulB_zero (a : B32) : mulB a 0#32 = 0#32 := mulS_zero _ _

theorem bitTest (x : B32) (j : Nat) (hj : j < 32) : (bits .and .u32 (x.toNat : Int) ((2 ^ j : Nat) : Int) != 0) = x.getLsbD j := by
  have h2 : 2 ^ j < 4294967296 := Nat.pow_lt_pow_right (by omega) hj
  rw [u32_and_nat _ _ x.isLt h2, BitVec.getLsbD]
  have hp : 0 < 2 ^ j := Nat.two_pow_pos j
  have e : x.toNat &&& 2 ^ j = if x.toNat.testBit j then 2 ^ j else 0 := by
    apply Nat.eq_of_testBit_eq
    intro i
    rw [Nat.testBit_and, Nat.testBit_two_pow]
    by_cases hi : j = i
    · subst hi; cases h : x.toNat.testBit j <;> simp [h]
    · cases h : x.toNat.testBit j <;> simp [hi]
  rw [e]
  cases h : x.toNat.testBit j
  · simp
  · rw [if_pos rfl, bne_iff_ne]; omega
theorem timesF_B (a : B32) (j : Nat) (hj : j ≤ 32) (o b : B32) : timesF (a.toNat : Int) j (o.toNat : Int) (b.toNat : Int) = ((o ^^^ mulS a j b).toNat : Int) := by
  induction j generalizing o b with
  | zero => simp [timesF, mulS]
  | succ j ih =>
    rw [timesF, bitTest _ _ (by omega), nextI_B, mulS]
    cases h : a.getLsbD j
    · simp only [Bool.false_eq_true, if_false]
      rw [ih (by omega)]; simp
    · simp only [if_true]
      rw [xorI, ih (by omega), BitVec.xor_assoc]
theorem timesI_B (a b : B32) : timesI (a.toNat : Int) (b.toNat : Int) = ((mulB a b).toNat : Int) := by
  have := timesF_B a 32 (by omega) 0#32 b
  simp only [BitVec.toNat_zero, BitVec.zero_xor] at this
  exact this

/-- x to the power of k. -/
def xP : Nat → B32
  | 0 => oneB
  | k+1 => nextB (xP k)
theorem mulB_next (a b : B32) : mulB a (nextB b) = nextB (mulB a b) := mulS_next _ _ _
theorem xP_add (i j : Nat) : mulB (xP i) (xP j) = xP (i + j) := by
  induction j with
  | zero => exact mulB_one _
  | succ j ih => rw [xP, mulB_next, ih]; rfl
theorem and1_i64 (n : Nat) (h : n < 2 ^ 40) : bits .and .i64 (n : Int) 1 = ((n % 2 : Nat) : Int) :=
  (bits_mask .i64 40 (by decide) (fun m h1 h2 => by rw [IntKind.wrap_i64]; omega) 1 (by decide) (n : Int) (by omega) (by omega)).trans (by omega)
theorem powF_B (f : Nat) (n : Nat) (p q : Nat) (hf : f ≤ 32) (hn : n < 2 ^ f) : powF f (n : Int) ((xP p).toNat : Int) ((xP q).toNat : Int) = ((xP (p + n * q)).toNat : Int) := by
  induction f generalizing n p q with
  | zero =>
    have : n = 0 := by simpa using hn
    subst this; simp [powF]
  | succ f ih =>
    by_cases hz : n = 0
    · subst hz; rw [show ((0 : Nat) : Int) = 0 from rfl, powF_zero]; simp
    · rw [powF, if_neg (by omega)]
      have hb : bits .and .i64 (n : Int) 1 = ((n % 2 : Nat) : Int) := and1_i64 n (by have : 2 ^ (f + 1) ≤ 2 ^ 33 := Nat.pow_le_pow_right (by omega) (by omega); omega)
      rw [hb, timesI_B, xP_add, show ((n : Int) / 2) = ((n / 2 : Nat) : Int) from by omega]
      have hn2 : n / 2 < 2 ^ f := by rw [Nat.pow_succ] at hn; omega
      by_cases hodd : n % 2 = 1
      · rw [hodd]
        simp only [show (((1 : Nat) : Int) == 1) = true from rfl, if_true]
        rw [timesI_B, xP_add, ih _ _ _ (by omega) hn2]
        congr 3
        have : n = 2 * (n / 2) + 1 := by omega
        generalize n / 2 = m at *
        subst this
        rw [Nat.mul_add, Nat.add_mul, Nat.mul_comm 2 m, Nat.mul_assoc, Nat.two_mul, Nat.mul_add]; omega
      · have h0 : n % 2 = 0 := by omega
        rw [h0]
        simp only [show (((0 : Nat) : Int) == 1) = false from rfl, Bool.false_eq_true, if_false]
        rw [timesI_B, xP_add, ih _ _ _ (by omega) hn2]
        congr 3
        have : n = 2 * (n / 2) := by omega
        generalize n / 2 = m at *
        subst this
        rw [Nat.mul_comm 2 m, Nat.mul_assoc, Nat.two_mul]
theorem powI_B (n : Int) : powI n = ((xP (normI n).toNat).toNat : Int) := by
  have h := normI_range n
  have := powF_B 32 (normI n).toNat 0 1 (by omega) (by omega)
  rw [Int.toNat_of_nonneg h.1] at this
  rw [show ((xP 0).toNat : Int) = 2147483648 from by decide, show ((xP 1).toNat : Int) = 1073741824 from by decide, Nat.zero_add, Nat.mul_one] at this
  exact this
theorem xP_order : xP 4294967295 = oneB := by
  have h := powF_B 32 4294967295 0 1 (by omega) (by decide)
  rw [show ((xP 0).toNat : Int) = 2147483648 from by decide, show ((xP 1).toNat : Int) = 1073741824 from by decide, Nat.zero_add, Nat.mul_one] at h
  have h2 : powF 32 ((4294967295 : Nat) : Int) 2147483648 1073741824 = 2147483648 := by decide +kernel
  rw [h2] at h
  apply BitVec.eq_of_toNat_eq
  have : oneB.toNat = 2147483648 := by decide
  omega
theorem xP_period (k m : Nat) : xP (k + 4294967295 * m) = xP k := by
  induction m with
  | zero => rfl
  | succ m ih =>
    rw [Nat.mul_succ, ← Nat.add_assoc, ← xP_add, xP_order, mulB_one, ih]
theorem xP_mod (k : Nat) : xP (k % 4294967295) = xP k := by
  have := xP_period (k % 4294967295) (k / 4294967295)
  rw [Nat.mod_add_div] at this
  exact this.symm
end Go.Proofs.Ytnfdbljeinlblaa
