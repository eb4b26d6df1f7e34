/- The plain law of layer 3: the table's sum is the remainder of long division. -/
import Derived.Test.YtgcdeadfkljeaaaCrcW
import Derived.Test.YtgcdeadfkljeaaaRef03W
namespace Go.Proofs.Ytgcdeadfkljeaaa
open Go.RowKit
set_option linter.unusedVariables false
set_option linter.unusedSimpArgs false

theorem ton {n : Nat} (h : n < 4294967296) : (BitVec.ofNat 32 n).toNat = n := by rw [BitVec.toNat_ofNat]; exact Nat.mod_eq_of_lt h
def bitB (m : Bool) : B32 := if m then 1#32 else 0#32
def regB (l : List Bool) (v : B32) : B32 := l.foldl (fun v m => nextB (v ^^^ bitB m)) v
def iterB : Nat → B32 → B32
  | 0, v => v
  | k+1, v => iterB k (nextB v)
theorem iterB_xor (k : Nat) (x y : B32) : iterB k (x ^^^ y) = iterB k x ^^^ iterB k y := by
  induction k generalizing x y with
  | zero => rfl
  | succ k ih => simp only [iterB, nextB_xor, ih]
theorem nextN_B (k : Nat) (x : B32) : nextN k (x.toNat : Int) = ((iterB k x).toNat : Int) := by
  induction k generalizing x with
  | zero => rfl
  | succ k ih => rw [nextN, nextI_B, ih]; rfl
theorem nextB_even (x : B32) (h : x.toNat % 2 = 0) : nextB x = x >>> 1 := by
  unfold nextB; rw [lsb0, h]; rfl
theorem iterB_high (k : Nat) (x : B32) (h : x.toNat % 2 ^ k = 0) : iterB k x = x >>> k := by
  induction k generalizing x with
  | zero => simp [iterB]
  | succ k ih =>
    have h2 : x.toNat % 2 = 0 := by
      have : x.toNat % 2 ^ (k + 1) % 2 = 0 := by rw [h]
      rwa [Nat.mod_mod_of_dvd _ ⟨2 ^ k, by rw [Nat.pow_succ, Nat.mul_comm]⟩] at this
    rw [iterB, nextB_even x h2, ih]
    · apply BitVec.eq_of_toNat_eq
      simp only [BitVec.toNat_ushiftRight]
      rw [← Nat.shiftRight_add, Nat.add_comm]
    · rw [BitVec.toNat_ushiftRight, Nat.shiftRight_eq_div_pow, Nat.pow_one]
      have h3 : 2 ^ (k + 1) ∣ x.toNat := Nat.dvd_of_mod_eq_zero h
      obtain ⟨q, hq⟩ := h3
      rw [hq, Nat.pow_succ, Nat.mul_comm (2 ^ k) 2, Nat.mul_assoc, Nat.mul_div_cancel_left _ (by omega), Nat.mul_mod_right]

theorem bitsL_cons (c k : Nat) : bitsL c (k + 1) = decide (c % 2 = 1) :: bitsL (c / 2) k := by
  unfold bitsL
  rw [List.range_succ_eq_map, List.map_cons, List.map_map]
  congr 1
  · simp
  · apply List.map_congr_left
    intro i hi
    simp only [Function.comp, Nat.pow_succ, Nat.mul_comm (2 ^ i) 2, ← Nat.div_div_eq_div_mul]
theorem ofNat_split (c : Nat) (hc : c < 4294967296) : (BitVec.ofNat 32 c : B32) = bitB (decide (c % 2 = 1)) ^^^ BitVec.ofNat 32 (2 * (c / 2)) := by
  apply BitVec.eq_of_toNat_eq
  rw [BitVec.toNat_xor, ton hc, ton (by omega)]
  have e : (bitB (decide (c % 2 = 1))).toNat = c % 2 := by
    unfold bitB
    by_cases h : c % 2 = 1
    · simp [h]
    · have : c % 2 = 0 := by omega
      simp [this]
  rw [e]
  apply Nat.eq_of_testBit_eq
  intro i
  rw [Nat.testBit_xor]
  cases i with
  | zero => simp [Nat.testBit_zero]
  | succ i =>
    rw [Nat.testBit_succ, Nat.testBit_succ, Nat.testBit_succ]
    rw [show c % 2 / 2 = 0 from by omega, show 2 * (c / 2) / 2 = c / 2 from by omega]
    simp
theorem nextB_double (c : Nat) (hc : 2 * c < 4294967296) : nextB (BitVec.ofNat 32 (2 * c)) = BitVec.ofNat 32 c := by
  rw [nextB_even]
  · apply BitVec.eq_of_toNat_eq
    rw [BitVec.toNat_ushiftRight, ton hc, ton (by omega), Nat.shiftRight_eq_div_pow]; omega
  · rw [ton hc]; omega
theorem regB_bits (k c : Nat) (hc : c < 4294967296) (hk : c < 2 ^ k) (v : B32) : regB (bitsL c k) v = iterB k (v ^^^ BitVec.ofNat 32 c) := by
  induction k generalizing c v with
  | zero =>
    have : c = 0 := by simpa using hk
    subst this; simp [bitsL, regB, iterB]
  | succ k ih =>
    rw [bitsL_cons, regB, List.foldl_cons]
    show regB (bitsL (c / 2) k) _ = _
    rw [ih (c / 2) (by omega) (by rw [Nat.pow_succ] at hk; omega), iterB]
    congr 1
    rw [ofNat_split c hc, ← BitVec.xor_assoc, nextB_xor _ (BitVec.ofNat 32 (2 * (c / 2))), nextB_double _ (by omega)]

theorem crcStep_B (v : B32) (c : UInt8) : crcStep (v.toNat : Int) c = ((regB (bitsL c.toNat 8) v).toNat : Int) := by
  have hc := c.toNat_lt
  rw [regB_bits 8 c.toNat (by omega) (by omega)]
  unfold crcStep tabI
  have hv := v.isLt
  have e1 : bits .xor .u8 ((v.toNat : Int) % 256) (c.toNat : Int) = (((v.toNat % 256) ^^^ c.toNat : Nat) : Int) := by
    have := u8_xor_nat (v.toNat % 256) c.toNat (by omega) (by omega)
    rw [← this]; rfl
  rw [e1]
  have hx : (v.toNat % 256) ^^^ c.toNat < 256 := Nat.xor_lt_two_pow (n := 8) (by omega) (by omega)
  have e2 : (((v.toNat % 256) ^^^ c.toNat : Nat) : Int) = ((BitVec.ofNat 32 ((v.toNat % 256) ^^^ c.toNat)).toNat : Int) := by
    rw [ton (by omega)]
  have e3 : (v.toNat : Int) / (256 : Int) = ((v >>> 8).toNat : Int) := by
    rw [BitVec.toNat_ushiftRight, Nat.shiftRight_eq_div_pow]; omega
  rw [e2, e3, nextN_B, xorI]
  congr 2
  have e4 : v ^^^ BitVec.ofNat 32 c.toNat = BitVec.ofNat 32 (256 * (v.toNat / 256)) ^^^ BitVec.ofNat 32 ((v.toNat % 256) ^^^ c.toNat) := by
    apply BitVec.eq_of_toNat_eq
    rw [BitVec.toNat_xor, BitVec.toNat_xor, ton (n := c.toNat) (by omega), ton (n := 256 * (v.toNat / 256)) (by omega), ton (n := v.toNat % 256 ^^^ c.toNat) (by omega), ← Nat.xor_assoc]
    congr 1
    have h5 := Nat.two_pow_add_eq_or_of_lt (i := 8) (b := v.toNat % 256) (by omega) (v.toNat / 256)
    have h6 : v.toNat = 2 ^ 8 * (v.toNat / 256) + v.toNat % 256 := by omega
    apply Nat.eq_of_testBit_eq
    intro i
    rw [Nat.testBit_xor]
    by_cases hi : i < 8
    · have a1 : (256 * (v.toNat / 256)).testBit i = false := by
        rw [show 256 = 2 ^ 8 from rfl, Nat.testBit_two_pow_mul]; simp; omega
      have a2 : (v.toNat % 256).testBit i = v.toNat.testBit i := by
        rw [show 256 = 2 ^ 8 from rfl, Nat.testBit_mod_two_pow]; simp [hi]
      rw [a1, a2]; simp
    · have a1 : (256 * (v.toNat / 256)).testBit i = v.toNat.testBit i := by
        rw [show 256 = 2 ^ 8 from rfl, Nat.testBit_two_pow_mul, Nat.testBit_div_two_pow]
        have h8 : 8 ≤ i := by omega
        simp [h8]
      have a2 : (v.toNat % 256).testBit i = false := by
        rw [show 256 = 2 ^ 8 from rfl, Nat.testBit_mod_two_pow]; simp [hi]
      rw [a1, a2]; simp
  rw [e4, iterB_xor, iterB_high 8 (BitVec.ofNat 32 (256 * (v.toNat / 256)))]
  · congr 1
    apply BitVec.eq_of_toNat_eq
    rw [BitVec.toNat_ushiftRight, BitVec.toNat_ushiftRight, ton (by omega), Nat.shiftRight_eq_div_pow, Nat.shiftRight_eq_div_pow]; omega
  · rw [ton (by omega)]; omega
theorem crcRun_B (v : B32) (l : List UInt8) : crcRun (v.toNat : Int) l = ((regB (ofL l) v).toNat : Int) := by
  induction l generalizing v with
  | nil => rfl
  | cons c l ih =>
    show crcRun (crcStep (v.toNat : Int) c) l = _
    rw [crcStep_B, ih]
    simp only [ofL, List.flatMap_cons, regB, List.foldl_append]
def onesB : B32 := 4294967295#32
theorem notI_xor (x : B32) : notI (x.toNat : Int) = ((onesB ^^^ x).toNat : Int) := by
  unfold notI onesB
  rw [show (4294967295 : Int) = ((4294967295#32 : B32).toNat : Int) from by decide, xorI]
theorem crcAddI_B (v : B32) (l : List UInt8) : crcAddI (v.toNat : Int) l = ((onesB ^^^ regB (ofL l) (onesB ^^^ v)).toNat : Int) := by
  unfold crcAddI
  rw [notI_xor, crcRun_B, notI_xor]
theorem crcSumI_B (l : List UInt8) : crcSumI l = ((onesB ^^^ regB (ofL l) onesB).toNat : Int) := by
  unfold crcSumI
  have := crcAddI_B 0#32 l
  simp only [BitVec.toNat_zero, BitVec.xor_zero] at this
  exact this

/-! Long division. -/
theorem numL_bit (l : List Bool) (j : Nat) (hj : j < 32) : (numL l).testBit j = l.getD j false := by
  induction l generalizing j with
  | nil => simp [numL]
  | cons b l ih =>
    simp only [numL]
    rw [show 4294967296 = 2 ^ 32 from rfl, Nat.testBit_mod_two_pow]
    simp only [hj, decide_true, Bool.true_and]
    cases j with
    | zero => cases b <;> simp [Nat.testBit_zero]
    | succ j =>
      rw [Nat.testBit_succ]
      have e : (2 * numL l + if b = true then 1 else 0) / 2 = numL l := by cases b <;> simp <;> omega
      rw [e, ih j (by omega)]; simp
def winB (l : List Bool) (i : Nat) : B32 := BitVec.ofNat 32 (numL (l.drop i))
theorem winB_bit (l : List Bool) (i j : Nat) (hj : j < 32) : (winB l i).getLsbD j = l.getD (i + j) false := by
  unfold winB
  rw [BitVec.getLsbD_ofNat, numL_bit _ _ hj]
  simp [hj, List.getD, List.getElem?_drop]
theorem winB_toNat (l : List Bool) (i : Nat) : (winB l i).toNat = numL (l.drop i) := by
  unfold winB; rw [BitVec.toNat_ofNat, Nat.mod_eq_of_lt (numL_lt _)]
theorem eq_of_bits (x y : B32) (h : ∀ j, j < 32 → x.getLsbD j = y.getLsbD j) : x = y := BitVec.eq_of_getLsbD_eq (fun i hi => h i hi)
theorem getD_set (l : List Bool) (i t : Nat) (y : Bool) (hi : i < l.length) : (l.set i y).getD t false = if t = i then y else l.getD t false := by
  simp only [List.getD, List.getElem?_set]
  by_cases h : i = t
  · subst h; simp [hi]
  · have h' : ¬ t = i := fun e => h e.symm
    simp [h, h']
theorem flipK_getD (l : List Bool) (k t : Nat) (hk : k ≤ l.length) : (flipK l k).getD t false = if t < k then !(l.getD t false) else l.getD t false := by
  induction k with
  | zero => simp [flipK]
  | succ k ih =>
    have ih := ih (by omega)
    rw [flipK, getD_set _ _ _ _ (by rw [flipK_length]; omega)]
    by_cases h : t = k
    · subst h
      rw [if_pos rfl, ih, if_neg (by omega), if_pos (by omega)]
    · rw [if_neg h, ih]
      by_cases h2 : t < k
      · rw [if_pos h2, if_pos (by omega)]
      · rw [if_neg h2, if_neg (by omega)]
theorem xorUp_getD (l d : List Bool) (i j t : Nat) (hj : i + j ≤ l.length) : (xorUp l d i j).getD t false = if i ≤ t ∧ t < i + j then (l.getD t false != d.getD (t - i) false) else l.getD t false := by
  induction j with
  | zero => rw [if_neg (by omega)]; rfl
  | succ j ih =>
    have ih := ih (by omega)
    rw [xorUp, getD_set _ _ _ _ (by rw [xorUp_length]; omega)]
    by_cases h : t = i + j
    · subst h
      rw [if_pos rfl, ih, if_neg (by omega), if_pos (by omega), show i + j - i = j from by omega]
    · rw [if_neg h, ih]
      by_cases h2 : i ≤ t ∧ t < i + j
      · rw [if_pos h2, if_pos (by omega)]
      · rw [if_neg h2, if_neg (by omega)]
theorem divRun_getD_far (l : List Bool) (k t : Nat) (hk : k + 32 ≤ l.length) (ht : k + 32 ≤ t) : (divRun l divL k).getD t false = l.getD t false := by
  induction k with
  | zero => rfl
  | succ k ih =>
    have ih := ih (by omega) (by omega)
    rw [divRun]
    split
    · rw [divL_length, xorUp_getD _ _ _ _ _ (by rw [divRun_length]; omega), if_neg (by omega), ih]
    · exact ih
theorem divL_zero : divL.getD 0 false = true := by decide
theorem divL_poly : ∀ j, j < 32 → divL.getD (j + 1) false = polyB.getLsbD j := by decide
def topB (m : Bool) : B32 := if m then 2147483648#32 else 0#32
theorem topB_bit (m : Bool) (j : Nat) (hj : j < 32) : (topB m).getLsbD j = (m && decide (j = 31)) := by
  cases m
  · simp [topB]
  · have : ∀ j, j < 32 → (2147483648#32 : B32).getLsbD j = decide (j = 31) := by decide
    simpa [topB] using this j hj
theorem nextB_bit (x : B32) (j : Nat) (hj : j < 32) : (nextB x).getLsbD j = ((decide (j < 31) && x.getLsbD (j + 1)) != (x.getLsbD 0 && polyB.getLsbD j)) := by
  unfold nextB
  have hs : (x >>> 1).getLsbD j = (decide (j < 31) && x.getLsbD (j + 1)) := by
    rw [BitVec.getLsbD_ushiftRight, Nat.add_comm 1 j]
    by_cases h : j < 31
    · simp [h]
    · have : j = 31 := by omega
      subst this; simp
  cases h0 : x.getLsbD 0
  · simp [hs]
  · simp [hs, BitVec.getLsbD_xor]
theorem win_step (l : List Bool) (k : Nat) (hk : k + 33 ≤ l.length) :
    winB (divRun l divL (k + 1)) (k + 1) = nextB (winB (divRun l divL k) k) ^^^ topB (l.getD (k + 32) false) := by
  apply eq_of_bits
  intro j hj
  rw [winB_bit _ _ _ hj, BitVec.getLsbD_xor, nextB_bit _ _ hj, winB_bit (divRun l divL k) k 0 (by omega), topB_bit _ _ hj]
  have hfar := divRun_getD_far l k (k + 32) (by omega) (by omega)
  rw [Nat.add_zero, divRun]
  cases hb : (divRun l divL k).getD k false
  · rw [if_neg (by simp)]
    by_cases h31 : j < 31
    · rw [winB_bit _ _ _ (by omega)]
      have : ¬ j = 31 := by omega
      simp [h31, this, show k + 1 + j = k + (j + 1) from by omega]
    · have : j = 31 := by omega
      subst this
      simp only [show k + 1 + 31 = k + 32 from by omega, hfar]; simp
  · rw [if_pos rfl, divL_length, xorUp_getD _ _ _ _ _ (by rw [divRun_length]; omega), if_pos (by omega), show k + 1 + j - k = j + 1 from by omega, divL_poly j hj]
    by_cases h31 : j < 31
    · rw [winB_bit _ _ _ (by omega)]
      have : ¬ j = 31 := by omega
      simp [h31, this, show k + 1 + j = k + (j + 1) from by omega]
    · have : j = 31 := by omega
      subst this
      simp only [show k + 1 + 31 = k + 32 from by omega, hfar]; cases l.getD (k + 32) false <;> cases polyB.getLsbD 31 <;> rfl
theorem win_plain (l : List Bool) (k : Nat) : winB l (k + 1) = (winB l k >>> 1) ^^^ topB (l.getD (k + 32) false) := by
  apply eq_of_bits
  intro j hj
  rw [winB_bit _ _ _ hj, BitVec.getLsbD_xor, BitVec.getLsbD_ushiftRight, topB_bit _ _ hj, Nat.add_comm 1 j]
  by_cases h31 : j < 31
  · rw [winB_bit _ _ _ (by omega)]
    have : ¬ j = 31 := by omega
    simp [this, show k + 1 + j = k + (j + 1) from by omega]
  · have : j = 31 := by omega
    subst this
    simp [show k + 1 + 31 = k + 32 from by omega]
theorem win_even (l : List Bool) (k : Nat) : nextB (winB l k ^^^ bitB (l.getD k false)) = winB l k >>> 1 := by
  apply eq_of_bits
  intro j hj
  have hb0 : ∀ m : Bool, (bitB m).getLsbD 0 = m := by intro m; cases m <;> decide
  have hb1 : ∀ (m : Bool) (j : Nat), (bitB m).getLsbD (j + 1) = false := by
    intro m j; cases m
    · simp [bitB]
    · simp [bitB, BitVec.getLsbD_one]
  rw [nextB_bit _ _ hj, BitVec.getLsbD_xor, BitVec.getLsbD_xor, winB_bit _ _ 0 (by omega), hb0, hb1, BitVec.getLsbD_ushiftRight, Nat.add_comm 1 j]
  by_cases h31 : j < 31
  · simp [h31]
  · have : j = 31 := by omega
    subst this
    simp
theorem regB_take (l : List Bool) (k : Nat) (h : k < l.length) (v : B32) : regB (l.take (k + 1)) v = nextB (regB (l.take k) v ^^^ bitB l[k]) := by
  rw [List.take_succ_eq_append_getElem h, regB, List.foldl_append]; rfl
theorem win_reg (b : List UInt8) (k : Nat) (hk : k ≤ 8 * b.length) :
    winB (divRun (flipK (pad32 b) 32) divL k) k = regB ((ofL b).take k) onesB ^^^ winB (pad32 b) k := by
  have hlen := pad32_length b
  have hofl := ofL_length b
  induction k with
  | zero =>
    apply eq_of_bits
    intro j hj
    rw [winB_bit _ _ _ hj, BitVec.getLsbD_xor, winB_bit _ _ _ hj, divRun, flipK_getD _ _ _ (by omega), if_pos (by omega)]
    have : ∀ j, j < 32 → onesB.getLsbD j = true := by decide
    simp [regB, this j hj]
  | succ k ih =>
    rw [win_step _ _ (by rw [flipK_length]; omega), ih (by omega), regB_take _ _ (by omega)]
    rw [flipK_getD _ _ _ (by omega), if_neg (by omega), win_plain]
    have hm : (pad32 b).getD k false = (ofL b)[k]'(by omega) := by
      unfold pad32
      simp only [List.getD]
      rw [List.getElem?_append_left (by omega), List.getElem?_eq_getElem (by omega)]; rfl
    have := win_even (pad32 b) k
    rw [hm] at this
    rw [← this, ← BitVec.xor_assoc, ← nextB_xor]
    congr 2
    rw [BitVec.xor_assoc, BitVec.xor_comm (bitB _), BitVec.xor_assoc, BitVec.xor_self, BitVec.xor_zero]
theorem numL_not (l : List Bool) (h : l.length = 32) : (BitVec.ofNat 32 (numL (l.map fun x => !x)) : B32) = onesB ^^^ BitVec.ofNat 32 (numL l) := by
  apply eq_of_bits
  intro j hj
  have : ∀ j, j < 32 → onesB.getLsbD j = true := by decide
  rw [BitVec.getLsbD_xor, BitVec.getLsbD_ofNat, BitVec.getLsbD_ofNat, numL_bit _ _ hj, numL_bit _ _ hj, this j hj]
  simp [hj, List.getD, h]
/-- The table's sum is the document's. -/
theorem refSum_eq (b : List UInt8) : crcSumI b = (refSumN b : Nat) := by
  rw [crcSumI_B]
  have hw := win_reg b (8 * b.length) (Nat.le_refl _)
  have hz : winB (pad32 b) (8 * b.length) = 0#32 := by
    apply eq_of_bits
    intro j hj
    rw [winB_bit _ _ _ hj]
    unfold pad32
    simp only [List.getD]
    rw [List.getElem?_append_right (by rw [ofL_length]; omega), List.getElem?_replicate]
    rw [ofL_length]
    rw [if_pos (by omega)]; simp
  rw [hz, BitVec.xor_zero, List.take_of_length_le (by rw [ofL_length]; exact Nat.le_refl _)] at hw
  rw [← hw]
  have hl : ((sumRow b).drop (8 * b.length)).length = 32 := by rw [List.length_drop, sumRow_length]; omega
  have hn := numL_not _ hl
  have h2 : (winB (sumRow b) (8 * b.length)) = BitVec.ofNat 32 (numL ((sumRow b).drop (8 * b.length))) := rfl
  unfold refSumN
  show ((onesB ^^^ winB (sumRow b) (8 * b.length)).toNat : Int) = _
  rw [h2, ← hn, BitVec.toNat_ofNat, Nat.mod_eq_of_lt (numL_lt _)]
end Go.Proofs.Ytgcdeadfkljeaaa
/- The plain laws of layer 3: sums in parts, sums of sums, bursts. -/
namespace Go.Proofs.Ytgcdeadfkljeaaa
open Go.RowKit
set_option linter.unusedVariables false
set_option linter.unusedSimpArgs false

theorem regB_append (l m : List Bool) (v : B32) : regB (l ++ m) v = regB m (regB l v) := by simp [regB, List.foldl_append]
theorem nextB_iter (k : Nat) (v : B32) : nextB (iterB k v) = iterB k (nextB v) := by
  induction k generalizing v with
  | zero => rfl
  | succ k ih => simp only [iterB, ih]
theorem regB_lin (m : List Bool) (u v : B32) : regB m (u ^^^ v) = iterB m.length u ^^^ regB m v := by
  induction m generalizing u v with
  | nil => rfl
  | cons b m ih =>
    show regB m (nextB ((u ^^^ v) ^^^ bitB b)) = _
    rw [BitVec.xor_assoc, nextB_xor, ih]; rfl
theorem ofL_append (a b : List UInt8) : ofL (a ++ b) = ofL a ++ ofL b := by simp [ofL, List.flatMap_append]

/-! Sums in parts. -/
theorem notI_notI (v : Int) (h : 0 ≤ v ∧ v < 4294967296) : notI (notI v) = v := by
  obtain ⟨x, rfl⟩ := ofI v h
  rw [notI_xor, notI_xor, ← BitVec.xor_assoc, BitVec.xor_self, BitVec.zero_xor]
theorem crcAddI_append (s : Int) (a b : List UInt8) : crcAddI (crcAddI s a) b = crcAddI s (a ++ b) := by
  unfold crcAddI
  rw [notI_notI _ (crcRun_range _ _ (notI_range s))]
  unfold crcRun
  rw [List.foldl_append]
theorem crcAddI_nil (s : Int) (h : 0 ≤ s ∧ s < 4294967296) : crcAddI s [] = s := notI_notI s h

/-! Sums of three rows of one length. -/
def xor3 (a b c : UInt8) : UInt8 := a ^^^ b ^^^ c
theorem bitB_xor (a b : Bool) : bitB (a != b) = bitB a ^^^ bitB b := by cases a <;> cases b <;> decide
theorem regB_xor (l m : List Bool) (h : l.length = m.length) (u v : B32) : regB (List.zipWith (fun x y => x != y) l m) (u ^^^ v) = regB l u ^^^ regB m v := by
  induction l generalizing m u v with
  | nil => cases m with
    | nil => rfl
    | cons _ _ => simp at h
  | cons a l ih =>
    cases m with
    | nil => simp at h
    | cons b m =>
      show regB (List.zipWith _ l m) (nextB ((u ^^^ v) ^^^ bitB (a != b))) = regB l (nextB (u ^^^ bitB a)) ^^^ regB m (nextB (v ^^^ bitB b))
      rw [← ih m (by simpa using h), ← nextB_xor, bitB_xor]
      congr 2
      rw [BitVec.xor_assoc, BitVec.xor_assoc, ← BitVec.xor_assoc v, BitVec.xor_comm v, BitVec.xor_assoc]
theorem ofL_bits (l : List UInt8) : ∀ i, (ofL l).getD i false = (l.getD (i / 8) 0).toNat.testBit (i % 8) := by
  induction l with
  | nil => intro i; simp [ofL]
  | cons c l ih =>
    intro i
    have hlen : (bitsL c.toNat 8).length = 8 := by simp [bitsL]
    simp only [ofL, List.flatMap_cons]
    by_cases h : i < 8
    · have : i / 8 = 0 := by omega
      have h2 : i % 8 = i := by omega
      rw [this, h2]
      simp only [List.getD, List.getElem?_append_left (show i < (bitsL c.toNat 8).length by omega), List.getElem?_cons_zero, Option.getD_some]
      simp only [bitsL, List.getElem?_map, List.getElem?_range h, Option.map_some, Option.getD_some]
      rw [Nat.testBit_eq_decide_div_mod_eq]
    · have : i / 8 = (i - 8) / 8 + 1 := by omega
      have h2 : i % 8 = (i - 8) % 8 := by omega
      rw [this, h2]
      have := ih (i - 8)
      simp only [List.getD, List.getElem?_cons_succ] at this ⊢
      rw [List.getElem?_append_right (by omega), hlen]
      exact this
theorem bits_ext (l m : List Bool) (h : l.length = m.length) (hb : ∀ i, l.getD i false = m.getD i false) : l = m := by
  apply List.ext_getElem h
  intro i h1 h2
  have := hb i
  simpa [List.getD, h1, h2] using this
theorem zipL_getD (l m : List Bool) (h : l.length = m.length) (i : Nat) : (List.zipWith (fun x y => x != y) l m).getD i false = (l.getD i false != m.getD i false) := by
  simp only [List.getD, List.getElem?_zipWith]
  by_cases hi : i < l.length
  · have h2 : i < m.length := by omega
    simp [hi, h2]
  · have h2 : ¬ i < m.length := by omega
    simp [hi, h2]
theorem ofL_zip (a b : List UInt8) (h : a.length = b.length) : ofL (List.zipWith (fun x y => x ^^^ y) a b) = List.zipWith (fun x y => x != y) (ofL a) (ofL b) := by
  have hab : (ofL a).length = (ofL b).length := by rw [ofL_length, ofL_length, h]
  apply bits_ext
  · rw [ofL_length]; simp [ofL_length, h]
  · intro i
    rw [zipL_getD _ _ hab, ofL_bits, ofL_bits, ofL_bits]
    have : (List.zipWith (fun x y => x ^^^ y) a b).getD (i / 8) 0 = a.getD (i / 8) 0 ^^^ b.getD (i / 8) 0 := by
      simp only [List.getD, List.getElem?_zipWith]
      by_cases hi : i / 8 < a.length
      · have h2 : i / 8 < b.length := by omega
        simp [hi, h2]
      · have h2 : ¬ i / 8 < b.length := by omega
        simp [hi, h2]
    rw [this, UInt8.toNat_xor, Nat.testBit_xor]
/-- The sum of a sum of two rows. -/
theorem regB_zip (a b : List UInt8) (h : a.length = b.length) (u v : B32) : regB (ofL (List.zipWith (fun x y => x ^^^ y) a b)) (u ^^^ v) = regB (ofL a) u ^^^ regB (ofL b) v := by
  rw [ofL_zip a b h, regB_xor _ _ (by rw [ofL_length, ofL_length, h])]
theorem sum_three (a b c : List UInt8) (h1 : a.length = b.length) (h2 : a.length = c.length) :
    crcSumI (List.zipWith (fun x y => x ^^^ y) (List.zipWith (fun x y => x ^^^ y) a b) c) = bits .xor .u32 (bits .xor .u32 (crcSumI a) (crcSumI b)) (crcSumI c) := by
  have hab : (List.zipWith (fun x y => x ^^^ y) a b).length = a.length := by simp [h1]
  have key : regB (ofL (List.zipWith (fun x y => x ^^^ y) (List.zipWith (fun x y => x ^^^ y) a b) c)) ((onesB ^^^ onesB) ^^^ onesB) = regB (ofL a) onesB ^^^ regB (ofL b) onesB ^^^ regB (ofL c) onesB := by
    rw [regB_zip _ _ (by rw [hab, h2]), regB_zip _ _ h1]
  rw [BitVec.xor_self, BitVec.zero_xor] at key
  simp only [crcSumI_B, xorI]
  rw [key]
  congr 2
  generalize regB (ofL a) onesB = x
  generalize regB (ofL b) onesB = y
  generalize regB (ofL c) onesB = z
  apply BitVec.eq_of_getLsbD_eq
  intro i hi
  simp only [BitVec.getLsbD_xor]
  cases onesB.getLsbD i <;> cases x.getLsbD i <;> cases y.getLsbD i <;> cases z.getLsbD i <;> rfl

/-! Steps lose nothing. -/
theorem polyB_top : polyB.getLsbD 31 = true := by decide
theorem nextB_eq_zero (z : B32) (h : nextB z = 0#32) : z = 0#32 := by
  have hb : ∀ j, j < 32 → (nextB z).getLsbD j = false := by intro j hj; rw [h]; simp
  have h0 : z.getLsbD 0 = false := by
    have := hb 31 (by omega)
    rw [nextB_bit _ _ (by omega), polyB_top] at this
    simpa using this
  apply eq_of_bits
  intro j hj
  cases j with
  | zero => rw [h0]; simp
  | succ j =>
    have := hb j (by omega)
    rw [nextB_bit _ _ (by omega), h0] at this
    have hj2 : j < 31 := by omega
    simpa [hj2] using this
theorem iterB_eq_zero (k : Nat) (z : B32) (h : iterB k z = 0#32) : z = 0#32 := by
  induction k generalizing z with
  | zero => exact h
  | succ k ih => exact nextB_eq_zero z (ih _ h)
theorem xor_eq_zero (x y : B32) (h : x ^^^ y = 0#32) : x = y := by
  have : x ^^^ y ^^^ y = 0#32 ^^^ y := by rw [h]
  rwa [BitVec.xor_assoc, BitVec.xor_self, BitVec.xor_zero, BitVec.zero_xor] at this
theorem iterB_inj (k : Nat) (x y : B32) (h : iterB k x = iterB k y) : x = y := by
  apply xor_eq_zero
  apply iterB_eq_zero k
  rw [iterB_xor, h, BitVec.xor_self]
end Go.Proofs.Ytgcdeadfkljeaaa
