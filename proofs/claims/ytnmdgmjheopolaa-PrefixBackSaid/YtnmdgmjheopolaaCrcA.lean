/- The plain laws of layer 3: sums in parts, sums of sums, bursts. -/
import Derived.Test.YtnmdgmjheopolaaCrcM
namespace Go.Proofs.Ytnmdgmjheopolaa
open Go.RowKit
set_option linter.unusedVariables false
set_option linter.unusedSimpArgs false

theorem regB_append (l m : List Bool) (v : B32) : regB (l ++ m) v = regB m (regB l v) := by simp [regB, List.foldl_append]
theorem nextB_iter (k : Nat) (v : B32) : nextB (iterB k v) = iterB k (nextB v) := by
  induction k generalizing v with
  | zero => rfl
  | succ k ih => simp only [iterB, ih]
theorem regB_lin (m : List Bool) (u v : B32) : regB m (u ^^^ v) = iterB m.length u ^^^ regB m v := by
  induction m generalizing u v with
  | nil => rfl
  | cons b m ih =>
    show regB m (nextB ((u ^^^ v) ^^^ bitB b)) = _
    rw [BitVec.xor_assoc, nextB_xor, ih]; rfl
theorem ofL_append (a b : List UInt8) : ofL (a ++ b) = ofL a ++ ofL b := by simp [ofL, List.flatMap_append]

/-! Sums in parts. -/
theorem notI_notI (v : Int) (h : 0 ≤ v ∧ v < 4294967296) : notI (notI v) = v := by
  obtain ⟨x, rfl⟩ := ofI v h
  rw [notI_xor, notI_xor, ← BitVec.xor_assoc, BitVec.xor_self, BitVec.zero_xor]
theorem crcAddI_append (s : Int) (a b : List UInt8) : crcAddI (crcAddI s a) b = crcAddI s (a ++ b) := by
  unfold crcAddI
  rw [notI_notI _ (crcRun_range _ _ (notI_range s))]
  unfold crcRun
  rw [List.foldl_append]
theorem crcAddI_nil (s : Int) (h : 0 ≤ s ∧ s < 4294967296) : crcAddI s [] = s := notI_notI s h

/-! Sums of three rows of one length. -/
def xor3 (a b c : UInt8) : UInt8 := a ^^^ b ^^^ c
theorem bitB_xor (a b : Bool) : bitB (a != b) = bitB a ^^^ bitB b := by cases a <;> cases b <;> decide
theorem regB_xor (l m : List Bool) (h : l.length = m.length) (u v : B32) : regB (List.zipWith (fun x y => x != y) l m) (u ^^^ v) = regB l u ^^^ regB m v := by
  induction l generalizing m u v with
  | nil => cases m with
    | nil => rfl
    | cons _ _ => simp at h
  | cons a l ih =>
    cases m with
    | nil => simp at h
    | cons b m =>
      show regB (List.zipWith _ l m) (nextB ((u ^^^ v) ^^^ bitB (a != b))) = regB l (nextB (u ^^^ bitB a)) ^^^ regB m (nextB (v ^^^ bitB b))
      rw [← ih m (by simpa using h), ← nextB_xor, bitB_xor]
      congr 2
      rw [BitVec.xor_assoc, BitVec.xor_assoc, ← BitVec.xor_assoc v, BitVec.xor_comm v, BitVec.xor_assoc]
theorem ofL_bits (l : List UInt8) : ∀ i, (ofL l).getD i false = (l.getD (i / 8) 0).toNat.testBit (i % 8) := by
  induction l with
  | nil => intro i; simp [ofL]
  | cons c l ih =>
    intro i
    have hlen : (bitsL c.toNat 8).length = 8 := by simp [bitsL]
    simp only [ofL, List.flatMap_cons]
    by_cases h : i < 8
    · have : i / 8 = 0 := by omega
      have h2 : i % 8 = i := by omega
      rw [this, h2]
      simp only [List.getD, List.getElem?_append_left (show i < (bitsL c.toNat 8).length by omega), List.getElem?_cons_zero, Option.getD_some]
      simp only [bitsL, List.getElem?_map, List.getElem?_range h, Option.map_some, Option.getD_some]
      rw [Nat.testBit_eq_decide_div_mod_eq]
    · have : i / 8 = (i - 8) / 8 + 1 := by omega
      have h2 : i % 8 = (i - 8) % 8 := by omega
      rw [this, h2]
      have := ih (i - 8)
      simp only [List.getD, List.getElem?_cons_succ] at this ⊢
      rw [List.getElem?_append_right (by omega), hlen]
      exact this
theorem bits_ext (l m : List Bool) (h : l.length = m.length) (hb : ∀ i, l.getD i false = m.getD i false) : l = m := by
  apply List.ext_getElem h
  intro i h1 h2
  have := hb i
  simpa [List.getD, h1, h2] using this
theorem zipL_getD (l m : List Bool) (h : l.length = m.length) (i : Nat) : (List.zipWith (fun x y => x != y) l m).getD i false = (l.getD i false != m.getD i false) := by
  simp only [List.getD, List.getElem?_zipWith]
  by_cases hi : i < l.length
  · have h2 : i < m.length := by omega
    simp [hi, h2]
  · have h2 : ¬ i < m.length := by omega
    simp [hi, h2]
theorem ofL_zip (a b : List UInt8) (h : a.length = b.length) : ofL (List.zipWith (fun x y => x ^^^ y) a b) = List.zipWith (fun x y => x != y) (ofL a) (ofL b) := by
  have hab : (ofL a).length = (ofL b).length := by rw [ofL_length, ofL_length, h]
  apply bits_ext
  · rw [ofL_length]; simp [ofL_length, h]
  · intro i
    rw [zipL_getD _ _ hab, ofL_bits, ofL_bits, ofL_bits]
    have : (List.zipWith (fun x y => x ^^^ y) a b).getD (i / 8) 0 = a.getD (i / 8) 0 ^^^ b.getD (i / 8) 0 := by
      simp only [List.getD, List.getElem?_zipWith]
      by_cases hi : i / 8 < a.length
      · have h2 : i / 8 < b.length := by omega
        simp [hi, h2]
      · have h2 : ¬ i / 8 < b.length := by omega
        simp [hi, h2]
    rw [this, UInt8.toNat_xor, Nat.testBit_xor]
/-- The sum of a sum of two rows. -/
theorem regB_zip (a b : List UInt8) (h : a.length = b.length) (u v : B32) : regB (ofL (List.zipWith (fun x y => x ^^^ y) a b)) (u ^^^ v) = regB (ofL a) u ^^^ regB (ofL b) v := by
  rw [ofL_zip a b h, regB_xor _ _ (by rw [ofL_length, ofL_length, h])]
theorem sum_three (a b c : List UInt8) (h1 : a.length = b.length) (h2 : a.length = c.length) :
    crcSumI (List.zipWith (fun x y => x ^^^ y) (List.zipWith (fun x y => x ^^^ y) a b) c) = bits .xor .u32 (bits .xor .u32 (crcSumI a) (crcSumI b)) (crcSumI c) := by
  have hab : (List.zipWith (fun x y => x ^^^ y) a b).length = a.length := by simp [h1]
  have key : regB (ofL (List.zipWith (fun x y => x ^^^ y) (List.zipWith (fun x y => x ^^^ y) a b) c)) ((onesB ^^^ onesB) ^^^ onesB) = regB (ofL a) onesB ^^^ regB (ofL b) onesB ^^^ regB (ofL c) onesB := by
    rw [regB_zip _ _ (by rw [hab, h2]), regB_zip _ _ h1]
  rw [BitVec.xor_self, BitVec.zero_xor] at key
  simp only [crcSumI_B, xorI]
  rw [key]
  congr 2
  generalize regB (ofL a) onesB = x
  generalize regB (ofL b) onesB = y
  generalize regB (ofL c) onesB = z
  apply BitVec.eq_of_getLsbD_eq
  intro i hi
  simp only [BitVec.getLsbD_xor]
  cases onesB.getLsbD i <;> cases x.getLsbD i <;> cases y.getLsbD i <;> cases z.getLsbD i <;> rfl

/-! Steps lose nothing. -/
theorem polyB_top : polyB.getLsbD 31 = true := by decide
theorem nextB_eq_zero (z : B32) (h : nextB z = 0#32) : z = 0#32 := by
  have hb : ∀ j, j < 32 → (nextB z).getLsbD j = false := by intro j hj; rw [h]; simp
  have h0 : z.getLsbD 0 = false := by
    have := hb 31 (by omega)
    rw [nextB_bit _ _ (by omega), polyB_top] at this
    simpa using this
  apply eq_of_bits
  intro j hj
  cases j with
  | zero => rw [h0]; simp
  | succ j =>
    have := hb j (by omega)
    rw [nextB_bit _ _ (by omega), h0] at this
    have hj2 : j < 31 := by omega
    simpa [hj2] using this
theorem iterB_eq_zero (k : Nat) (z : B32) (h : iterB k z = 0#32) : z = 0#32 := by
  induction k generalizing z with
  | zero => exact h
  | succ k ih => exact nextB_eq_zero z (ih _ h)
theorem xor_eq_zero (x y : B32) (h : x ^^^ y = 0#32) : x = y := by
  have : x ^^^ y ^^^ y = 0#32 ^^^ y := by rw [h]
  rwa [BitVec.xor_assoc, BitVec.xor_self, BitVec.xor_zero, BitVec.zero_xor] at this
theorem iterB_inj (k : Nat) (x y : B32) (h : iterB k x = iterB k y) : x = y := by
  apply xor_eq_zero
  apply iterB_eq_zero k
  rw [iterB_xor, h, BitVec.xor_self]
end Go.Proofs.Ytnmdgmjheopolaa
