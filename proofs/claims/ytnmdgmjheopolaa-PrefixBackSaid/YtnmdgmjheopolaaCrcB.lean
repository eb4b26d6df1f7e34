/- The plain laws of layer 3: what is sealed is opened; bursts. -/
import Derived.Test.YtnmdgmjheopolaaCrcO
import Derived.Test.YtnmdgmjheopolaaCrcA
import Derived.Test.YtnmdgmjheopolaaLitM
namespace Go.Proofs.Ytnmdgmjheopolaa
open Go.RowKit
set_option linter.unusedVariables false
set_option linter.unusedSimpArgs false

/-! Sealed and opened. -/
theorem bodyL_seal (l : List UInt8) : bodyL (sealL l) = l := by
  unfold bodyL; rw [sealL_len, Nat.add_sub_cancel]; simp [sealL]
theorem tailL_seal (l : List UInt8) : tailL (sealL l) = littleL (crcSumI l).toNat 4 := by
  unfold tailL; rw [sealL_len, Nat.add_sub_cancel]; simp [sealL, putL4]
theorem openOk_seal (l : List UInt8) : openOk (sealL l) = true := by
  have h := crcSumI_range l
  unfold openOk
  rw [bodyL_seal, tailL_seal, litR_num _ _ (by omega), numLE_little _ _ _ (Nat.le_refl _), Nat.mod_eq_of_lt (by omega)]
  exact beq_iff_eq.2 (by omega)
theorem openL_seal (l : List UInt8) : openL (sealL l) = l := by
  unfold openL; rw [if_pos ⟨by rw [sealL_len]; omega, openOk_seal l⟩, bodyL_seal]
theorem openEr_seal (l : List UInt8) : openEr (sealL l) = 0 := by
  unfold openEr; rw [if_neg (by rw [sealL_len]; omega), if_pos (openOk_seal l)]
theorem body_tail (l : List UInt8) : bodyL l ++ tailL l = l := List.take_append_drop _ _
theorem tailL_len (l : List UInt8) (h : 4 ≤ l.length) : (tailL l).length = 4 := by unfold tailL; rw [List.length_drop]; omega
theorem openOk_iff (l : List UInt8) (h : 4 ≤ l.length) : openOk l = true ↔ sealL (bodyL l) = l := by
  have hr := crcSumI_range (bodyL l)
  have ht := tailL_len l h
  have hn := littleL_num4 (tailL l) ht
  have hlt := numLE_lt (tailL l) 4
  unfold openOk sealL
  rw [litR_num _ _ (by omega), beq_iff_eq, putL4]
  constructor
  · intro he
    rw [he, Int.toNat_natCast, hn, body_tail]
  · intro he
    have h2 : littleL (crcSumI (bodyL l)).toNat 4 = tailL l := by
      have := he.trans (body_tail l).symm
      exact List.append_cancel_left this
    rw [← h2, numLE_little _ _ _ (Nat.le_refl _), Nat.mod_eq_of_lt (by omega)]
    omega

/-! The sum as a residue. -/
theorem numLE_bit (t : List UInt8) (n i : Nat) (hi : i < 8 * n) : (numLE t n).testBit i = (t.getD (i / 8) 0).toNat.testBit (i % 8) := by
  have hd := numLE_digit t n (i / 8) (by omega)
  have e : (256 : Nat) ^ (i / 8) = 2 ^ (8 * (i / 8)) := by rw [Nat.pow_mul]
  rw [e, show (256 : Nat) = 2 ^ 8 from rfl] at hd
  rw [← hd, Nat.testBit_mod_two_pow, Nat.testBit_div_two_pow, show i % 8 + 8 * (i / 8) = i from by omega, decide_eq_true (show i % 8 < 8 from by omega)]
  rfl
theorem bitsL_bit (c k i : Nat) : (bitsL c k).getD i false = (decide (i < k) && c.testBit i) := by
  by_cases hi : i < k
  · simp [bitsL, List.getD, hi, Nat.testBit_eq_decide_div_mod_eq]
  · simp [bitsL, List.getD, hi]
theorem bitsL4_num (t : List UInt8) (h : t.length = 4) : ofL t = bitsL (numLE t 4) 32 := by
  apply bits_ext
  · rw [ofL_length, h]; exact (bitsL_length _ _).symm
  · intro i
    rw [ofL_bits, bitsL_bit]
    by_cases hi : i < 32
    · rw [numLE_bit t 4 i (by omega), decide_eq_true hi]; rfl
    · have h1 : t.getD (i / 8) 0 = 0 := by simp [List.getD, List.getElem?_eq_none (show t.length ≤ i / 8 by omega)]
      rw [h1, decide_eq_false hi]; simp
theorem openOk_reg (l : List UInt8) (h : 4 ≤ l.length) : openOk l = true ↔ regB (ofL l) onesB = iterB 32 onesB := by
  have ht := tailL_len l h
  have hlt := numLE_lt (tailL l) 4
  have e : ofL l = ofL (bodyL l) ++ ofL (tailL l) := by rw [← ofL_append, body_tail]
  unfold openOk
  rw [litR_num _ _ (by omega), beq_iff_eq, crcSumI_B, e, regB_append, bitsL4_num _ ht, regB_bits 32 _ (by omega) (by omega)]
  generalize regB (ofL (bodyL l)) onesB = r
  generalize hT : numLE (tailL l) 4 = T at hlt
  constructor
  · intro he
    have : BitVec.ofNat 32 T = onesB ^^^ r := by
      apply BitVec.eq_of_toNat_eq
      rw [BitVec.toNat_ofNat, Nat.mod_eq_of_lt (by omega)]; omega
    rw [this, ← BitVec.xor_assoc, BitVec.xor_comm r, BitVec.xor_assoc, BitVec.xor_self, BitVec.xor_zero]
  · intro he
    have h2 := iterB_inj _ _ _ he
    have : BitVec.ofNat 32 T = onesB ^^^ r := by
      rw [← h2, BitVec.xor_comm r, BitVec.xor_assoc, BitVec.xor_self, BitVec.xor_zero]
    rw [← this, BitVec.toNat_ofNat, Nat.mod_eq_of_lt (by omega)]

/-! Bursts. -/
theorem iterB_zero (k : Nat) : iterB k 0#32 = 0#32 := by
  induction k with
  | zero => rfl
  | succ k ih => rw [iterB, nextB_zero, ih]
theorem regB_noughts (l : List Bool) (v : B32) (h : ∀ i, l.getD i false = false) : regB l v = iterB l.length v := by
  induction l generalizing v with
  | nil => rfl
  | cons b l ih =>
    have hb : b = false := by simpa using h 0
    subst hb
    show regB l (nextB (v ^^^ 0#32)) = iterB l.length (nextB v)
    rw [BitVec.xor_zero]
    exact ih _ fun i => by have := h (i + 1); simpa [List.getD] using this
theorem bitsL_num (l : List Bool) (h : l.length ≤ 32) : bitsL (numL l) l.length = l := by
  apply bits_ext
  · exact bitsL_length _ _
  · intro i
    rw [bitsL_bit]
    by_cases hi : i < l.length
    · rw [numL_bit l i (by omega), decide_eq_true hi]; rfl
    · rw [decide_eq_false hi]; simp [List.getD, List.getElem?_eq_none (show l.length ≤ i by omega)]
theorem numL_small (l : List Bool) (h : l.length ≤ 32) : numL l < 2 ^ l.length := by
  apply Nat.lt_pow_two_of_testBit
  intro i hi
  by_cases h32 : i < 32
  · rw [numL_bit l i h32]; simp [List.getD, List.getElem?_eq_none hi]
  · have h1 : 2 ^ 32 ≤ 2 ^ i := Nat.pow_le_pow_right (by omega) (by omega)
    have h2 := numL_lt l
    exact Nat.testBit_lt_two_pow (by omega)
theorem burst_seen (D : List Bool) (p : Nat) (h1 : ∀ i, i < p → D.getD i false = false) (h2 : ∀ i, p + 32 ≤ i → D.getD i false = false) (h0 : regB D 0#32 = 0#32) : ∀ i, D.getD i false = false := by
  have e : D = D.take p ++ ((D.drop p).take 32 ++ D.drop (p + 32)) := by
    rw [← List.drop_drop, List.take_append_drop, List.take_append_drop]
  have hpre : ∀ i, (D.take p).getD i false = false := by
    intro i
    have := h1 i
    simp only [List.getD, List.getElem?_take] at this ⊢
    split
    · exact this (by assumption)
    · rfl
  have hpost : ∀ i, (D.drop (p + 32)).getD i false = false := by
    intro i
    have := h2 (p + 32 + i) (by omega)
    simpa only [List.getD, List.getElem?_drop] using this
  rw [e, regB_append, regB_append, regB_noughts _ _ hpre, iterB_zero, regB_noughts _ _ hpost] at h0
  have hM := iterB_eq_zero _ _ h0
  have hlen : ((D.drop p).take 32).length ≤ 32 := by rw [List.length_take]; omega
  generalize hMM : (D.drop p).take 32 = M at hM hlen
  rw [← bitsL_num M hlen, regB_bits _ _ (numL_lt M) (numL_small M hlen), BitVec.zero_xor] at hM
  have hz := iterB_eq_zero _ _ hM
  have hn : numL M = 0 := by
    have := congrArg BitVec.toNat hz
    rw [BitVec.toNat_ofNat, Nat.mod_eq_of_lt (numL_lt M)] at this
    simpa using this
  intro i
  by_cases hi1 : i < p
  · exact h1 i hi1
  · by_cases hi2 : p + 32 ≤ i
    · exact h2 i hi2
    · have hb := numL_bit M (i - p) (by omega)
      rw [hn, ← hMM] at hb
      simp only [List.getD, List.getElem?_take, List.getElem?_drop] at hb
      rw [if_pos (by omega), show p + (i - p) = i from by omega] at hb
      simpa [List.getD] using hb.symm
/-- The bits of a row with a bit of a byte turned over. -/
theorem ofL_flip (l : List UInt8) (p : Nat) (hp : p < 8 * l.length) (t : Nat) : (ofL (l.set (p / 8) (flipB (l.getD (p / 8) 0) (p % 8)))).getD t false = if t = p then !(ofL l).getD p false else (ofL l).getD t false := by
  rw [ofL_bits, ofL_bits, ofL_bits]
  have hlt : p / 8 < l.length := by omega
  have h8 : p % 8 < 8 := Nat.mod_lt _ (by omega)
  have h2 : 2 ^ (p % 8) < 256 := by
    have : 2 ^ (p % 8) ≤ 2 ^ 7 := Nat.pow_le_pow_right (by omega) (by omega)
    omega
  have hset : (l.set (p / 8) (flipB (l.getD (p / 8) 0) (p % 8))).getD (t / 8) 0 = if t / 8 = p / 8 then flipB (l.getD (p / 8) 0) (p % 8) else l.getD (t / 8) 0 := by
    simp only [List.getD, List.getElem?_set]
    by_cases h : p / 8 = t / 8
    · rw [if_pos h, if_pos h.symm, if_pos hlt]; rfl
    · rw [if_neg h, if_neg (fun e => h e.symm)]
  rw [hset]
  by_cases h : t / 8 = p / 8
  · rw [if_pos h, flipB, UInt8.toNat_xor, Nat.testBit_xor, show (UInt8.ofNat (2 ^ (p % 8))).toNat = 2 ^ (p % 8) from by simp [UInt8.toNat_ofNat', Nat.mod_eq_of_lt h2], Nat.testBit_two_pow]
    by_cases htp : t = p
    · subst htp; simp
    · have : p % 8 ≠ t % 8 := by omega
      rw [if_neg htp, h]; simp [this]
  · have htp : t ≠ p := by intro e; exact h (by rw [e])
    rw [if_neg h, if_neg htp]
/-- Does one of the first k bits of the pattern turn bit t over? -/
def hitAt (n : Nat) (at' pat : Int) (t : Nat) : Nat → Bool
  | 0 => false
  | k+1 => hitAt n at' pat t k || (hitsB n at' pat k && decide (at' + k = (t : Int)))
theorem hitAt_no (n : Nat) (at' pat : Int) (t k : Nat) (h : ∀ j : Nat, j < k → at' + j ≠ (t : Int)) : hitAt n at' pat t k = false := by
  induction k with
  | zero => rfl
  | succ k ih => rw [hitAt, ih (fun j hj => h j (by omega)), decide_eq_false (h k (by omega))]; simp
theorem burstRun_bits (l : List UInt8) (at' pat : Int) (k : Nat) (t : Nat) :
    (ofL (burstRun l at' pat k)).getD t false = ((ofL l).getD t false != hitAt l.length at' pat t k) := by
  induction k with
  | zero => simp [burstRun, hitAt]
  | succ k ih =>
    rw [burstRun, burstStep, burstRun_len, hitAt]
    cases hh : hitsB l.length at' pat k with
    | true =>
      rw [if_pos rfl]
      have hr := hh
      unfold hitsB at hr
      simp only [Bool.and_eq_true, decide_eq_true_eq] at hr
      have hp : (at' + k).toNat < 8 * (burstRun l at' pat k).length := by rw [burstRun_len]; omega
      rw [ofL_flip _ _ hp]
      by_cases ht : t = (at' + k).toNat
      · rw [if_pos ht, ← ht, ih, hitAt_no _ _ _ _ _ (fun j hj => by omega), decide_eq_true (show at' + k = (t : Int) by omega)]; simp
      · rw [if_neg ht, ih, decide_eq_false (show ¬ at' + k = (t : Int) by omega)]; simp
    | false => rw [if_neg (by simp), ih]; simp
theorem ofL_inj (a b : List UInt8) (h : ofL a = ofL b) : a = b := by
  have hl : a.length = b.length := by have := congrArg List.length h; rw [ofL_length, ofL_length] at this; omega
  apply List.ext_getElem hl
  intro i h1 h2
  apply UInt8.toNat_inj.1
  apply Nat.eq_of_testBit_eq
  intro j
  by_cases hj : j < 8
  · have ha := ofL_bits a (8 * i + j)
    have hb := ofL_bits b (8 * i + j)
    rw [h] at ha
    rw [show (8 * i + j) / 8 = i from by omega, show (8 * i + j) % 8 = j from by omega] at ha hb
    have := ha.symm.trans hb
    simpa [List.getD, h1, h2] using this
  · have h256 : 256 ≤ 2 ^ j := by
      have : 2 ^ 8 ≤ 2 ^ j := Nat.pow_le_pow_right (by omega) (by omega)
      omega
    rw [Nat.testBit_lt_two_pow (Nat.lt_of_lt_of_le a[i].toNat_lt h256), Nat.testBit_lt_two_pow (Nat.lt_of_lt_of_le b[i].toNat_lt h256)]
/-- No burst goes unseen. -/
theorem burst_opens (s : List UInt8) (at' pat : Int) (h4 : 4 ≤ s.length) (hs : openOk s = true) (hb : openOk (burstL s at' pat) = true) : burstL s at' pat = s := by
  by_cases hout : at' < -32 ∨ at' ≥ 8 * (s.length : Int)
  · unfold burstL; rw [if_pos hout]
  · have hbl : burstL s at' pat = burstRun s at' pat 32 := by unfold burstL; rw [if_neg hout]
    rw [hbl] at hb ⊢
    have h1 := (openOk_reg s h4).1 hs
    have h2 := (openOk_reg _ (by rw [burstRun_len]; exact h4)).1 hb
    have hlen : (ofL s).length = (ofL (burstRun s at' pat 32)).length := by rw [ofL_length, ofL_length, burstRun_len]
    have hx := regB_xor (ofL s) (ofL (burstRun s at' pat 32)) hlen onesB onesB
    rw [h1, h2, BitVec.xor_self, BitVec.xor_self] at hx
    have hD : ∀ t, (List.zipWith (fun x y => x != y) (ofL s) (ofL (burstRun s at' pat 32))).getD t false = hitAt s.length at' pat t 32 := by
      intro t
      rw [zipL_getD _ _ hlen, burstRun_bits s at' pat 32 t]
      cases (ofL s).getD t false <;> simp
    have hz := burst_seen _ at'.toNat (fun i hi => by
      rw [hD]; exact hitAt_no _ _ _ _ _ (fun j hj => by omega)) (fun i hi => by
      rw [hD]; exact hitAt_no _ _ _ _ _ (fun j hj => by omega)) hx
    apply ofL_inj
    apply bits_ext _ _ hlen.symm
    intro i
    have := hz i
    rw [zipL_getD _ _ hlen] at this
    have h3 : (ofL s).getD i false = (ofL (burstRun s at' pat 32)).getD i false := by simpa using this
    exact h3.symm
end Go.Proofs.Ytnmdgmjheopolaa
