/- The bits of bytes of bits. -/
import Derived.Test.YtnmdgmjheopolaaNumF
import Derived.Test.YtnmdgmjheopolaaCrcA
import Derived.Test.YtnmdgmjheopolaaCrcB
namespace Go.Proofs.Ytnmdgmjheopolaa
open Go.RowKit
set_option linter.unusedVariables false
set_option linter.unusedSimpArgs false

/-- The bits of bytes of bits: the bits, and noughts behind. -/
theorem ofL_bytesL (all : List Bool) (i : Nat) : (ofL (bytesL all)).getD i false = all.getD i false := by
  rw [ofL_bits]
  by_cases hi : i / 8 < (all.length + 7) / 8
  · have hb : (bytesL all).getD (i / 8) 0 = UInt8.ofNat (numL ((all.drop (8 * (i / 8))).take 8) % 256) := by
      simp [bytesL, bytesK, List.getD, hi]
    rw [hb, byte_toNat, show (256 : Nat) = 2 ^ 8 from rfl, Nat.testBit_mod_two_pow, decide_eq_true (show i % 8 < 8 by omega), Bool.true_and, numL_bit _ _ (by omega)]
    simp only [List.getD, List.getElem?_take, List.getElem?_drop]
    rw [if_pos (by omega), show 8 * (i / 8) + i % 8 = i by omega]
  · have h1 : (bytesL all).getD (i / 8) 0 = 0 := by simp [bytesL, bytesK, List.getD, hi]
    rw [h1]
    simp [List.getD, List.getElem?_eq_none (show all.length ≤ i by omega)]
theorem bytesL_length (all : List Bool) : (bytesL all).length = (all.length + 7) / 8 := by simp [bytesL, bytesK]
theorem ofL_cut (all : List Bool) (p n : Nat) (h : p + n ≤ all.length) : ((ofL (bytesL all)).drop p).take n = (all.drop p).take n := by
  apply bits_ext
  · rw [List.length_take, List.length_take, List.length_drop, List.length_drop, ofL_length, bytesL_length]; omega
  · intro i
    have := ofL_bytesL all (p + i)
    simp only [List.getD, List.getElem?_take, List.getElem?_drop] at this ⊢
    split
    · exact this
    · rfl
end Go.Proofs.Ytnmdgmjheopolaa
