/- The walk of packsaddleref01.Bytes. -/
import Derived.Test.YtgcdeadfkljeaaaCrcM
import Derived.Test.YtgcdeadfkljeaaaCurP
import Derived.Test.YtgcdeadfkljeaaaSl
namespace Go.Proofs.Ytgcdeadfkljeaaa
open Go.RowKit
set_option linter.unusedVariables false
set_option linter.unusedSimpArgs false

/-- The first k bytes of bits. -/
def bytesK (L : List Bool) (k : Nat) : List UInt8 := (List.range k).map fun j => UInt8.ofNat (numL ((L.drop (8 * j)).take 8) % 256)
def bytesL (L : List Bool) : List UInt8 := bytesK L ((L.length + 7) / 8)
theorem bytesK_succ (L : List Bool) (k : Nat) : bytesK L (k + 1) = bytesK L k ++ [UInt8.ofNat (numL ((L.drop (8 * k)).take 8) % 256)] := by simp [bytesK, List.range_succ]
theorem numL_bitsL8 (x : Nat) (hx : x < 256) : numL (bitsL x 8) = x := by
  apply Nat.eq_of_testBit_eq
  intro j
  by_cases hj : j < 32
  · rw [numL_bit _ _ hj]
    by_cases h8 : j < 8
    · simp [bitsL, List.getD, h8, Nat.testBit_eq_decide_div_mod_eq]
    · have : 256 ≤ 2 ^ j := by
        have : 2 ^ 8 ≤ 2 ^ j := Nat.pow_le_pow_right (by omega) (by omega)
        omega
      rw [Nat.testBit_lt_two_pow (by omega)]
      simp [bitsL, List.getD, h8]
  · have h1 : 2 ^ 32 ≤ 2 ^ j := Nat.pow_le_pow_right (by omega) (by omega)
    have h2 := numL_lt (bitsL x 8)
    rw [Nat.testBit_lt_two_pow (by omega), Nat.testBit_lt_two_pow (by omega)]
theorem ofL_block (l : List UInt8) (j : Nat) (hj : j < l.length) : ((ofL l).drop (8 * j)).take 8 = bitsL l[j].toNat 8 := by
  apply bits_ext
  · simp [ofL_length, bitsL]; omega
  · intro i
    have h := ofL_bits l (8 * j + i)
    simp only [List.getD, List.getElem?_take, List.getElem?_drop] at h ⊢
    by_cases hi : i < 8
    · rw [if_pos hi, h, show (8 * j + i) / 8 = j from by omega, show (8 * j + i) % 8 = i from by omega]
      simp [hj, bitsL, hi, Nat.testBit_eq_decide_div_mod_eq]
    · rw [if_neg hi]; simp [bitsL, hi]
theorem bytesL_ofL (l : List UInt8) : bytesL (ofL l) = l := by
  unfold bytesL bytesK
  rw [ofL_length, show (8 * l.length + 7) / 8 = l.length from by omega]
  apply List.ext_getElem
  · simp
  · intro i h1 h2
    simp only [List.getElem_map, List.getElem_range]
    rw [ofL_block l i h2, numL_bitsL8 _ l[i].toNat_lt, Nat.mod_eq_of_lt l[i].toNat_lt]
    simp

set_option maxRecDepth 100000 in
set_option maxHeartbeats 400000 in
theorem rBytes_any (a : Option Addr) (n c : Nat) (L : List Bool) (w : World) (hl : L.length = n) (hn : n ≤ 10000000000) (hnc : n ≤ c) (hc : c ≤ maxLen) (hr : Rd w Value.bool a L) :
  Calls Try.prog 13 #[.slice a n c] w fun e w' => ∃ a' n' c', e = .returned (.slice a' n' c') ∧ Own w' w.heap.size 5 bE a' n' c' (bytesL L) ∧ Below w.heap.size w w' := by
  unfold maxLen at hc
  have hfin : bytesL L = bytesK L ((n + 7) / 8) := by unfold bytesL; rw [hl]
  have HF := Lib.hid hfin
  have HL := Lib.hid hl
  have HR := Lib.hid hr
  clear hfin hl hr
  go_enter Try.func13, Try.ntmps13
  go_wp2
  go_loopw [3, 4] (fun out i wr => ∃ (k : Nat) (a' : Option Addr) (c' : Nat), k ≤ (n + 7) / 8 ∧ i = .int .i64 ((8 * k : Nat) : Int) ∧ out = .slice a' k c' ∧ Own wr w.heap.size 5 bE a' k c' (bytesK L k) ∧ Below w.heap.size w wr) (fun _ i _ => n + 8 - (intOf i).toNat)
  case atStart => exact ⟨0, none, 0, by omega, rfl, rfl, Own.nil, Below.refl _ _⟩
  case round =>
    obtain ⟨k, a', c', hk, rfl, rfl, hown, hB⟩ := hrel
    have hsz := hB.size
    by_cases hlt : 8 * k < n
    · have hdl : ((L.drop (8 * k)).take 8).length = min 8 (n - 8 * k) := by rw [List.length_take, List.length_drop, HL.out]
      have hrd : Rd w Value.bool (slP a c (8 * k)) ((L.drop (8 * k)).take 8) := (HR.out.slP (8 * k) c (by rw [HL.out]; exact hnc)).take 8
      have HDL := Lib.hid hdl
      have HRD := Lib.hid hrd
      have hst := bytesK_succ L k
      have HST := Lib.hid hst
      clear hdl hrd hst
      generalize (L.drop (8 * k)).take 8 = M at HDL HRD HST
      have hcv : ((numL M : Nat) : Int) % 256 = ((UInt8.ofNat (numL M % 256)).toNat : Int) := by rw [byte_toNat]; omega
      have hnr : 0 ≤ ((numL M : Nat) : Int) ∧ ((numL M : Nat) : Int) < 4294967296 := by have := numL_lt M; omega
      have HC := Lib.hid hcv
      clear hcv
      by_cases h8 : 8 * (k : Int) + 8 ≤ n
      · obtain ⟨r, hr⟩ : ∃ r : Nat, r = 8 := ⟨8, rfl⟩
        have hrn : r ≤ 8 ∧ 8 * k + r ≤ n := by omega
        have hdl2 : M.length = r := by rw [HDL.out]; omega
        have HDL := Lib.hid hdl2
        clear hdl2
        have hsl := fun w => run_slice_lh1 slBool a n c (8 * k) (8 * k + r) (by omega) (by omega) (8 * (k : Int)) (8 * (k : Int) + 8) (by omega) (by omega) w
        rw [Nat.add_sub_cancel_left] at hsl
        have HRR := Lib.hid hr
        clear hr
        generalize slP a c (8 * k) = P at hsl HRD
        go_wp2_with fail
        refine (number_any P r (c - 8 * k) M wr HDL.out (by omega) (HRD.out.below hB)).mono ?_
        rintro e w' ⟨rfl, rfl⟩
        clear hsl
        go_wp2_with (at_builtin; refine wpList_push slByte rfl _ _ rfl rfl rfl hown (UInt8.ofNat (numL M % 256)) ⟨wr.heap.size, 0, none⟩ rfl (cell_push (by simp only [bE]; rw [HC.out]) _ _) rfl (by omega) (by unfold maxLen; omega) hsz ?_; intro a2 c2 w2 hown2 hg2; have hB2 := hown.step hB hg2 hsz; clear hg2)
        go_roundw
        case rel => exact ⟨k + 1, a2, c2, by omega, by go_num, rfl, by rw [HST.out]; exact hown2, hB2⟩
        case measure => simp [intOf]; omega
      · obtain ⟨r, hr⟩ : ∃ r : Nat, r = n - 8 * k := ⟨_, rfl⟩
        have hrn : r ≤ 8 ∧ 8 * k + r ≤ n := by omega
        have hdl2 : M.length = r := by rw [HDL.out]; omega
        have HDL := Lib.hid hdl2
        clear hdl2
        have hsl := fun w => run_slice_lh1 slBool a n c (8 * k) (8 * k + r) (by omega) (by omega) (8 * (k : Int)) (n : Int) (by omega) (by omega) w
        rw [Nat.add_sub_cancel_left] at hsl
        have HRR := Lib.hid hr
        clear hr
        generalize slP a c (8 * k) = P at hsl HRD
        go_wp2_with fail
        refine (number_any P r (c - 8 * k) M wr HDL.out (by omega) (HRD.out.below hB)).mono ?_
        rintro e w' ⟨rfl, rfl⟩
        clear hsl
        go_wp2_with (at_builtin; refine wpList_push slByte rfl _ _ rfl rfl rfl hown (UInt8.ofNat (numL M % 256)) ⟨wr.heap.size, 0, none⟩ rfl (cell_push (by simp only [bE]; rw [HC.out]) _ _) rfl (by omega) (by unfold maxLen; omega) hsz ?_; intro a2 c2 w2 hown2 hg2; have hB2 := hown.step hB hg2 hsz; clear hg2)
        go_roundw
        case rel => exact ⟨k + 1, a2, c2, by omega, by go_num, rfl, by rw [HST.out]; exact hown2, hB2⟩
        case measure => simp [intOf]; omega
    · have hk' : k = (n + 7) / 8 := by omega
      have HK := Lib.hid hk'
      clear hk'
      go_wp2
      go_ret
      exact ⟨_, _, _, rfl, by rw [HF.out, ← HK.out]; exact hown, hB⟩
end Go.Proofs.Ytgcdeadfkljeaaa
