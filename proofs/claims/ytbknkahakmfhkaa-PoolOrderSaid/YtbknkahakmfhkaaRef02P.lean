/- The walks of packsaddleref02.Little, Big. -/
import Derived.Test.YtbknkahakmfhkaaCurP
namespace Go.Proofs.Ytbknkahakmfhkaa
open Go.RowKit
set_option linter.unusedVariables false
set_option linter.unusedSimpArgs false

set_option maxRecDepth 100000 in
set_option maxHeartbeats 2000000 in
theorem rLittle_any (a : Option Addr) (n c : Nat) (l : List UInt8) (v : Nat) (m : Int) (w : World) (hl : l.length = n) (hn : n ≤ 1000000000) (hv : v < 18446744073709551616) (hr : Rd w bE a l) :
  Calls Try.prog 100 #[.slice a n c, .int .u64 (v : Int), .int .i64 m] w fun e w' => ∃ a' n' c', e = .returned (.slice a' n' c') ∧ Own w' w.heap.size 5 bE a' n' c' (l ++ putL v m) ∧ Below w.heap.size w w' := by
  have hown0 := own_empty0 (E := bE) w 5 (Nat.le_refl _)
  have hB0 := below_alloc w (.cells #[] 5)
  have hs0 := hB0.size
  have HQ := Lib.hid (hr.below hB0)
  have HL := Lib.hid hl
  clear hl hr
  have hput : putL v m = if sizedB m then littleL v m.toNat else [] := rfl
  cases hs : sizedB m with
  | false =>
    rw [hs] at hput
    have HP := Lib.hid hput
    have HS := Lib.hid hs
    clear hput hs
    go_enter Try.func100, Try.ntmps100
    go_wp2_with (at_builtin; refine wpList_cat slByte rfl _ _ rfl rfl hown0 rfl HL.out HQ.out (byteOne _) (by omega) (by unfold maxLen; omega) hs0 ?_; intro a4 c4 w4 hown4 hg4 _ _; simp only [Nat.zero_add, List.nil_append] at hown4; have hb7 := hown0.step hB0 hg4 hs0; clear hown0 hB0 hg4)
    refine (size2_any m _).mono ?_
    rintro e w' ⟨rfl, rfl⟩
    rw [HS.out]
    go_wp2
    go_ret
    exact ⟨_, _, _, rfl, by rw [HP.out]; simpa using hown4, hb7⟩
  | true =>
    rw [hs] at hput
    obtain ⟨k, hk, rfl⟩ : ∃ k : Nat, k ≤ 8 ∧ m = (k : Int) := by
      rcases sizedB_cases m hs with rfl | rfl | rfl | rfl
      · exact ⟨1, by omega, rfl⟩
      · exact ⟨2, by omega, rfl⟩
      · exact ⟨4, by omega, rfl⟩
      · exact ⟨8, by omega, rfl⟩
    have hput2 : putL v k = littleL v k := by rw [hput]; simp
    have HP := Lib.hid hput2
    have HS1 := Lib.hid hs
    clear hput hput2 hs
    go_enter Try.func100, Try.ntmps100
    go_wp2_with (at_builtin; refine wpList_cat slByte rfl _ _ rfl rfl hown0 rfl HL.out HQ.out (byteOne _) (by omega) (by unfold maxLen; omega) hs0 ?_; intro a4 c4 w4 hown4 hg4 _ _; simp only [Nat.zero_add, List.nil_append] at hown4; have hb7 := hown0.step hB0 hg4 hs0; clear hown0 hB0 hg4)
    refine (size2_any k _).mono ?_
    rintro e w' ⟨rfl, rfl⟩
    rw [HS1.out]
    go_wp2
    go_loopw [1, 7, 8] (fun x out i wr => ∃ (j : Nat) (a' : Option Addr) (c' : Nat), j ≤ k ∧ i = .int .i64 j ∧ x = .int .u64 ((v / 256 ^ j : Nat) : Int) ∧ out = .slice a' (n + j) c' ∧ Own wr w.heap.size 5 bE a' (n + j) c' (l ++ littleL v j) ∧ Below w.heap.size w wr) (fun _ _ i _ => k - (intOf i).toNat)
    case atStart => exact ⟨0, a4, c4, by omega, rfl, by simp, rfl, by simpa [littleL] using hown4, hb7⟩
    case round =>
      obtain ⟨j, a', c', hj, rfl, rfl, rfl, hb, hB⟩ := hrel
      clear hown4 hb7
      have hsz := hB.size
      by_cases hlt : j < k
      · have hle : v / 256 ^ j ≤ v := Nat.div_le_self _ _
        have hpow : v / 256 ^ (j + 1) = v / 256 ^ j / 256 := by rw [Nat.pow_succ, Nat.div_div_eq_div_mul]
        have HPW := Lib.hid hpow
        have hs := littleL_succ v j
        have HS := Lib.hid hs
        clear hpow hs
        generalize v / 256 ^ j = x at hle HPW HS ⊢
        have hc : Value.int .u8 ((x : Int) % 256) = bE (UInt8.ofNat (x % 256)) := by
          simp only [bE, byte_toNat]; rfl
        have HC := Lib.hid hc
        clear hc
        go_wp2_with (at_builtin; refine wpList_push slByte rfl _ _ rfl rfl rfl hb (UInt8.ofNat (x % 256)) ⟨wr.heap.size, 0, none⟩ rfl (cell_push HC.out _ _) rfl (by omega) (by unfold maxLen; omega) hsz ?_; intro a2 c2 w2 hown2 hg2; have hB2 := hb.step hB hg2 hsz; clear hb hB hg2)
        go_roundw
        case rel => exact ⟨j + 1, a2, c2, by omega, by go_num, by rw [HPW.out]; go_num, rfl, by rw [HS.out, ← List.append_assoc]; exact hown2, hB2⟩
        case measure => simp [intOf]; omega
      · have hj' : j = k := by omega
        subst hj'
        go_wp2
        go_ret
        exact ⟨_, _, _, rfl, by rw [HP.out]; exact hb, hB⟩

end Go.Proofs.Ytbknkahakmfhkaa
