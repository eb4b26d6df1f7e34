/- The walk of cursor.Big. -/
import Derived.Test.YtgcdeadfkljeaaaCurP
namespace Go.Proofs.Ytgcdeadfkljeaaa
open Go.RowKit
set_option linter.unusedVariables false
set_option linter.unusedSimpArgs false

theorem littleL_rev (v k : Nat) (j : Nat) (hj : j < k) : ((littleL v k).drop j).reverse = ((littleL v k).drop (j + 1)).reverse ++ [UInt8.ofNat (v / 256 ^ j % 256)] := by
  rw [List.drop_eq_getElem_cons (by rw [littleL_length]; exact hj), List.reverse_cons]
  simp [littleL]
theorem shr_byte (v j : Nat) : Value.int .u8 ((v : Int) / 2 ^ (8 * j) % 256) = bE (UInt8.ofNat (v / 256 ^ j % 256)) := by
  simp only [bE, byte_toNat]
  congr 1
  have e : (2 : Int) ^ (8 * j) = ((256 ^ j : Nat) : Int) := by
    rw [Int.pow_mul, show (2 : Int) ^ 8 = ((256 : Nat) : Int) from rfl, ← Int.natCast_pow]
  rw [e, show (256 : Int) = ((256 : Nat) : Int) from rfl, ← Int.natCast_ediv, ← Int.natCast_emod]

set_option maxRecDepth 100000 in
set_option maxHeartbeats 2000000 in
theorem cBig_any (a : Option Addr) (n c : Nat) (l : List UInt8) (v : Nat) (m : Int) (w : World) (hl : l.length = n) (hn : n ≤ 1000000000) (hv : v < 18446744073709551616) (h1 : -9223372036854775808 ≤ m) (h2 : m ≤ 9223372036854775807) (hr : Rd w bE a l) :
  Calls Try.prog 52 #[.slice a n c, .int .u64 (v : Int), .int .i64 m] w fun e w' => ∃ a' n' c', e = .returned (.slice a' n' c') ∧ Buf w' w.heap.size 5 bE a' n' c' (l ++ putB v m) ∧ Below w.heap.size w w' := by
  go_enter Try.func52, Try.ntmps52
  go_wp2_with fail
  refine (clone_any a n c l w hl (by omega) hr).mono ?_
  rintro e w1 ⟨a1, c1, rfl, hown1, hB1⟩
  go_wp2_with fail
  refine (clip_any a1 n c1 _ hown1.le_cap hown1.cap_max ?_).mono ?_
  · intro h
    rcases hown1.blk with ⟨_, h2, h3⟩ | ⟨g, h4, _⟩
    · exact ⟨h2, h3⟩
    · rw [h] at h4; cases h4
  rintro e w' ⟨rfl, rfl⟩
  have hbuf : Buf w1 w.heap.size 5 bE a1 n n l := .inr ⟨rfl, by unfold maxLen; omega, hl, hown1.rd⟩
  clear hown1
  go_wp2_with fail
  refine (sized_any m w1 h1 h2).mono ?_
  rintro e w' ⟨rfl, rfl⟩
  have hput : putB v m = if sizedB m then (littleL v m.toNat).reverse else [] := rfl
  cases hs : sizedB m with
  | false =>
    rw [hs] at hput
    have HP := Lib.hid hput
    clear hput hs
    go_wp2
    go_ret
    exact ⟨_, _, _, rfl, by rw [HP.out]; simpa using hbuf, hB1⟩
  | true =>
    rw [hs] at hput
    obtain ⟨k, hk, rfl⟩ : ∃ k : Nat, k ≤ 8 ∧ m = (k : Int) := by
      rcases sizedB_cases m hs with rfl | rfl | rfl | rfl
      · exact ⟨1, by omega, rfl⟩
      · exact ⟨2, by omega, rfl⟩
      · exact ⟨4, by omega, rfl⟩
      · exact ⟨8, by omega, rfl⟩
    have hput2 : putB v k = (littleL v k).reverse := by rw [hput]; simp
    have HP := Lib.hid hput2
    clear hput hput2 hs
    go_wp2
    go_loopw [7, 8] (fun out i wr => ∃ (j : Nat) (a' : Option Addr) (c' : Nat), j ≤ k ∧ i = .int .i64 ((j : Int) - 1) ∧ out = .slice a' (n + (k - j)) c' ∧ Buf wr w.heap.size 5 bE a' (n + (k - j)) c' (l ++ ((littleL v k).drop j).reverse) ∧ Below w.heap.size w wr) (fun _ i _ => (intOf i + 1).toNat)
    case atStart => exact ⟨k, a1, n, by omega, rfl, by simp, by rw [List.drop_of_length_le (by rw [littleL_length]; exact Nat.le_refl _)]; simpa using hbuf, hB1⟩
    case round =>
      obtain ⟨j, a', c', hj, rfl, rfl, hb, hB⟩ := hrel
      clear hbuf hB1
      have hsz := hB.size
      cases j with
      | zero =>
        have e0 : ((0 : Nat) : Int) - 1 = -1 := rfl
        go_wp2
        go_ret
        exact ⟨_, _, _, rfl, by rw [HP.out]; exact hb, hB⟩
      | succ j =>
        have ek : (((j + 1 : Nat) : Int) - 1) = (j : Int) := by omega
        rw [ek]
        have hs := littleL_rev v k j (by omega)
        have HS := Lib.hid hs
        clear hs
        generalize hq : n + (k - (j + 1)) = q at hb
        have HQ := Lib.hid hq
        have hq2 : q ≤ 1000000008 := by omega
        clear hq
        go_wp2_with (at_builtin; refine wpList_pushB slByte rfl rfl _ _ rfl rfl rfl hb hB (UInt8.ofNat (v / 256 ^ j % 256)) ⟨wr.heap.size, 0, none⟩ rfl (cell_push (shr_byte v j) _ _) rfl (by omega) (by unfold maxLen; omega) hsz ?_; intro a2 c2 w2 hown2 hB2; clear hb hB)
        go_roundw
        case rel => exact ⟨j, a2, c2, by omega, by go_num, by rw [show n + (k - j) = q + 1 from by rw [← HQ.out]; omega], by rw [show n + (k - j) = q + 1 from by rw [← HQ.out]; omega, HS.out, ← List.append_assoc]; exact .inl hown2, hB2⟩
        case measure => simp [intOf]
end Go.Proofs.Ytgcdeadfkljeaaa
