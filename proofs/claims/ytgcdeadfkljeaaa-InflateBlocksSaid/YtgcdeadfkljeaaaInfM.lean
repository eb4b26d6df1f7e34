/- The document's Length, Distance. -/
import Derived.Test.YtgcdeadfkljeaaaInfL
namespace Go.Proofs.Ytgcdeadfkljeaaa
open Go.RowKit
set_option linter.unusedVariables false
set_option linter.unusedSimpArgs false

def moreK (x : Nat) : Nat := if x < 265 then 0 else (x - 265) / 4 + 1
def farK (x : Nat) : Nat := if x < 4 then 0 else x / 2 - 1
def baseL : Nat → Nat
  | 0 => 3
  | k+1 => baseL k + 2 ^ moreK (257 + k)
def baseD : Nat → Nat
  | 0 => 1
  | k+1 => baseD k + 2 ^ farK k
set_option maxRecDepth 100000 in
theorem baseL_le : ∀ k : Nat, k ≤ 28 → baseL k ≤ 300 ∧ moreK (257 + k) ≤ 6 := by
  have : ∀ k : Fin 29, baseL k.val ≤ 300 ∧ moreK (257 + k.val) ≤ 6 := by decide +kernel
  exact fun k h => this ⟨k, by omega⟩
set_option maxRecDepth 100000 in
theorem baseD_le : ∀ k : Nat, k ≤ 29 → baseD k ≤ 40000 ∧ farK k ≤ 14 := by
  have : ∀ k : Fin 30, baseD k.val ≤ 40000 ∧ farK k.val ≤ 14 := by decide +kernel
  exact fun k h => this ⟨k, by omega⟩
set_option maxRecDepth 100000 in
theorem lenK_base : ∀ k : Nat, k < 28 → lenK ((257 + k : Nat) : Int) = ((baseL k : Int), (moreK (257 + k) : Int), true) := by
  have : ∀ k : Fin 28, lenK ((257 + k.val : Nat) : Int) = ((baseL k.val : Int), (moreK (257 + k.val) : Int), true) := by decide +kernel
  exact fun k h => this ⟨k, h⟩
set_option maxRecDepth 100000 in
theorem disK_base : ∀ k : Nat, k < 30 → disK (k : Int) = ((baseD k : Int), (farK k : Int), true) := by
  have : ∀ k : Fin 30, disK (k.val : Int) = ((baseD k.val : Int), (farK k.val : Int), true) := by decide +kernel
  exact fun k h => this ⟨k, h⟩
theorem two_pow_le (i : Nat) (h : i ≤ 14) : 2 ^ i ≤ 16384 := Nat.pow_le_pow_right (by decide) h
set_option maxRecDepth 100000 in
set_option maxHeartbeats 4000000 in
theorem rmore_any (x : Nat) (w : World) (hx : x ≤ 100000) : Calls Try.prog 39 #[.int .i64 (x : Int)] w fun e w' => e = .returned (.int .i64 (moreK x : Int)) ∧ w' = w := by
  by_cases h : x < 265
  · have HV : Hid (moreK x = 0) := Lib.hid (by unfold moreK; rw [if_pos h])
    have g : (x : Int) < 265 := by omega
    go_enter Try.func39, Try.ntmps39
    go_wp2
    go_ret
    exact ⟨by rw [HV.out] <;> rfl, rfl⟩
  · have HV : Hid ((moreK x : Int) = ((x : Int) - 265).tdiv 4 + 1) := Lib.hid (by unfold moreK; rw [if_neg h, Int.tdiv_eq_ediv_of_nonneg (by omega)]; omega)
    have g : ¬ (x : Int) < 265 := by omega
    have g1 : IntKind.i64.wrap ((x : Int) - 265) = (x : Int) - 265 := IntWalk.i64_in _ (by omega)
    have g2 : IntKind.i64.wrap (((x : Int) - 265).tdiv 4) = ((x : Int) - 265).tdiv 4 := IntWalk.i64_in _ (by rw [Int.tdiv_eq_ediv_of_nonneg (by omega)]; omega)
    have g3 : IntKind.i64.wrap (((x : Int) - 265).tdiv 4 + 1) = ((x : Int) - 265).tdiv 4 + 1 := IntWalk.i64_in _ (by rw [Int.tdiv_eq_ediv_of_nonneg (by omega)]; omega)
    go_enter Try.func39, Try.ntmps39
    go_wp2
    go_ret
    exact ⟨by rw [HV.out]; first | rfl | simp [Int.tdiv_eq_ediv_of_nonneg (show (0 : Int) ≤ (x : Int) - 265 by omega)], rfl⟩
set_option maxRecDepth 100000 in
set_option maxHeartbeats 4000000 in
theorem rfar_any (x : Nat) (w : World) (hx : x ≤ 100000) : Calls Try.prog 40 #[.int .i64 (x : Int)] w fun e w' => e = .returned (.int .i64 (farK x : Int)) ∧ w' = w := by
  by_cases h : x < 4
  · have HV : Hid (farK x = 0) := Lib.hid (by unfold farK; rw [if_pos h])
    have g : (x : Int) < 4 := by omega
    go_enter Try.func40, Try.ntmps40
    go_wp2
    go_ret
    exact ⟨by rw [HV.out] <;> rfl, rfl⟩
  · have HV : Hid ((farK x : Int) = (x : Int).tdiv 2 - 1) := Lib.hid (by unfold farK; rw [if_neg h, Int.tdiv_eq_ediv_of_nonneg (by omega)]; omega)
    have g : ¬ (x : Int) < 4 := by omega
    have g2 : IntKind.i64.wrap ((x : Int).tdiv 2) = (x : Int).tdiv 2 := IntWalk.i64_in _ (by rw [Int.tdiv_eq_ediv_of_nonneg (by omega)]; omega)
    have g3 : IntKind.i64.wrap ((x : Int).tdiv 2 - 1) = (x : Int).tdiv 2 - 1 := IntWalk.i64_in _ (by rw [Int.tdiv_eq_ediv_of_nonneg (by omega)]; omega)
    go_enter Try.func40, Try.ntmps40
    go_wp2
    go_ret
    exact ⟨by rw [HV.out]; first | rfl | simp [Int.tdiv_eq_ediv_of_nonneg (show (0 : Int) ≤ (x : Int) by omega)], rfl⟩
set_option maxRecDepth 100000 in
set_option maxHeartbeats 8000000 in
theorem rlength_any (x : Int) (w : World) (hx : -9223372036854775808 ≤ x ∧ x ≤ 9223372036854775807) : Calls Try.prog 15 #[.int .i64 x] w (SigP (lenK x) w) := by
  by_cases h1 : x < 257
  · have HV : Hid (lenK x = (0, 0, false)) := Lib.hid (by unfold lenK; rw [if_pos (.inl h1)])
    rw [HV.out]
    go_enter Try.func15, Try.ntmps15
    go_wp2
    refine bodyPost_ret (go_ret3_results rfl _ _ _) rfl ?_
    exact ⟨rfl, rfl⟩
  by_cases h2 : 285 < x
  · have HV : Hid (lenK x = (0, 0, false)) := Lib.hid (by unfold lenK; rw [if_pos (.inr (by omega))])
    rw [HV.out]
    go_enter Try.func15, Try.ntmps15
    go_wp2
    refine bodyPost_ret (go_ret3_results rfl _ _ _) rfl ?_
    exact ⟨rfl, rfl⟩
  by_cases h3 : x = 285
  · subst h3
    go_enter Try.func15, Try.ntmps15
    go_wp2
    refine bodyPost_ret (go_ret3_results rfl _ _ _) rfl ?_
    exact ⟨by first | rfl | kernel_rfl, rfl⟩
  obtain ⟨n, rfl⟩ : ∃ n : Nat, x = ((257 + n : Nat) : Int) := ⟨(x - 257).toNat, by omega⟩
  have hn : n < 28 := by omega
  have HV := Lib.hid (lenK_base n hn)
  rw [HV.out]
  have g5 : (((257 + n : Nat) : Int) == 285) = false := by simp; omega
  clear h1 h2 hx h3
  have gl1 : ¬ ((257 + n : Nat) : Int) < 257 := by omega
  have gl2 : ¬ 285 < ((257 + n : Nat) : Int) := by omega
  obtain ⟨X, hX⟩ : ∃ X : Nat, X = (257 + n) := ⟨_, rfl⟩
  have HX := Lib.hid hX
  rw [← hX] at gl1 gl2 g5 ⊢
  clear hX
  go_enter Try.func15, Try.ntmps15
  go_wp2_with fail
  go_loopw [5, 6] (fun x5 x6 wr => wr = w ∧ ∃ k s b : Nat, k ≤ n ∧ x6 = .int .i64 (s : Int) ∧ x5 = .int .i64 (b : Int) ∧ Hid (s = (257 + k)) ∧ Hid (b = baseL k)) (fun _ x6 _ => X - (intOf x6).toNat)
  case atStart => exact ⟨rfl, 0, 257, 3, Nat.zero_le _, rfl, rfl, Lib.hid rfl, Lib.hid rfl⟩
  case round =>
    obtain ⟨hw, k, s, b, hk, rfl, rfl, hs, hb⟩ := hrel
    replace hw := hw.symm
    subst hw
    by_cases hkn : k < n
    · have hbl := baseL_le k (by omega)
      have hml : moreK (257 + k) ≤ 14 := by omega
      have hss : s < X := by rw [hs.out, HX.out]; omega
      have hsm : s ≤ 1000 := by rw [hs.out]; omega
      have hbm : b ≤ 40000 := by rw [hb.out]; omega
      have c1 : (s : Int) < (X : Int) := by omega
      have HM : Hid (∀ w', Calls Try.prog 39 #[.int .i64 (s : Int)] w' fun e w'' => e = .returned (.int .i64 ((moreK (257 + k) : Nat) : Int)) ∧ w'' = w') := Lib.hid (fun w' => by rw [hs.out]; exact rmore_any _ w' (by omega))
      have HSUC : Hid (baseL (k + 1) = baseL k + 2 ^ (moreK (257 + k))) := Lib.hid rfl
      generalize moreK (257 + k) = mo at *
      clear hss
      go_wp2_with fail
      go_loopw [7, 8] (fun x7 x8 wr => wr = w ∧ ∃ i t : Nat, i ≤ mo ∧ x8 = .int .i64 (i : Int) ∧ x7 = .int .i64 (t : Int) ∧ Hid (t = 2 ^ i)) (fun _ x8 _ => mo - (intOf x8).toNat)
      case atStart => exact ⟨by first | rfl | trivial, 0, 1, Nat.zero_le _, rfl, rfl, Lib.hid rfl⟩
      case round =>
        obtain ⟨hw, i, t, hi, rfl, rfl, ht⟩ := hrel
        replace hw := hw.symm
        subst hw
        have htl : t ≤ 16384 := by rw [ht.out]; exact two_pow_le i (by omega)
        go_wp2_with fail
        refine (HM.out _).mono ?_
        rintro e w2 ⟨rfl, hw2⟩
        replace hw2 := hw2.symm
        subst hw2
        by_cases him : i < mo
        · have c2 : (i : Int) < (mo : Int) := by omega
          have gt : IntKind.i64.wrap ((t : Int) * 2) = ((2 * t : Nat) : Int) := by rw [IntWalk.i64_in _ (by omega)]; omega
          go_wp2_with fail
          go_roundw
          case rel => exact ⟨by first | rfl | trivial, i + 1, 2 * t, by omega, by go_num, rfl, Lib.hid (by rw [ht.out, Nat.pow_succ]; omega)⟩
          case measure => simp [intOf] <;> omega
        · have c2 : ¬ (i : Int) < (mo : Int) := by omega
          have him' : i = mo := by omega
          have HTT : Hid (t = 2 ^ mo) := Lib.hid (by rw [← him']; exact ht.out)
          clear him him'
          have gb : IntKind.i64.wrap ((b : Int) + (t : Int)) = ((b + t : Nat) : Int) := by rw [IntWalk.i64_in _ (by omega)]; omega
          go_wp2_with fail
          go_roundw
          case rel => exact ⟨by first | rfl | trivial, k + 1, s + 1, b + t, by omega, by go_num, rfl, Lib.hid (by have := hs.out; omega), Lib.hid (by rw [HSUC.out, hb.out, HTT.out])⟩
          case measure => simp [intOf] <;> omega
    · have hkk : k = n := by omega
      subst hkk
      have hsX : s = X := by rw [hs.out, HX.out]
      subst hsX
      have c1 : ¬ (s : Int) < (s : Int) := by omega
      have HM : Hid (∀ w', Calls Try.prog 39 #[.int .i64 (s : Int)] w' fun e w'' => e = .returned (.int .i64 ((moreK (257 + k) : Nat) : Int)) ∧ w'' = w') := Lib.hid (fun w' => by rw [hs.out]; exact rmore_any _ w' (by omega))
      have HB := hb
      go_wp2_with fail
      refine (HM.out _).mono ?_
      rintro e w2 ⟨rfl, hw2⟩
      replace hw2 := hw2.symm
      subst hw2
      go_wp2_with fail
      refine bodyPost_ret (go_ret3_results rfl _ _ _) rfl ?_
      have e1 := hs.out
      subst e1
      exact ⟨by rw [← HB.out] <;> rfl, rfl⟩
set_option maxRecDepth 100000 in
set_option maxHeartbeats 8000000 in
theorem rdistance_any (x : Int) (w : World) (hx : -9223372036854775808 ≤ x ∧ x ≤ 9223372036854775807) : Calls Try.prog 17 #[.int .i64 x] w (SigP (disK x) w) := by
  by_cases h1 : x < 0
  · have HV : Hid (disK x = (0, 0, false)) := Lib.hid (by unfold disK; rw [if_pos (.inl h1)])
    rw [HV.out]
    go_enter Try.func17, Try.ntmps17
    go_wp2
    refine bodyPost_ret (go_ret3_results rfl _ _ _) rfl ?_
    exact ⟨rfl, rfl⟩
  by_cases h2 : 29 < x
  · have HV : Hid (disK x = (0, 0, false)) := Lib.hid (by unfold disK; rw [if_pos (.inr (by omega))])
    rw [HV.out]
    go_enter Try.func17, Try.ntmps17
    go_wp2
    refine bodyPost_ret (go_ret3_results rfl _ _ _) rfl ?_
    exact ⟨rfl, rfl⟩
  obtain ⟨n, rfl⟩ : ∃ n : Nat, x = ((n : Nat) : Int) := ⟨(x - 0).toNat, by omega⟩
  have hn : n < 30 := by omega
  have HV := Lib.hid (disK_base n hn)
  rw [HV.out]
  clear h1 h2 hx
  have gl1 : ¬ ((n : Nat) : Int) < 0 := by omega
  have gl2 : ¬ 29 < ((n : Nat) : Int) := by omega
  obtain ⟨X, hX⟩ : ∃ X : Nat, X = n := ⟨_, rfl⟩
  have HX := Lib.hid hX
  rw [← hX] at gl1 gl2 ⊢
  clear hX
  go_enter Try.func17, Try.ntmps17
  go_wp2_with fail
  go_loopw [5, 6] (fun x5 x6 wr => wr = w ∧ ∃ k s b : Nat, k ≤ n ∧ x6 = .int .i64 (s : Int) ∧ x5 = .int .i64 (b : Int) ∧ Hid (s = k) ∧ Hid (b = baseD k)) (fun _ x6 _ => X - (intOf x6).toNat)
  case atStart => exact ⟨rfl, 0, 0, 1, Nat.zero_le _, rfl, rfl, Lib.hid rfl, Lib.hid rfl⟩
  case round =>
    obtain ⟨hw, k, s, b, hk, rfl, rfl, hs, hb⟩ := hrel
    replace hw := hw.symm
    subst hw
    by_cases hkn : k < n
    · have hbl := baseD_le k (by omega)
      have hml : farK k ≤ 14 := by omega
      have hss : s < X := by rw [hs.out, HX.out]; omega
      have hsm : s ≤ 1000 := by rw [hs.out]; omega
      have hbm : b ≤ 40000 := by rw [hb.out]; omega
      have c1 : (s : Int) < (X : Int) := by omega
      have HM : Hid (∀ w', Calls Try.prog 40 #[.int .i64 (s : Int)] w' fun e w'' => e = .returned (.int .i64 ((farK k : Nat) : Int)) ∧ w'' = w') := Lib.hid (fun w' => by rw [hs.out]; exact rfar_any _ w' (by omega))
      have HSUC : Hid (baseD (k + 1) = baseD k + 2 ^ (farK k)) := Lib.hid rfl
      generalize farK k = mo at *
      clear hss
      go_wp2_with fail
      go_loopw [7, 8] (fun x7 x8 wr => wr = w ∧ ∃ i t : Nat, i ≤ mo ∧ x8 = .int .i64 (i : Int) ∧ x7 = .int .i64 (t : Int) ∧ Hid (t = 2 ^ i)) (fun _ x8 _ => mo - (intOf x8).toNat)
      case atStart => exact ⟨by first | rfl | trivial, 0, 1, Nat.zero_le _, rfl, rfl, Lib.hid rfl⟩
      case round =>
        obtain ⟨hw, i, t, hi, rfl, rfl, ht⟩ := hrel
        replace hw := hw.symm
        subst hw
        have htl : t ≤ 16384 := by rw [ht.out]; exact two_pow_le i (by omega)
        go_wp2_with fail
        refine (HM.out _).mono ?_
        rintro e w2 ⟨rfl, hw2⟩
        replace hw2 := hw2.symm
        subst hw2
        by_cases him : i < mo
        · have c2 : (i : Int) < (mo : Int) := by omega
          have gt : IntKind.i64.wrap ((t : Int) * 2) = ((2 * t : Nat) : Int) := by rw [IntWalk.i64_in _ (by omega)]; omega
          go_wp2_with fail
          go_roundw
          case rel => exact ⟨by first | rfl | trivial, i + 1, 2 * t, by omega, by go_num, rfl, Lib.hid (by rw [ht.out, Nat.pow_succ]; omega)⟩
          case measure => simp [intOf] <;> omega
        · have c2 : ¬ (i : Int) < (mo : Int) := by omega
          have him' : i = mo := by omega
          have HTT : Hid (t = 2 ^ mo) := Lib.hid (by rw [← him']; exact ht.out)
          clear him him'
          have gb : IntKind.i64.wrap ((b : Int) + (t : Int)) = ((b + t : Nat) : Int) := by rw [IntWalk.i64_in _ (by omega)]; omega
          go_wp2_with fail
          go_roundw
          case rel => exact ⟨by first | rfl | trivial, k + 1, s + 1, b + t, by omega, by go_num, rfl, Lib.hid (by have := hs.out; omega), Lib.hid (by rw [HSUC.out, hb.out, HTT.out])⟩
          case measure => simp [intOf] <;> omega
    · have hkk : k = n := by omega
      subst hkk
      have hsX : s = X := by rw [hs.out, HX.out]
      subst hsX
      have c1 : ¬ (s : Int) < (s : Int) := by omega
      have HM : Hid (∀ w', Calls Try.prog 40 #[.int .i64 (s : Int)] w' fun e w'' => e = .returned (.int .i64 ((farK k : Nat) : Int)) ∧ w'' = w') := Lib.hid (fun w' => by rw [hs.out]; exact rfar_any _ w' (by omega))
      have HB := hb
      go_wp2_with fail
      refine (HM.out _).mono ?_
      rintro e w2 ⟨rfl, hw2⟩
      replace hw2 := hw2.symm
      subst hw2
      go_wp2_with fail
      refine bodyPost_ret (go_ret3_results rfl _ _ _) rfl ?_
      have e1 := hs.out
      subst e1
      exact ⟨by rw [← HB.out] <;> rfl, rfl⟩
end Go.Proofs.Ytgcdeadfkljeaaa
