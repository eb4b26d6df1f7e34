/- What is put is read: the cursor's numbers, there and back; a nil cursor. -/
import Derived.Test.YtnfdbljeinlblaaCurFix
namespace Go.Proofs.Ytnfdbljeinlblaa
open Go.ChangeShapes Go.WideShapes Go.ChangeAt Go.RowKit
set_option linter.unusedVariables false
set_option linter.unusedSimpArgs false

theorem or64_add (a b k : Nat) (ha : a * 2 ^ k < 18446744073709551616) (hb : b < 2 ^ k) (hb2 : b < 18446744073709551616) : bits .or .u64 ((a * 2 ^ k : Nat) : Int) (b : Int) = ((a * 2 ^ k + b : Nat) : Int) := by
  rw [u64_or_nat _ _ ha hb2, Nat.mul_comm, Nat.two_pow_add_eq_or_of_lt hb a]
theorem or64_add' (a b k : Nat) (ha : a * 2 ^ k < 18446744073709551616) (hb : b < 2 ^ k) (hb2 : b < 18446744073709551616) : bits .or .u64 (b : Int) ((a * 2 ^ k : Nat) : Int) = ((a * 2 ^ k + b : Nat) : Int) := by
  rw [u64_or_nat _ _ hb2 ha, Nat.or_comm, Nat.mul_comm, Nat.two_pow_add_eq_or_of_lt hb a]

theorem bigI_nat (a : Nat) (x : UInt8) (ha : a < 2 ^ 56) : bigI (a : Int) x = ((a * 256 + x.toNat : Nat) : Int) := by
  have hx := x.toNat_lt
  have := or64_add a x.toNat 8 (by omega) (by omega) (by omega)
  rw [← this, bigI]
  congr 1
  omega
theorem bigR_little (v : Nat) : ∀ (n a : Nat), n ≤ 8 → a < 256 ^ (8 - n) → (littleL v n).reverse.foldl bigI (a : Int) = ((a * 256 ^ n + v % 256 ^ n : Nat) : Int) := by
  intro n
  induction n with
  | zero => intro a _ _; simp [littleL, Nat.mod_one]
  | succ n ih =>
    intro a hn ha
    rw [littleL_succ, List.reverse_append, List.reverse_singleton, List.singleton_append, List.foldl_cons]
    have h1 : 256 ^ (8 - (n + 1)) ≤ 256 ^ 7 := Nat.pow_le_pow_right (by omega) (by omega)
    rw [bigI_nat a _ (by omega), byte_toNat, ih _ (by omega) ?_]
    · congr 1
      rw [Nat.pow_succ, Nat.mod_mul, Nat.add_mul, Nat.mul_assoc, Nat.mul_comm 256 (256 ^ n), Nat.mul_comm (v / 256 ^ n % 256)]
      omega
    · have h2 : 256 ^ (8 - n) = 256 ^ (8 - (n + 1)) * 256 := by rw [← Nat.pow_succ]; congr 1; omega
      omega
theorem bigR_putB (v n : Nat) (h : sizedB (n : Int) = true) : bigR (putB v (n : Int)) = ((v % 256 ^ n : Nat) : Int) := by
  have hn : n ≤ 8 := by have := sizedB_cases _ h; omega
  have := bigR_little v n 0 hn (Nat.pow_pos (by omega))
  unfold bigR putB
  rw [if_pos h, Int.toNat_natCast]
  simpa using this
theorem litI_nat (a : Nat) (x : UInt8) (j : Nat) (hj : j < 8) (ha : a < 256 ^ j) : litI (a : Int) x j = ((x.toNat * 256 ^ j + a : Nat) : Int) := by
  have hx := x.toNat_lt
  have e : (256 : Nat) ^ j = 2 ^ (8 * j) := by rw [Nat.pow_mul]
  have h1 : 256 ^ j * 256 ≤ 256 ^ 8 := by rw [← Nat.pow_succ]; exact Nat.pow_le_pow_right (by omega) (by omega)
  have h2 : x.toNat * 256 ^ j < 18446744073709551616 := by
    have : x.toNat * 256 ^ j < 256 * 256 ^ j := Nat.mul_lt_mul_of_pos_right hx (Nat.pow_pos (by omega))
    omega
  rw [e] at ha h2 ⊢
  rw [e] at h1
  have := or64_add' x.toNat a (8 * j) h2 ha (by omega)
  rw [← this, litI]
  congr 1
  have e5 : (x.toNat : Int) * 2 ^ (8 * j) = ((x.toNat * 2 ^ (8 * j) : Nat) : Int) := by push_cast; rfl
  rw [e5, Int.emod_eq_of_lt (Int.natCast_nonneg _) (by generalize x.toNat * 2 ^ (8 * j) = y at h2 ⊢; omega)]
theorem litR_little (v n : Nat) (hn : n ≤ 8) : ∀ j, j ≤ n → litR (littleL v n) j = ((v % 256 ^ j : Nat) : Int) := by
  intro j
  induction j with
  | zero => intro _; simp [litR, Nat.mod_one]
  | succ j ih =>
    intro hj
    have hg : (littleL v n).getD j 0 = UInt8.ofNat (v / 256 ^ j % 256) := by simp [littleL, List.getD, show j < n by omega]
    rw [litR, ih (by omega), hg, litI_nat _ _ _ (by omega) (Nat.mod_lt _ (Nat.pow_pos (by omega))), byte_toNat]
    congr 1
    rw [Nat.pow_succ, Nat.mod_mul, Nat.mul_comm (v / 256 ^ j % 256)]
    omega
theorem litR_putL (v n : Nat) (h : sizedB (n : Int) = true) : litR (putL v (n : Int)) (putL v (n : Int)).length = ((v % 256 ^ n : Nat) : Int) := by
  have hn : n ≤ 8 := by have := sizedB_cases _ h; omega
  unfold putL
  rw [if_pos h, Int.toNat_natCast, littleL_length]
  exact litR_little v n hn n (Nat.le_refl _)

theorem back_facts (k : Nat) (hk : sizedB (k : Int) = true) (v u : Nat) :
    nextL ([] ++ putB v k ++ putL u k) 0 0 k (sizedB k) = putB v k ∧ nextAt ([] ++ putB v k ++ putL u k).length 0 0 k (sizedB k) = k ∧ nextEr ([] ++ putB v k ++ putL u k).length 0 0 k (sizedB k) = 0 ∧
    nextL ([] ++ putB v k ++ putL u k) k 0 k (sizedB k) = putL u k ∧ nextAt ([] ++ putB v k ++ putL u k).length k 0 k (sizedB k) = 2 * k ∧ nextEr ([] ++ putB v k ++ putL u k).length k 0 k (sizedB k) = 0 ∧ endEr ([] ++ putB v k ++ putL u k).length (2 * k) 0 = 0 := by
  have l1 : (putB v (k : Int)).length = k := by unfold putB; rw [if_pos hk]; simp [littleL_length]
  have l2 : (putL u (k : Int)).length = k := by unfold putL; rw [if_pos hk]; simp [littleL_length]
  have l3 : ([] ++ putB v (k : Int) ++ putL u (k : Int)).length = 2 * k := by simp [l1, l2]; omega
  have o1 : nextOk (2 * k) 0 0 (k : Int) (sizedB k) = true := by unfold nextOk; exact decide_eq_true ⟨rfl, by omega, hk, by omega⟩
  have o2 : nextOk (2 * k) k 0 (k : Int) (sizedB k) = true := by unfold nextOk; exact decide_eq_true ⟨rfl, by omega, hk, by omega⟩
  have e1 : nextEr (2 * k) 0 0 (k : Int) (sizedB k) = 0 := by
    unfold nextEr; rw [if_neg (by simp), if_neg (by rw [hk]; simp), if_neg (by omega)]
  have e2 : nextEr (2 * k) k 0 (k : Int) (sizedB k) = 0 := by
    unfold nextEr; rw [if_neg (by simp), if_neg (by rw [hk]; simp), if_neg (by omega)]
  refine ⟨?_, ?_, ?_, ?_, ?_, ?_, ?_⟩
  · unfold nextL; rw [l3, o1, if_pos rfl, Int.toNat_natCast]
    rw [List.nil_append, List.drop_zero, List.take_append_of_le_length (by omega), List.take_of_length_le (by omega)]
  · unfold nextAt; rw [l3, o1, if_pos rfl]; simp
  · rw [l3, e1]
  · unfold nextL; rw [l3, o2, if_pos rfl, Int.toNat_natCast]
    rw [List.nil_append, List.drop_append_of_le_length (by omega), List.drop_of_length_le (by omega), List.nil_append, List.take_of_length_le (by omega)]
  · unfold nextAt; rw [l3, o2, if_pos rfl]; simp; omega
  · rw [l3, e2]
  · rw [l3]; unfold endEr; rw [if_neg (by omega)]

theorem cErr_nil (w : World) : Calls Try.prog 56 #[.pointer none] w fun e w' => e = .returned (.int .i64 1) ∧ w' = w := by
  go_enter Try.func56, Try.ntmps56
  go_wp2
  go_ret
  exact ⟨rfl, rfl⟩
theorem cFail_nil (x : Int) (w : World) : Calls Try.prog 53 #[.pointer none, .int .i64 x] w fun e w' => e = .returned (.tuple #[]) ∧ w' = w := by
  go_enter Try.func53, Try.ntmps53
  go_wp2
  go_end0
  exact ⟨rfl, rfl⟩
theorem cLeft_nil (w : World) : Calls Try.prog 55 #[.pointer none] w fun e w' => e = .returned (.int .i64 0) ∧ w' = w := by
  go_enter Try.func55, Try.ntmps55
  go_wp2
  go_ret
  exact ⟨rfl, rfl⟩
theorem cAt_nil (w : World) : Calls Try.prog 54 #[.pointer none] w fun e w' => e = .returned (.int .i64 0) ∧ w' = w := by
  go_enter Try.func54, Try.ntmps54
  go_wp2
  go_ret
  exact ⟨rfl, rfl⟩
theorem cNext_nil (m : Int) (sz : Bool) (w : World) : Calls Try.prog 74 #[.pointer none, .int .i64 m, .bool sz] w fun e w' => e = .returned (.slice none 0 0) ∧ w' = w := by
  go_enter Try.func74, Try.ntmps74
  go_wp2_with fail
  refine (cErr_nil w).mono ?_
  rintro e w' ⟨rfl, rfl⟩
  go_wp2
  go_ret
  exact ⟨rfl, rfl⟩
theorem cBigGet_nil (w : World) : Calls Try.prog 45 #[.pointer none, .int .i64 1] w fun e w' => e = .returned (.int .u64 0) ∧ w' = w := by
  go_enter Try.func45, Try.ntmps45
  go_wp2_with fail
  refine (sized_any 1 w (by decide) (by decide)).mono ?_
  rintro e w' ⟨rfl, rfl⟩
  go_wp2_with fail
  refine (cNext_nil 1 (sizedB 1) w).mono ?_
  rintro e w' ⟨rfl, rfl⟩
  go_wp2
  go_loop [5, 14] (fun v i => i = .int .i64 0 ∧ v = .int .u64 0) (fun _ i => 0)
  case atStart => exact ⟨rfl, rfl⟩
  case round =>
    obtain ⟨rfl, rfl⟩ := hrel
    go_wp2
    go_ret
    exact ⟨rfl, rfl⟩
theorem cLitGet_nil (w : World) : Calls Try.prog 47 #[.pointer none, .int .i64 1] w fun e w' => e = .returned (.int .u64 0) ∧ w' = w := by
  go_enter Try.func47, Try.ntmps47
  go_wp2_with fail
  refine (sized_any 1 w (by decide) (by decide)).mono ?_
  rintro e w' ⟨rfl, rfl⟩
  go_wp2_with fail
  refine (cNext_nil 1 (sizedB 1) w).mono ?_
  rintro e w' ⟨rfl, rfl⟩
  go_wp2
  go_loop [5, 14] (fun v i => i = .int .i64 0 ∧ v = .int .u64 0) (fun _ i => 0)
  case atStart => exact ⟨rfl, rfl⟩
  case round =>
    obtain ⟨rfl, rfl⟩ := hrel
    go_wp2
    go_ret
    exact ⟨rfl, rfl⟩
theorem cTake_nil (w : World) : Calls Try.prog 49 #[.pointer none, .int .i64 1] w fun e w' => ∃ a c, e = .returned (.slice a 0 c) ∧ Below w.heap.size w w' := by
  go_enter Try.func49, Try.ntmps49
  go_wp2_with fail
  refine (cNext_nil 1 true w).mono ?_
  rintro e w' ⟨rfl, rfl⟩
  go_wp2_with fail
  refine (clone_any none 0 0 [] w' rfl (by decide) Rd.nil).mono ?_
  rintro e w2 ⟨a2, c2, rfl, hown2, hB2⟩
  go_wp2
  go_ret
  exact ⟨_, _, rfl, hB2⟩
theorem cEnd_nil (w : World) : Calls Try.prog 51 #[.pointer none] w fun e w' => e = .returned (.int .i64 1) ∧ w' = w := by
  go_enter Try.func51, Try.ntmps51
  go_wp2_with fail
  refine (cLeft_nil w).mono ?_
  rintro e w' ⟨rfl, rfl⟩
  go_wp2_with fail
  refine (cErr_nil w').mono ?_
  rintro e w' ⟨rfl, rfl⟩
  go_wp2
  go_ret
  exact ⟨rfl, rfl⟩

theorem putB_len (v : Nat) (m : Int) (h : sizedB m = true) : (putB v m).length = m.toNat := by unfold putB; rw [if_pos h]; simp [littleL_length]
theorem putL_len (v : Nat) (m : Int) (h : sizedB m = true) : (putL v m).length = m.toNat := by unfold putL; rw [if_pos h]; simp [littleL_length]
/-! Walks. -/
set_option maxHeartbeats 4000000 in
set_option maxRecDepth 100000 in
theorem walkBack_1 (v u : Nat) (w : World) (hv : v < 18446744073709551616) (hu : u < 18446744073709551616) :
    Calls Try.prog 14 #[.int .u64 (v : Int), .int .u64 (u : Int), .int .i64 1] w fun e w' => e = .returned (.bool true) ∧ Below w.heap.size w w' := by
  go_enter Try.func14, Try.ntmps14
  go_wp2_with fail
  refine (fixed02_any _).mono ?_
  rintro e w1 ⟨rfl, hb1⟩
  have HB := Lib.hid hb1
  clear hb1
  go_wp2_with fail
  refine (cFail_nil 2 w1).mono ?_
  rintro e w' ⟨rfl, rfl⟩
  go_wp2_with fail
  refine (cErr_nil _).mono ?_
  rintro e w1 ⟨rfl, rfl⟩
  go_wp2_with fail
  refine (cEnd_nil _).mono ?_
  rintro e w' ⟨rfl, rfl⟩
  go_wp2_with fail
  refine (cBigGet_nil _).mono ?_
  rintro e w1 ⟨rfl, rfl⟩
  go_wp2_with fail
  refine (cLitGet_nil _).mono ?_
  rintro e w' ⟨rfl, rfl⟩
  go_wp2_with fail
  refine (cTake_nil _).mono ?_
  rintro e w2 ⟨a2, c2, rfl, hb2⟩
  have hb := below_trans0 HB.out HB.out.size hb2
  clear HB hb2
  have HB := Lib.hid hb
  clear hb
  go_wp2_with fail
  refine (cLeft_nil _).mono ?_
  rintro e w' ⟨rfl, rfl⟩
  go_wp2_with fail
  refine (cAt_nil _).mono ?_
  rintro e w2 ⟨rfl, rfl⟩
  go_wp2_with fail
  refine (cBig_any none 0 0 [] v 1 w2 rfl (by decide) hv (by decide) (by decide) Rd.nil).mono ?_
  rintro e w3 ⟨a3, n3, c3, rfl, hbuf3, hB3⟩
  have hb := below_trans0 HB.out HB.out.size hB3
  have hn3 : n3 = 1 := by rw [← hbuf3.len]; exact (List.length_append).trans ((Nat.zero_add _).trans (putB_len v 1 rfl))
  subst hn3
  clear HB hB3
  have HB := Lib.hid hb
  have HBUF := Lib.hid hbuf3
  clear hb hbuf3
  go_wp2_with fail
  refine (cLittle_any a3 1 c3 _ u 1 w3 HBUF.out.len (by decide) hu (by decide) (by decide) HBUF.out.rd).mono ?_
  rintro e w4 ⟨a4, n4, c4, rfl, hbuf4, hB4⟩
  have hb := below_trans0 HB.out HB.out.size hB4
  have hn4 : n4 = 2 * 1 := by
    rw [← hbuf4.len, List.length_append, HBUF.out.len]
    exact (congrArg (1 + ·) (putL_len u 1 rfl))
  subst hn4
  clear HB HBUF hB4
  have HB := Lib.hid hb
  have HBUF := Lib.hid hbuf4
  clear hb hbuf4
  go_wp2_with fail
  refine (cNew_any a4 _ c4 _ w4 HBUF.out.len (by decide) HBUF.out.rd).mono ?_
  rintro e w5 ⟨g, rfl, hg, hc5, hB5⟩
  have hb := below_trans0 HB.out HB.out.size hB5
  have hgw := Nat.le_trans HB.out.size hg
  clear HB HBUF hB5 hg
  have HB := Lib.hid hb
  clear hb
  have f0 : nextL ([] ++ putB v 1 ++ putL u 1) 0 0 1 (sizedB 1) = putB v 1 ∧ nextAt ([] ++ putB v 1 ++ putL u 1).length 0 0 1 (sizedB 1) = 1 ∧ nextEr ([] ++ putB v 1 ++ putL u 1).length 0 0 1 (sizedB 1) = 0 ∧ nextL ([] ++ putB v 1 ++ putL u 1) 1 0 1 (sizedB 1) = putL u 1 ∧ nextAt ([] ++ putB v 1 ++ putL u 1).length 1 0 1 (sizedB 1) = 2 * 1 ∧ nextEr ([] ++ putB v 1 ++ putL u 1).length 1 0 1 (sizedB 1) = 0 ∧ endEr ([] ++ putB v 1 ++ putL u 1).length (2 * 1) 0 = 0 := back_facts 1 rfl v u
  have hx1 : bigR (putB v 1) = IntKind.u64.wrap ((v : Int) * 72057594037927936) / 72057594037927936 := (bigR_putB v 1 rfl).trans (by rw [IntKind.wrap_u64]; omega)
  have hx2 : litR (putL u 1) (putL u 1).length = IntKind.u64.wrap ((u : Int) * 72057594037927936) / 72057594037927936 := (litR_putL u 1 rfl).trans (by rw [IntKind.wrap_u64]; omega)
  obtain ⟨f1, f2, f3, f4, f5, f6, f7⟩ := f0
  have F1 := Lib.hid f1
  have F2 := Lib.hid f2
  have F3 := Lib.hid f3
  have F4 := Lib.hid f4
  have F5 := Lib.hid f5
  have F6 := Lib.hid f6
  have F7 := Lib.hid f7
  have X1 := Lib.hid hx1
  have X2 := Lib.hid hx2
  clear f1 f2 f3 f4 f5 f6 f7 hx1 hx2
  go_wp2_with fail
  refine (cBigGet_any g _ 0 0 1 w5 hc5 (by decide) (by decide)).mono ?_
  rintro e w6 ⟨rfl, hc6, hg6⟩
  have hb := below_of_grown HB.out HB.out.size hg6 hgw
  rw [F1.out, X1.out]
  rw [F2.out, F3.out] at hc6
  clear HB hc5 hg6
  have HB := Lib.hid hb
  clear hb
  go_wp2_with fail
  refine (cLitGet_any g _ 1 0 1 w6 hc6 (by decide) (by decide)).mono ?_
  rintro e w7 ⟨rfl, hc7, hg7⟩
  have hb := below_of_grown HB.out HB.out.size hg7 hgw
  rw [F4.out, X2.out]
  rw [F5.out, F6.out] at hc7
  clear HB hc6 hg7
  have HB := Lib.hid hb
  clear hb
  go_wp2_with fail
  refine (cEnd_any g _ (2 * 1) 0 w7 hc7).mono ?_
  rintro e w8 ⟨rfl, hc8, hg8⟩
  have hb := below_of_grown HB.out HB.out.size hg8 hgw
  rw [F7.out]
  clear HB hc7 hc8 hg8
  have HB := Lib.hid hb
  clear hb
  go_wp2
  go_ret
  exact ⟨rfl, HB.out⟩
set_option maxHeartbeats 4000000 in
set_option maxRecDepth 100000 in
theorem walkBack_2 (v u : Nat) (w : World) (hv : v < 18446744073709551616) (hu : u < 18446744073709551616) :
    Calls Try.prog 14 #[.int .u64 (v : Int), .int .u64 (u : Int), .int .i64 2] w fun e w' => e = .returned (.bool true) ∧ Below w.heap.size w w' := by
  go_enter Try.func14, Try.ntmps14
  go_wp2_with fail
  refine (fixed02_any _).mono ?_
  rintro e w1 ⟨rfl, hb1⟩
  have HB := Lib.hid hb1
  clear hb1
  go_wp2_with fail
  refine (cFail_nil 2 w1).mono ?_
  rintro e w' ⟨rfl, rfl⟩
  go_wp2_with fail
  refine (cErr_nil _).mono ?_
  rintro e w1 ⟨rfl, rfl⟩
  go_wp2_with fail
  refine (cEnd_nil _).mono ?_
  rintro e w' ⟨rfl, rfl⟩
  go_wp2_with fail
  refine (cBigGet_nil _).mono ?_
  rintro e w1 ⟨rfl, rfl⟩
  go_wp2_with fail
  refine (cLitGet_nil _).mono ?_
  rintro e w' ⟨rfl, rfl⟩
  go_wp2_with fail
  refine (cTake_nil _).mono ?_
  rintro e w2 ⟨a2, c2, rfl, hb2⟩
  have hb := below_trans0 HB.out HB.out.size hb2
  clear HB hb2
  have HB := Lib.hid hb
  clear hb
  go_wp2_with fail
  refine (cLeft_nil _).mono ?_
  rintro e w' ⟨rfl, rfl⟩
  go_wp2_with fail
  refine (cAt_nil _).mono ?_
  rintro e w2 ⟨rfl, rfl⟩
  go_wp2_with fail
  refine (cBig_any none 0 0 [] v 2 w2 rfl (by decide) hv (by decide) (by decide) Rd.nil).mono ?_
  rintro e w3 ⟨a3, n3, c3, rfl, hbuf3, hB3⟩
  have hb := below_trans0 HB.out HB.out.size hB3
  have hn3 : n3 = 2 := by rw [← hbuf3.len]; exact (List.length_append).trans ((Nat.zero_add _).trans (putB_len v 2 rfl))
  subst hn3
  clear HB hB3
  have HB := Lib.hid hb
  have HBUF := Lib.hid hbuf3
  clear hb hbuf3
  go_wp2_with fail
  refine (cLittle_any a3 2 c3 _ u 2 w3 HBUF.out.len (by decide) hu (by decide) (by decide) HBUF.out.rd).mono ?_
  rintro e w4 ⟨a4, n4, c4, rfl, hbuf4, hB4⟩
  have hb := below_trans0 HB.out HB.out.size hB4
  have hn4 : n4 = 2 * 2 := by
    rw [← hbuf4.len, List.length_append, HBUF.out.len]
    exact (congrArg (2 + ·) (putL_len u 2 rfl))
  subst hn4
  clear HB HBUF hB4
  have HB := Lib.hid hb
  have HBUF := Lib.hid hbuf4
  clear hb hbuf4
  go_wp2_with fail
  refine (cNew_any a4 _ c4 _ w4 HBUF.out.len (by decide) HBUF.out.rd).mono ?_
  rintro e w5 ⟨g, rfl, hg, hc5, hB5⟩
  have hb := below_trans0 HB.out HB.out.size hB5
  have hgw := Nat.le_trans HB.out.size hg
  clear HB HBUF hB5 hg
  have HB := Lib.hid hb
  clear hb
  have f0 : nextL ([] ++ putB v 2 ++ putL u 2) 0 0 2 (sizedB 2) = putB v 2 ∧ nextAt ([] ++ putB v 2 ++ putL u 2).length 0 0 2 (sizedB 2) = 2 ∧ nextEr ([] ++ putB v 2 ++ putL u 2).length 0 0 2 (sizedB 2) = 0 ∧ nextL ([] ++ putB v 2 ++ putL u 2) 2 0 2 (sizedB 2) = putL u 2 ∧ nextAt ([] ++ putB v 2 ++ putL u 2).length 2 0 2 (sizedB 2) = 2 * 2 ∧ nextEr ([] ++ putB v 2 ++ putL u 2).length 2 0 2 (sizedB 2) = 0 ∧ endEr ([] ++ putB v 2 ++ putL u 2).length (2 * 2) 0 = 0 := back_facts 2 rfl v u
  have hx1 : bigR (putB v 2) = IntKind.u64.wrap ((v : Int) * 281474976710656) / 281474976710656 := (bigR_putB v 2 rfl).trans (by rw [IntKind.wrap_u64]; omega)
  have hx2 : litR (putL u 2) (putL u 2).length = IntKind.u64.wrap ((u : Int) * 281474976710656) / 281474976710656 := (litR_putL u 2 rfl).trans (by rw [IntKind.wrap_u64]; omega)
  obtain ⟨f1, f2, f3, f4, f5, f6, f7⟩ := f0
  have F1 := Lib.hid f1
  have F2 := Lib.hid f2
  have F3 := Lib.hid f3
  have F4 := Lib.hid f4
  have F5 := Lib.hid f5
  have F6 := Lib.hid f6
  have F7 := Lib.hid f7
  have X1 := Lib.hid hx1
  have X2 := Lib.hid hx2
  clear f1 f2 f3 f4 f5 f6 f7 hx1 hx2
  go_wp2_with fail
  refine (cBigGet_any g _ 0 0 2 w5 hc5 (by decide) (by decide)).mono ?_
  rintro e w6 ⟨rfl, hc6, hg6⟩
  have hb := below_of_grown HB.out HB.out.size hg6 hgw
  rw [F1.out, X1.out]
  rw [F2.out, F3.out] at hc6
  clear HB hc5 hg6
  have HB := Lib.hid hb
  clear hb
  go_wp2_with fail
  refine (cLitGet_any g _ 2 0 2 w6 hc6 (by decide) (by decide)).mono ?_
  rintro e w7 ⟨rfl, hc7, hg7⟩
  have hb := below_of_grown HB.out HB.out.size hg7 hgw
  rw [F4.out, X2.out]
  rw [F5.out, F6.out] at hc7
  clear HB hc6 hg7
  have HB := Lib.hid hb
  clear hb
  go_wp2_with fail
  refine (cEnd_any g _ (2 * 2) 0 w7 hc7).mono ?_
  rintro e w8 ⟨rfl, hc8, hg8⟩
  have hb := below_of_grown HB.out HB.out.size hg8 hgw
  rw [F7.out]
  clear HB hc7 hc8 hg8
  have HB := Lib.hid hb
  clear hb
  go_wp2
  go_ret
  exact ⟨rfl, HB.out⟩
set_option maxHeartbeats 4000000 in
set_option maxRecDepth 100000 in
theorem walkBack_4 (v u : Nat) (w : World) (hv : v < 18446744073709551616) (hu : u < 18446744073709551616) :
    Calls Try.prog 14 #[.int .u64 (v : Int), .int .u64 (u : Int), .int .i64 4] w fun e w' => e = .returned (.bool true) ∧ Below w.heap.size w w' := by
  go_enter Try.func14, Try.ntmps14
  go_wp2_with fail
  refine (fixed02_any _).mono ?_
  rintro e w1 ⟨rfl, hb1⟩
  have HB := Lib.hid hb1
  clear hb1
  go_wp2_with fail
  refine (cFail_nil 2 w1).mono ?_
  rintro e w' ⟨rfl, rfl⟩
  go_wp2_with fail
  refine (cErr_nil _).mono ?_
  rintro e w1 ⟨rfl, rfl⟩
  go_wp2_with fail
  refine (cEnd_nil _).mono ?_
  rintro e w' ⟨rfl, rfl⟩
  go_wp2_with fail
  refine (cBigGet_nil _).mono ?_
  rintro e w1 ⟨rfl, rfl⟩
  go_wp2_with fail
  refine (cLitGet_nil _).mono ?_
  rintro e w' ⟨rfl, rfl⟩
  go_wp2_with fail
  refine (cTake_nil _).mono ?_
  rintro e w2 ⟨a2, c2, rfl, hb2⟩
  have hb := below_trans0 HB.out HB.out.size hb2
  clear HB hb2
  have HB := Lib.hid hb
  clear hb
  go_wp2_with fail
  refine (cLeft_nil _).mono ?_
  rintro e w' ⟨rfl, rfl⟩
  go_wp2_with fail
  refine (cAt_nil _).mono ?_
  rintro e w2 ⟨rfl, rfl⟩
  go_wp2_with fail
  refine (cBig_any none 0 0 [] v 4 w2 rfl (by decide) hv (by decide) (by decide) Rd.nil).mono ?_
  rintro e w3 ⟨a3, n3, c3, rfl, hbuf3, hB3⟩
  have hb := below_trans0 HB.out HB.out.size hB3
  have hn3 : n3 = 4 := by rw [← hbuf3.len]; exact (List.length_append).trans ((Nat.zero_add _).trans (putB_len v 4 rfl))
  subst hn3
  clear HB hB3
  have HB := Lib.hid hb
  have HBUF := Lib.hid hbuf3
  clear hb hbuf3
  go_wp2_with fail
  refine (cLittle_any a3 4 c3 _ u 4 w3 HBUF.out.len (by decide) hu (by decide) (by decide) HBUF.out.rd).mono ?_
  rintro e w4 ⟨a4, n4, c4, rfl, hbuf4, hB4⟩
  have hb := below_trans0 HB.out HB.out.size hB4
  have hn4 : n4 = 2 * 4 := by
    rw [← hbuf4.len, List.length_append, HBUF.out.len]
    exact (congrArg (4 + ·) (putL_len u 4 rfl))
  subst hn4
  clear HB HBUF hB4
  have HB := Lib.hid hb
  have HBUF := Lib.hid hbuf4
  clear hb hbuf4
  go_wp2_with fail
  refine (cNew_any a4 _ c4 _ w4 HBUF.out.len (by decide) HBUF.out.rd).mono ?_
  rintro e w5 ⟨g, rfl, hg, hc5, hB5⟩
  have hb := below_trans0 HB.out HB.out.size hB5
  have hgw := Nat.le_trans HB.out.size hg
  clear HB HBUF hB5 hg
  have HB := Lib.hid hb
  clear hb
  have f0 : nextL ([] ++ putB v 4 ++ putL u 4) 0 0 4 (sizedB 4) = putB v 4 ∧ nextAt ([] ++ putB v 4 ++ putL u 4).length 0 0 4 (sizedB 4) = 4 ∧ nextEr ([] ++ putB v 4 ++ putL u 4).length 0 0 4 (sizedB 4) = 0 ∧ nextL ([] ++ putB v 4 ++ putL u 4) 4 0 4 (sizedB 4) = putL u 4 ∧ nextAt ([] ++ putB v 4 ++ putL u 4).length 4 0 4 (sizedB 4) = 2 * 4 ∧ nextEr ([] ++ putB v 4 ++ putL u 4).length 4 0 4 (sizedB 4) = 0 ∧ endEr ([] ++ putB v 4 ++ putL u 4).length (2 * 4) 0 = 0 := back_facts 4 rfl v u
  have hx1 : bigR (putB v 4) = IntKind.u64.wrap ((v : Int) * 4294967296) / 4294967296 := (bigR_putB v 4 rfl).trans (by rw [IntKind.wrap_u64]; omega)
  have hx2 : litR (putL u 4) (putL u 4).length = IntKind.u64.wrap ((u : Int) * 4294967296) / 4294967296 := (litR_putL u 4 rfl).trans (by rw [IntKind.wrap_u64]; omega)
  obtain ⟨f1, f2, f3, f4, f5, f6, f7⟩ := f0
  have F1 := Lib.hid f1
  have F2 := Lib.hid f2
  have F3 := Lib.hid f3
  have F4 := Lib.hid f4
  have F5 := Lib.hid f5
  have F6 := Lib.hid f6
  have F7 := Lib.hid f7
  have X1 := Lib.hid hx1
  have X2 := Lib.hid hx2
  clear f1 f2 f3 f4 f5 f6 f7 hx1 hx2
  go_wp2_with fail
  refine (cBigGet_any g _ 0 0 4 w5 hc5 (by decide) (by decide)).mono ?_
  rintro e w6 ⟨rfl, hc6, hg6⟩
  have hb := below_of_grown HB.out HB.out.size hg6 hgw
  rw [F1.out, X1.out]
  rw [F2.out, F3.out] at hc6
  clear HB hc5 hg6
  have HB := Lib.hid hb
  clear hb
  go_wp2_with fail
  refine (cLitGet_any g _ 4 0 4 w6 hc6 (by decide) (by decide)).mono ?_
  rintro e w7 ⟨rfl, hc7, hg7⟩
  have hb := below_of_grown HB.out HB.out.size hg7 hgw
  rw [F4.out, X2.out]
  rw [F5.out, F6.out] at hc7
  clear HB hc6 hg7
  have HB := Lib.hid hb
  clear hb
  go_wp2_with fail
  refine (cEnd_any g _ (2 * 4) 0 w7 hc7).mono ?_
  rintro e w8 ⟨rfl, hc8, hg8⟩
  have hb := below_of_grown HB.out HB.out.size hg8 hgw
  rw [F7.out]
  clear HB hc7 hc8 hg8
  have HB := Lib.hid hb
  clear hb
  go_wp2
  go_ret
  exact ⟨rfl, HB.out⟩
set_option maxHeartbeats 4000000 in
set_option maxRecDepth 100000 in
theorem walkBack_8 (v u : Nat) (w : World) (hv : v < 18446744073709551616) (hu : u < 18446744073709551616) :
    Calls Try.prog 14 #[.int .u64 (v : Int), .int .u64 (u : Int), .int .i64 8] w fun e w' => e = .returned (.bool true) ∧ Below w.heap.size w w' := by
  go_enter Try.func14, Try.ntmps14
  go_wp2_with fail
  refine (fixed02_any _).mono ?_
  rintro e w1 ⟨rfl, hb1⟩
  have HB := Lib.hid hb1
  clear hb1
  go_wp2_with fail
  refine (cFail_nil 2 w1).mono ?_
  rintro e w' ⟨rfl, rfl⟩
  go_wp2_with fail
  refine (cErr_nil _).mono ?_
  rintro e w1 ⟨rfl, rfl⟩
  go_wp2_with fail
  refine (cEnd_nil _).mono ?_
  rintro e w' ⟨rfl, rfl⟩
  go_wp2_with fail
  refine (cBigGet_nil _).mono ?_
  rintro e w1 ⟨rfl, rfl⟩
  go_wp2_with fail
  refine (cLitGet_nil _).mono ?_
  rintro e w' ⟨rfl, rfl⟩
  go_wp2_with fail
  refine (cTake_nil _).mono ?_
  rintro e w2 ⟨a2, c2, rfl, hb2⟩
  have hb := below_trans0 HB.out HB.out.size hb2
  clear HB hb2
  have HB := Lib.hid hb
  clear hb
  go_wp2_with fail
  refine (cLeft_nil _).mono ?_
  rintro e w' ⟨rfl, rfl⟩
  go_wp2_with fail
  refine (cAt_nil _).mono ?_
  rintro e w2 ⟨rfl, rfl⟩
  go_wp2_with fail
  refine (cBig_any none 0 0 [] v 8 w2 rfl (by decide) hv (by decide) (by decide) Rd.nil).mono ?_
  rintro e w3 ⟨a3, n3, c3, rfl, hbuf3, hB3⟩
  have hb := below_trans0 HB.out HB.out.size hB3
  have hn3 : n3 = 8 := by rw [← hbuf3.len]; exact (List.length_append).trans ((Nat.zero_add _).trans (putB_len v 8 rfl))
  subst hn3
  clear HB hB3
  have HB := Lib.hid hb
  have HBUF := Lib.hid hbuf3
  clear hb hbuf3
  go_wp2_with fail
  refine (cLittle_any a3 8 c3 _ u 8 w3 HBUF.out.len (by decide) hu (by decide) (by decide) HBUF.out.rd).mono ?_
  rintro e w4 ⟨a4, n4, c4, rfl, hbuf4, hB4⟩
  have hb := below_trans0 HB.out HB.out.size hB4
  have hn4 : n4 = 2 * 8 := by
    rw [← hbuf4.len, List.length_append, HBUF.out.len]
    exact (congrArg (8 + ·) (putL_len u 8 rfl))
  subst hn4
  clear HB HBUF hB4
  have HB := Lib.hid hb
  have HBUF := Lib.hid hbuf4
  clear hb hbuf4
  go_wp2_with fail
  refine (cNew_any a4 _ c4 _ w4 HBUF.out.len (by decide) HBUF.out.rd).mono ?_
  rintro e w5 ⟨g, rfl, hg, hc5, hB5⟩
  have hb := below_trans0 HB.out HB.out.size hB5
  have hgw := Nat.le_trans HB.out.size hg
  clear HB HBUF hB5 hg
  have HB := Lib.hid hb
  clear hb
  have f0 : nextL ([] ++ putB v 8 ++ putL u 8) 0 0 8 (sizedB 8) = putB v 8 ∧ nextAt ([] ++ putB v 8 ++ putL u 8).length 0 0 8 (sizedB 8) = 8 ∧ nextEr ([] ++ putB v 8 ++ putL u 8).length 0 0 8 (sizedB 8) = 0 ∧ nextL ([] ++ putB v 8 ++ putL u 8) 8 0 8 (sizedB 8) = putL u 8 ∧ nextAt ([] ++ putB v 8 ++ putL u 8).length 8 0 8 (sizedB 8) = 2 * 8 ∧ nextEr ([] ++ putB v 8 ++ putL u 8).length 8 0 8 (sizedB 8) = 0 ∧ endEr ([] ++ putB v 8 ++ putL u 8).length (2 * 8) 0 = 0 := back_facts 8 rfl v u
  have hx1 : bigR (putB v 8) = IntKind.u64.wrap ((v : Int) * 1) / 1 := (bigR_putB v 8 rfl).trans (by rw [IntKind.wrap_u64]; omega)
  have hx2 : litR (putL u 8) (putL u 8).length = IntKind.u64.wrap ((u : Int) * 1) / 1 := (litR_putL u 8 rfl).trans (by rw [IntKind.wrap_u64]; omega)
  obtain ⟨f1, f2, f3, f4, f5, f6, f7⟩ := f0
  have F1 := Lib.hid f1
  have F2 := Lib.hid f2
  have F3 := Lib.hid f3
  have F4 := Lib.hid f4
  have F5 := Lib.hid f5
  have F6 := Lib.hid f6
  have F7 := Lib.hid f7
  have X1 := Lib.hid hx1
  have X2 := Lib.hid hx2
  clear f1 f2 f3 f4 f5 f6 f7 hx1 hx2
  go_wp2_with fail
  refine (cBigGet_any g _ 0 0 8 w5 hc5 (by decide) (by decide)).mono ?_
  rintro e w6 ⟨rfl, hc6, hg6⟩
  have hb := below_of_grown HB.out HB.out.size hg6 hgw
  rw [F1.out, X1.out]
  rw [F2.out, F3.out] at hc6
  clear HB hc5 hg6
  have HB := Lib.hid hb
  clear hb
  go_wp2_with fail
  refine (cLitGet_any g _ 8 0 8 w6 hc6 (by decide) (by decide)).mono ?_
  rintro e w7 ⟨rfl, hc7, hg7⟩
  have hb := below_of_grown HB.out HB.out.size hg7 hgw
  rw [F4.out, X2.out]
  rw [F5.out, F6.out] at hc7
  clear HB hc6 hg7
  have HB := Lib.hid hb
  clear hb
  go_wp2_with fail
  refine (cEnd_any g _ (2 * 8) 0 w7 hc7).mono ?_
  rintro e w8 ⟨rfl, hc8, hg8⟩
  have hb := below_of_grown HB.out HB.out.size hg8 hgw
  rw [F7.out]
  clear HB hc7 hc8 hg8
  have HB := Lib.hid hb
  clear hb
  go_wp2
  go_ret
  exact ⟨rfl, HB.out⟩
set_option maxHeartbeats 4000000 in
set_option maxRecDepth 100000 in
theorem walkBack_no (v u : Nat) (m : Int) (w : World) (h1 : m ≠ 1) (h2 : m ≠ 2) (h4 : m ≠ 4) (h8 : m ≠ 8) (hm : -9223372036854775808 ≤ m ∧ m ≤ 9223372036854775807) (hv : v < 18446744073709551616) (hu : u < 18446744073709551616) :
    Calls Try.prog 14 #[.int .u64 (v : Int), .int .u64 (u : Int), .int .i64 m] w fun e w' => e = .returned (.bool true) ∧ Below w.heap.size w w' := by
  go_enter Try.func14, Try.ntmps14
  go_wp2_with fail
  refine (fixed02_any _).mono ?_
  rintro e w1 ⟨rfl, hb1⟩
  have HB := Lib.hid hb1
  clear hb1
  go_wp2_with fail
  refine (cFail_nil 2 w1).mono ?_
  rintro e w' ⟨rfl, rfl⟩
  go_wp2_with fail
  refine (cErr_nil _).mono ?_
  rintro e w1 ⟨rfl, rfl⟩
  go_wp2_with fail
  refine (cEnd_nil _).mono ?_
  rintro e w' ⟨rfl, rfl⟩
  go_wp2_with fail
  refine (cBigGet_nil _).mono ?_
  rintro e w1 ⟨rfl, rfl⟩
  go_wp2_with fail
  refine (cLitGet_nil _).mono ?_
  rintro e w' ⟨rfl, rfl⟩
  go_wp2_with fail
  refine (cTake_nil _).mono ?_
  rintro e w2 ⟨a2, c2, rfl, hb2⟩
  have hb := below_trans0 HB.out HB.out.size hb2
  clear HB hb2
  have HB := Lib.hid hb
  clear hb
  go_wp2_with fail
  refine (cLeft_nil _).mono ?_
  rintro e w' ⟨rfl, rfl⟩
  go_wp2_with fail
  refine (cAt_nil _).mono ?_
  rintro e w2 ⟨rfl, rfl⟩
  go_wp2_with fail
  have hL : putB v m = [] ∧ putL u m = [] := by
    have := sizedB_no m h1 h2 h4 h8
    unfold putB putL
    rw [this]
    exact ⟨rfl, rfl⟩
  have HL := Lib.hid hL
  clear hL
  refine (cBig_any none 0 0 [] v m w2 rfl (by decide) hv hm.1 hm.2 Rd.nil).mono ?_
  rintro e w3 ⟨a3, n3, c3, rfl, hbuf3, hB3⟩
  have hb := below_trans0 HB.out HB.out.size hB3
  rw [HL.out.1] at hbuf3
  have hn3 : n3 = 0 := hbuf3.len.symm
  subst hn3
  clear HB hB3
  have HB := Lib.hid hb
  have HBUF := Lib.hid hbuf3
  clear hb hbuf3
  go_wp2_with fail
  refine (cLittle_any a3 0 c3 _ u m w3 HBUF.out.len (by decide) hu hm.1 hm.2 HBUF.out.rd).mono ?_
  rintro e w4 ⟨a4, n4, c4, rfl, hbuf4, hB4⟩
  have hb := below_trans0 HB.out HB.out.size hB4
  rw [HL.out.2] at hbuf4
  have hn4 : n4 = 0 := hbuf4.len.symm
  subst hn4
  clear HB HBUF hB4
  have HB := Lib.hid hb
  have HBUF := Lib.hid hbuf4
  clear hb hbuf4
  go_wp2_with fail
  refine (cNew_any a4 _ c4 _ w4 HBUF.out.len (by decide) HBUF.out.rd).mono ?_
  rintro e w5 ⟨g, rfl, hg, hc5, hB5⟩
  have hb := below_trans0 HB.out HB.out.size hB5
  clear HB HBUF hB5 hg
  have HB := Lib.hid hb
  clear hb
  replace hc5 : CurOk w5 g [] 0 0 := hc5
  have t1 : (m != 1) = true := by simpa using h1
  have s1 : (m == 1) = false := by simpa using h1
  have t2 : (m != 2) = true := by simpa using h2
  have s2 : (m == 2) = false := by simpa using h2
  have t4 : (m != 4) = true := by simpa using h4
  have s4 : (m == 4) = false := by simpa using h4
  have t8 : (m != 8) = true := by simpa using h8
  have s8 : (m == 8) = false := by simpa using h8
  go_wp2_with fail
  refine (cLeft_any g _ 0 0 w5 hc5).mono ?_
  rintro e w6 ⟨rfl, kd, rfl⟩
  rw [show (([] : List UInt8).length : Int) - (0 : Nat) = 0 from rfl]
  go_wp2
  go_ret
  exact ⟨rfl, HB.out.trans (below_drewN _ _ kd)⟩
theorem walkCursorBack (v u m : Int) (w : World) (hv : 0 ≤ v ∧ v < 18446744073709551616) (hu : 0 ≤ u ∧ u < 18446744073709551616) (hm : -9223372036854775808 ≤ m ∧ m ≤ 9223372036854775807) :
    Calls Try.prog 14 #[.int .u64 v, .int .u64 u, .int .i64 m] w fun e w' => e = .returned (.bool true) ∧ Below w.heap.size w w' := by
  obtain ⟨v, rfl⟩ := Int.eq_ofNat_of_zero_le hv.1
  obtain ⟨u, rfl⟩ := Int.eq_ofNat_of_zero_le hu.1
  by_cases h1 : m = 1
  · subst h1; exact walkBack_1 v u w (by omega) (by omega)
  by_cases h2 : m = 2
  · subst h2; exact walkBack_2 v u w (by omega) (by omega)
  by_cases h4 : m = 4
  · subst h4; exact walkBack_4 v u w (by omega) (by omega)
  by_cases h8 : m = 8
  · subst h8; exact walkBack_8 v u w (by omega) (by omega)
  exact walkBack_no v u m w h1 h2 h4 h8 hm (by omega) (by omega)
end Go.Proofs.Ytnfdbljeinlblaa
