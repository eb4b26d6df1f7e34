/- The walks of package combine: next, Times, Power, bytes, Noughts, Join, Head, Tail. -/
import Derived.Test.YtnfdbljeinlblaaCrcW
namespace Go.Proofs.Ytnfdbljeinlblaa
open Go.RowKit
set_option linter.unusedVariables false
set_option linter.unusedSimpArgs false

set_option maxHeartbeats 400000 in
theorem next_any (a : Int) (w : World) (h : 0 ≤ a ∧ a < 4294967296) :
  Calls Try.prog 67 #[.int .u32 a] w fun e w' => e = .returned (.int .u32 (nextI a)) ∧ w = w' := by
  go_enter Try.func67, Try.ntmps67
  go_wp2
  all_goals go_ret
  · exact ⟨ret_int (nextI_t (by assumption)), rfl⟩
  · exact ⟨ret_int (nextI_f (by assumption)), rfl⟩

def timesF (a : Int) : Nat → Int → Int → Int
  | 0, out, _ => out
  | j+1, out, b => timesF a j (if (bits .and .u32 a (2 ^ j : Nat) != 0) = true then bits .xor .u32 out b else out) (nextI b)
def timesI (a b : Int) : Int := timesF a 32 0 b
def bitI : Nat → Int | 0 => 0 | j+1 => (2 ^ j : Nat)
theorem bitI_succ (j : Nat) : bitI (j + 1) = (2 ^ j : Nat) := rfl
theorem timesF_t {a : Int} {j : Nat} {out b : Int} (h : (bits .and .u32 a (bitI (j + 1)) != 0) = true) : timesF a (j+1) out b = timesF a j (bits .xor .u32 out b) (nextI b) := by
  rw [bitI_succ] at h; simp only [timesF, h, if_true]
theorem timesF_f {a : Int} {j : Nat} {out b : Int} (h : (bits .and .u32 a (bitI (j + 1)) != 0) = false) : timesF a (j+1) out b = timesF a j out (nextI b) := by
  rw [bitI_succ] at h; simp only [timesF, h]; simp
theorem bitI_range (j : Nat) (h : j ≤ 32) : 0 ≤ bitI j ∧ bitI j ≤ 2147483648 := by
  cases j with
  | zero => simp [bitI]
  | succ j =>
    have : (2:Nat) ^ j ≤ 2 ^ 31 := Nat.pow_le_pow_right (by omega) (by omega)
    rw [bitI_succ]
    generalize 2 ^ j = q at *
    omega
theorem bitI_half (j : Nat) : bitI (j+1) / 2 = bitI j := by
  cases j with
  | zero => simp [bitI]
  | succ j => simp only [bitI, Nat.pow_succ]; omega
theorem bitI_pos (j : Nat) : 0 < bitI (j+1) := by
  rw [bitI_succ]; have : 0 < 2 ^ j := Nat.two_pow_pos j
  generalize 2 ^ j = q at *
  omega
theorem timesF_range (a : Int) (j : Nat) (out b : Int) (h : 0 ≤ out ∧ out < 4294967296) : 0 ≤ timesF a j out b ∧ timesF a j out b < 4294967296 := by
  induction j generalizing out b with
  | zero => exact h
  | succ j ih =>
    simp only [timesF]
    refine ih _ _ ?_
    split
    · exact bits_range_u32 _ _ _
    · exact h
theorem timesI_range (a b : Int) : 0 ≤ timesI a b ∧ timesI a b < 4294967296 := timesF_range _ _ _ _ ⟨by omega, by omega⟩

set_option maxHeartbeats 400000 in
theorem times_any (a b : Int) (w : World) (ha : 0 ≤ a ∧ a < 4294967296) (hb : 0 ≤ b ∧ b < 4294967296) :
  Calls Try.prog 25 #[.int .u32 a, .int .u32 b] w fun e w' => e = .returned (.int .u32 (timesI a b)) ∧ w = w' := by
  go_enter Try.func25, Try.ntmps25
  go_wp2
  go_loop [1, 5, 6] (fun bb out bit => ∃ (j : Nat) (o c : Int), j ≤ 32 ∧ bit = .int .u32 (bitI j) ∧ out = .int .u32 o ∧ bb = .int .u32 c ∧ 0 ≤ o ∧ o < 4294967296 ∧ 0 ≤ c ∧ c < 4294967296 ∧ timesF a j o c = timesI a b) (fun _ _ bit => (intOf bit).toNat)
  case atStart => exact ⟨32, 0, b, by omega, rfl, rfl, rfl, by omega, by omega, hb.1, hb.2, rfl⟩
  case round =>
    obtain ⟨j, o, c, hj, rfl, rfl, rfl, ho1, ho2, hc1, hc2, hrest⟩ := hrel
    have HR := Lib.hid hrest
    clear hrest
    have hbr := bitI_range j hj
    cases j with
    | zero =>
      have e0 : bitI 0 = 0 := rfl
      go_wp2
      go_ret
      exact ⟨ret_int HR.out, rfl⟩
    | succ j =>
      have hp := bitI_pos j
      have hh := bitI_half j
      have hn := nextI_range ⟨hc1, hc2⟩
      go_wp2_with (go_at_call 67; refine (next_any _ _ ⟨by omega, by omega⟩).mono ?_; rintro e w' ⟨rfl, rfl⟩)
      · have hx := bits_range_u32 .xor o c
        go_round
        case rel => exact ⟨j, _, _, by omega, rfl, rfl, rfl, hx.1, hx.2, hn.1, hn.2, by rw [← HR.out, timesF_t (by assumption)]⟩
        case measure => simp only [intOf]; omega
      · go_round
        case rel => exact ⟨j, _, _, by omega, rfl, rfl, rfl, ho1, ho2, hn.1, hn.2, by rw [← HR.out, timesF_f (by assumption)]⟩
        case measure => simp only [intOf]; omega

/-- Squares: n's bits, the lowest first. -/
def powF : Nat → Int → Int → Int → Int
  | 0, _, out, _ => out
  | f+1, n, out, sq => if n ≤ 0 then out else powF f (n / 2) (if (bits .and .i64 n 1 == 1) = true then timesI out sq else out) (timesI sq sq)
def normI (n : Int) : Int := if n.tmod 4294967295 < 0 then n.tmod 4294967295 + 4294967295 else n.tmod 4294967295
def powI (n : Int) : Int := powF 32 (normI n) 2147483648 1073741824
theorem powF_zero (f : Nat) (o s : Int) : powF f 0 o s = o := by cases f <;> simp [powF]
theorem powF_t {f : Nat} {n o s : Int} (hn : 0 < n) (h : (bits .and .i64 n 1 == 1) = true) : powF (f+1) n o s = powF f (n / 2) (timesI o s) (timesI s s) := by
  simp only [powF, h]; rw [if_neg (by omega)]; simp
theorem powF_f {f : Nat} {n o s : Int} (hn : 0 < n) (h : (bits .and .i64 n 1 == 1) = false) : powF (f+1) n o s = powF f (n / 2) o (timesI s s) := by
  simp only [powF, h]; rw [if_neg (by omega)]; simp
theorem powF_range (f : Nat) (n o s : Int) (h : 0 ≤ o ∧ o < 4294967296) : 0 ≤ powF f n o s ∧ powF f n o s < 4294967296 := by
  induction f generalizing n o s with
  | zero => exact h
  | succ f ih =>
    simp only [powF]
    split
    · exact h
    · refine ih _ _ _ ?_
      split
      · exact timesI_range _ _
      · exact h
theorem powI_range (n : Int) : 0 ≤ powI n ∧ powI n < 4294967296 := powF_range _ _ _ _ ⟨by omega, by omega⟩
theorem normI_range (n : Int) : 0 ≤ normI n ∧ normI n < 4294967295 := by
  have h1 := Int.tmod_lt_of_pos n (show (0:Int) < 4294967295 by omega)
  have h2 : -4294967295 < n.tmod 4294967295 := by
    have := Int.lt_tmod_of_pos n (show (0:Int) < 4294967295 by omega); exact this
  unfold normI; split <;> omega
theorem two_pow_cast (f : Nat) : ((2 ^ (f + 1) : Nat) : Int) = 2 * ((2 ^ f : Nat) : Int) := by rw [Nat.pow_succ]; omega

set_option maxHeartbeats 1000000 in
theorem power_any (n : Int) (w : World) (h1 : -9223372036854775808 ≤ n) (h2 : n ≤ 9223372036854775807) :
  Calls Try.prog 26 #[.int .i64 n] w fun e w' => e = .returned (.int .u32 (powI n)) ∧ w = w' := by
  have hnr := normI_range n
  have hlt := Int.tmod_lt_of_pos n (show (0:Int) < 4294967295 by omega)
  have hgt : -4294967295 < n.tmod 4294967295 := Int.lt_tmod_of_pos n (show (0:Int) < 4294967295 by omega)
  have key : ∀ t : Int, n.tmod 4294967295 < 0 ∧ t = n.tmod 4294967295 + 4294967295 ∨ ¬ n.tmod 4294967295 < 0 ∧ t = n.tmod 4294967295 → t = normI n := by
    intro t h
    unfold normI
    rcases h with ⟨h, rfl⟩ | ⟨h, rfl⟩
    · rw [if_pos h]
    · rw [if_neg h]
  have KEY := Lib.hid key
  clear key
  by_cases hs : n.tmod 4294967295 < 0
  all_goals
    first
      | have hd : decide (n.tmod 4294967295 < 0) = true := by simpa using hs
      | have hd : decide (n.tmod 4294967295 < 0) = false := by simpa using hs
    go_enter Try.func26, Try.ntmps26
    go_wp2
    go_loop [0, 3, 4] (fun i out sq => ∃ (f : Nat) (m o s : Int), i = .int .i64 m ∧ out = .int .u32 o ∧ sq = .int .u32 s ∧ 0 ≤ m ∧ m < (2 ^ f : Nat) ∧ f ≤ 32 ∧ 0 ≤ o ∧ o < 4294967296 ∧ 0 ≤ s ∧ s < 4294967296 ∧ powF f m o s = powI n) (fun i _ _ => (intOf i).toNat)
    case atStart =>
      have hk := KEY.out _ (by first | exact .inl ⟨hs, rfl⟩ | exact .inr ⟨hs, rfl⟩)
      exact ⟨32, _, _, _, rfl, rfl, rfl, by rw [hk]; exact hnr.1, by rw [hk]; have := hnr.2; simp; omega, by omega, by omega, by omega, by omega, by omega, by rw [hk]; rfl⟩
    case round =>
      obtain ⟨f, m, o, s, rfl, rfl, rfl, hm0, hm1, hf, ho0, ho1, hs0, hs1, hrest⟩ := hrel
      clear hs hd hlt hgt hnr
      have HR := Lib.hid hrest
      clear hrest
      by_cases hz : m ≤ 0
      · have hz' : m = 0 := by omega
        have HF := Lib.hid hm1
        clear hm1
        subst hz'
        go_wp2
        go_ret
        exact ⟨ret_int (by rw [← HR.out, powF_zero]), rfl⟩
      · cases f with
        | zero => simp at hm1; omega
        | succ f =>
          rw [two_pow_cast] at hm1
          have hm2 : m / 2 < (2 ^ f : Nat) := by omega
          have HM := Lib.hid hm2
          have hm3 : m < 4294967296 := by
            have : (2 : Nat) ^ f ≤ 2 ^ 31 := Nat.pow_le_pow_right (by omega) (by omega)
            have h3 : ((2 ^ f : Nat) : Int) ≤ ((2 ^ 31 : Nat) : Int) := by exact_mod_cast this
            have h4 : ((2 ^ 31 : Nat) : Int) = 2147483648 := by decide
            omega
          clear hm1 hm2
          have hpos : 0 < m := by omega
          have r1 := timesI_range o s
          have r2 := timesI_range s s
          by_cases hb : (bits .and .i64 m 1 == 1) = true
          · go_wp2_with fail
            refine (times_any o s _ ⟨ho0, ho1⟩ ⟨hs0, hs1⟩).mono ?_
            rintro e w' ⟨rfl, rfl⟩
            go_wp2_with fail
            refine (times_any s s _ ⟨hs0, hs1⟩ ⟨hs0, hs1⟩).mono ?_
            rintro e w' ⟨rfl, rfl⟩
            go_wp2_with fail
            go_round
            case rel => exact ⟨f, _, _, _, rfl, rfl, rfl, by omega, HM.out, by omega, r1.1, r1.2, r2.1, r2.2, by rw [← HR.out, powF_t hpos hb]⟩
            case measure => simp only [intOf]; omega
          · have hb' : (bits .and .i64 m 1 == 1) = false := by simpa using hb
            clear hb
            go_wp2_with fail
            refine (times_any s s _ ⟨hs0, hs1⟩ ⟨hs0, hs1⟩).mono ?_
            rintro e w' ⟨rfl, rfl⟩
            go_wp2_with fail
            go_round
            case rel => exact ⟨f, _, _, _, rfl, rfl, rfl, by omega, HM.out, by omega, ho0, ho1, r2.1, r2.2, by rw [← HR.out, powF_f hpos hb']⟩
            case measure => simp only [intOf]; omega

def bytesI (n : Int) : Int := powI (n.tmod 4294967295 * 8)
theorem bytesI_range (n : Int) : 0 ≤ bytesI n ∧ bytesI n < 4294967296 := powI_range _
theorem tmod_bounds (n : Int) : -4294967295 < n.tmod 4294967295 ∧ n.tmod 4294967295 < 4294967295 :=
  ⟨Int.lt_tmod_of_pos n (by omega), Int.tmod_lt_of_pos n (by omega)⟩

set_option maxHeartbeats 1000000 in
theorem cbytes_any (n : Int) (w : World) (h1 : -9223372036854775808 ≤ n) (h2 : n ≤ 9223372036854775807) :
  Calls Try.prog 66 #[.int .i64 n] w fun e w' => e = .returned (.int .u32 (bytesI n)) ∧ w = w' := by
  have hb := tmod_bounds n
  go_enter Try.func66, Try.ntmps66
  go_wp2_with fail
  refine (power_any _ _ (by omega) (by omega)).mono ?_
  rintro e w' ⟨rfl, rfl⟩
  go_wp2
  go_ret
  exact ⟨rfl, rfl⟩

def noughtsI (s n : Int) : Int := if n < 0 then s else notI (timesI (notI s) (bytesI n))
def joinI (a b n : Int) : Int := if n < 0 then 0 else bits .xor .u32 (timesI a (bytesI n)) b
def headI (all b n : Int) : Int := if n < 0 then 0 else timesI (bits .xor .u32 all b) (powI (- (n.tmod 4294967295 * 8)))
def tailI (all a n : Int) : Int := if n < 0 then 0 else joinI a all n
theorem noughtsI_range (s n : Int) (h : 0 ≤ s ∧ s < 4294967296) : 0 ≤ noughtsI s n ∧ noughtsI s n < 4294967296 := by
  unfold noughtsI; split
  · exact h
  · exact notI_range _
theorem joinI_range (a b n : Int) : 0 ≤ joinI a b n ∧ joinI a b n < 4294967296 := by
  unfold joinI; split
  · omega
  · exact bits_range_u32 _ _ _
theorem headI_range (a b n : Int) : 0 ≤ headI a b n ∧ headI a b n < 4294967296 := by
  unfold headI; split
  · omega
  · exact timesI_range _ _
theorem tailI_range (a b n : Int) : 0 ≤ tailI a b n ∧ tailI a b n < 4294967296 := by
  unfold tailI; split
  · omega
  · exact joinI_range _ _ _

set_option maxHeartbeats 1000000 in
theorem noughts_any (s n : Int) (w : World) (hs : 0 ≤ s ∧ s < 4294967296) (h1 : -9223372036854775808 ≤ n) (h2 : n ≤ 9223372036854775807) :
  Calls Try.prog 27 #[.int .u32 s, .int .i64 n] w fun e w' => e = .returned (.int .u32 (noughtsI s n)) ∧ w = w' := by
  have r1 := notI_range s
  have r2 := bytesI_range n
  by_cases hn : n < 0
  · have hfin : noughtsI s n = s := by unfold noughtsI; rw [if_pos hn]
    have HF := Lib.hid hfin
    clear hfin
    go_enter Try.func27, Try.ntmps27
    go_wp2
    go_ret
    exact ⟨ret_int HF.out.symm, rfl⟩
  · have hfin : noughtsI s n = notI (timesI (notI s) (bytesI n)) := by unfold noughtsI; rw [if_neg hn]
    have HF := Lib.hid hfin
    clear hfin
    go_enter Try.func27, Try.ntmps27
    go_wp2_with fail
    refine (cbytes_any _ _ h1 h2).mono ?_
    rintro e w' ⟨rfl, rfl⟩
    go_wp2_with fail
    refine (times_any _ _ _ r1 r2).mono ?_
    rintro e w' ⟨rfl, rfl⟩
    go_wp2
    go_ret
    exact ⟨ret_int HF.out.symm, rfl⟩

set_option maxHeartbeats 1000000 in
theorem join_any (x y n : Int) (w : World) (hx : 0 ≤ x ∧ x < 4294967296) (hy : 0 ≤ y ∧ y < 4294967296) (h1 : -9223372036854775808 ≤ n) (h2 : n ≤ 9223372036854775807) :
  Calls Try.prog 22 #[.int .u32 x, .int .u32 y, .int .i64 n] w fun e w' => e = .returned (.int .u32 (joinI x y n)) ∧ w = w' := by
  have r2 := bytesI_range n
  have r3 := timesI_range x (bytesI n)
  by_cases hn : n < 0
  · have hfin : joinI x y n = 0 := by unfold joinI; rw [if_pos hn]
    have HF := Lib.hid hfin
    clear hfin
    go_enter Try.func22, Try.ntmps22
    go_wp2
    go_ret
    exact ⟨ret_int HF.out.symm, rfl⟩
  · have hfin : joinI x y n = bits .xor .u32 (timesI x (bytesI n)) y := by unfold joinI; rw [if_neg hn]
    have HF := Lib.hid hfin
    clear hfin
    go_enter Try.func22, Try.ntmps22
    go_wp2_with fail
    refine (cbytes_any _ _ h1 h2).mono ?_
    rintro e w' ⟨rfl, rfl⟩
    go_wp2_with fail
    refine (times_any _ _ _ hx r2).mono ?_
    rintro e w' ⟨rfl, rfl⟩
    go_wp2
    go_ret
    exact ⟨ret_int HF.out.symm, rfl⟩

set_option maxHeartbeats 1000000 in
theorem head_any (x y n : Int) (w : World) (hx : 0 ≤ x ∧ x < 4294967296) (hy : 0 ≤ y ∧ y < 4294967296) (h1 : -9223372036854775808 ≤ n) (h2 : n ≤ 9223372036854775807) :
  Calls Try.prog 23 #[.int .u32 x, .int .u32 y, .int .i64 n] w fun e w' => e = .returned (.int .u32 (headI x y n)) ∧ w = w' := by
  by_cases hn : n < 0
  · have hfin : headI x y n = 0 := by unfold headI; rw [if_pos hn]
    have HF := Lib.hid hfin
    clear hfin
    go_enter Try.func23, Try.ntmps23
    go_wp2
    go_ret
    exact ⟨ret_int HF.out.symm, rfl⟩
  · have hfin : headI x y n = timesI (bits .xor .u32 x y) (powI (- (n.tmod 4294967295 * 8))) := by unfold headI; rw [if_neg hn]
    rw [Int.tmod_eq_emod_of_nonneg (by omega)] at hfin
    have hb1 : 0 ≤ n % 4294967295 := Int.emod_nonneg _ (by omega)
    have hb2 : n % 4294967295 < 4294967295 := Int.emod_lt_of_pos _ (by omega)
    have r2 := powI_range (- (n % 4294967295 * 8))
    have r3 := bits_range_u32 .xor x y
    have HF := Lib.hid hfin
    clear hfin
    go_enter Try.func23, Try.ntmps23
    go_wp2_with fail
    refine (power_any _ _ (by omega) (by omega)).mono ?_
    rintro e w' ⟨rfl, rfl⟩
    go_wp2_with fail
    refine (times_any _ _ _ r3 r2).mono ?_
    rintro e w' ⟨rfl, rfl⟩
    go_wp2
    go_ret
    exact ⟨ret_int HF.out.symm, rfl⟩

set_option maxHeartbeats 1000000 in
theorem tail_any (x y n : Int) (w : World) (hx : 0 ≤ x ∧ x < 4294967296) (hy : 0 ≤ y ∧ y < 4294967296) (h1 : -9223372036854775808 ≤ n) (h2 : n ≤ 9223372036854775807) :
  Calls Try.prog 24 #[.int .u32 x, .int .u32 y, .int .i64 n] w fun e w' => e = .returned (.int .u32 (tailI x y n)) ∧ w = w' := by
  by_cases hn : n < 0
  · have hfin : tailI x y n = 0 := by unfold tailI; rw [if_pos hn]
    have HF := Lib.hid hfin
    clear hfin
    go_enter Try.func24, Try.ntmps24
    go_wp2
    go_ret
    exact ⟨ret_int HF.out.symm, rfl⟩
  · have hfin : tailI x y n = joinI y x n := by unfold tailI; rw [if_neg hn]
    have HF := Lib.hid hfin
    clear hfin
    go_enter Try.func24, Try.ntmps24
    go_wp2_with fail
    refine (join_any _ _ _ _ hy hx h1 h2).mono ?_
    rintro e w' ⟨rfl, rfl⟩
    go_wp2
    go_ret
    exact ⟨ret_int HF.out.symm, rfl⟩
end Go.Proofs.Ytnfdbljeinlblaa
