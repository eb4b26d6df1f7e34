/- The reach of a coding, bhsd's and the document's. -/
import Derived.Test.YtnmdgmjheopolaaBhsA
namespace Go.Proofs.Ytnmdgmjheopolaa
open Go.RowKit
set_option linter.unusedVariables false
set_option linter.unusedSimpArgs false

def reachN (h : Int) : Nat → Int
  | 0 => 256
  | k+1 => 256 - h + h * reachN h k
def reachC (b h : Int) : Int := min (reachN h (b - 1).toNat) 4294967296
theorem reachN_range (h : Int) (hh : 2 ≤ h ∧ h ≤ 256) (k : Nat) : 256 ≤ reachN h k ∧ reachN h k ≤ 256 ^ (k + 1) := by
  induction k with
  | zero => simp [reachN]
  | succ k ih =>
    rw [reachN]
    have h1 : 1 * reachN h k ≤ h * reachN h k := Int.mul_le_mul_of_nonneg_right (by omega) (by omega)
    have h2 : h * (reachN h k - 1) ≤ 256 * (reachN h k - 1) := Int.mul_le_mul_of_nonneg_right (by omega) (by omega)
    have h3 : h * 255 ≤ h * (reachN h k - 1) := Int.mul_le_mul_of_nonneg_left (by omega) (by omega)
    rw [Int.mul_sub] at h2 h3
    have h4 : (256 : Int) ^ (k + 1 + 1) = 256 ^ (k + 1) * 256 := Int.pow_succ _ _
    omega
theorem reachN_le (h : Int) (hh : 2 ≤ h ∧ h ≤ 256) (k : Nat) (hk : k ≤ 4) : 256 ≤ reachN h k ∧ reachN h k ≤ 1099511627776 := by
  have := reachN_range h hh k
  rcases (show k = 0 ∨ k = 1 ∨ k = 2 ∨ k = 3 ∨ k = 4 by omega) with rfl | rfl | rfl | rfl | rfl <;> omega
theorem reachC_range (b h : Int) (hh : 2 ≤ h ∧ h ≤ 256) : 256 ≤ reachC b h ∧ reachC b h ≤ 4294967296 := by
  have := reachN_range h hh (b - 1).toNat
  unfold reachC
  omega

theorem cod_cells {w w1 : World} {T : TypeId} {b h s d : Int} (hB : Below (w.alloc (.cells #[.int .i64 b, .int .i64 h, .int .i64 s, .int .i64 d] T)).heap.size (w.alloc (.cells #[.int .i64 b, .int .i64 h, .int .i64 s, .int .i64 d] T)) w1) :
  Blk w1 w.heap.size T #[.int .i64 b, .int .i64 h, .int .i64 s, .int .i64 d] ∧ w1.cell? ⟨w.heap.size, 0, none⟩ = some (.int .i64 b) ∧ w1.cell? ⟨w.heap.size, 1, none⟩ = some (.int .i64 h) ∧ w1.cell? ⟨w.heap.size, 2, none⟩ = some (.int .i64 s) ∧ w1.cell? ⟨w.heap.size, 3, none⟩ = some (.int .i64 d) ∧ Below w.heap.size w w1 := by
  have hblk := (Blk.new w T #[.int .i64 b, .int .i64 h, .int .i64 s, .int .i64 d]).below hB
  exact ⟨hblk, hblk.cell rfl, hblk.cell rfl, hblk.cell rfl, hblk.cell rfl, (below_alloc w _).trans (hB.mono (by simp))⟩

set_option maxRecDepth 100000 in
set_option maxHeartbeats 4000000 in
theorem bReach_any (b h s d : Int) (w : World) (hb : In64 b) (hh : In64 h) (hs : In64 s) (hd : In64 d) :
  Calls Try.prog 17 #[.agg #[.int .i64 b, .int .i64 h, .int .i64 s, .int .i64 d]] w fun e w' => e = .returned (.int .i64 (if RightC b h s d then reachC b h else 0)) ∧ Below w.heap.size w w' := by
  by_cases hR : RightC b h s d
  · rw [if_pos hR]
    have hR1 : decide (RightC b h s d) = true := decide_eq_true hR
    obtain ⟨r1, r2, r3, r4, r5, r6, r7, r8, r9, r10⟩ := hR
    go_enter Try.func17, Try.ntmps17
    go_wp2_with fail
    refine (bRight_any b h s d _ hb hh hs hd).mono ?_
    rw [hR1]
    rintro e w1 ⟨rfl, hB⟩
    obtain ⟨hblk, hc0, hc1, -, -, hB1⟩ := cod_cells hB
    have HB := Lib.hid hB1
    clear hB hB1 hblk hR1 hb hh hs hd r9 r10
    go_wp2
    go_loop [3, 10] (fun nv i => ∃ k : Nat, k ≤ (b - 1).toNat ∧ i = .int .i64 k ∧ nv = .int .i64 (reachN h k)) (fun _ i => (b - 1).toNat - (intOf i).toNat)
    case atStart => exact ⟨0, by omega, rfl, rfl⟩
    case round =>
      obtain ⟨k, hk, rfl, rfl⟩ := hrel
      have hx := reachN_le h ⟨r3, r4⟩ k (by omega)
      by_cases hlt : (k : Int) < b - 1
      · have hst : reachN h (k + 1) = 256 - h + h * reachN h k := rfl
        have HST := Lib.hid hst
        clear hst
        generalize reachN h k = x at hx HST ⊢
        have hp1 : 0 ≤ h * x := Int.mul_nonneg (by omega) (by omega)
        have hp2 : h * x ≤ 256 * x := Int.mul_le_mul_of_nonneg_right (by omega) (by omega)
        go_wp2
        go_round
        case rel => exact ⟨k + 1, by omega, by go_num, by rw [HST.out]⟩
        case measure => simp [intOf]; omega
      · have hfin : reachC b h = min (reachN h k) 4294967296 := by
          unfold reachC; rw [show (b - 1).toNat = k by omega]
        have HFIN := Lib.hid hfin
        clear hfin
        generalize reachN h k = x at hx HFIN ⊢
        go_wp2
        all_goals (go_ret; exact ⟨ret_int (by have := HFIN.out; omega), HB.out⟩)
  · rw [if_neg hR]
    have hR1 : decide (RightC b h s d) = false := decide_eq_false hR
    clear hR
    go_enter Try.func17, Try.ntmps17
    go_wp2_with fail
    refine (bRight_any b h s d _ hb hh hs hd).mono ?_
    rw [hR1]
    rintro e w1 ⟨rfl, hB⟩
    obtain ⟨hblk, hc0, hc1, -, -, hB1⟩ := cod_cells hB
    clear hblk hR1
    go_wp2
    go_ret
    exact ⟨rfl, hB1⟩
set_option maxRecDepth 100000 in
set_option maxHeartbeats 4000000 in
theorem rReach_any (b h s d : Int) (w : World) (hR : RightC b h s d) :
  Calls Try.prog 20 #[.agg #[.int .i64 b, .int .i64 h, .int .i64 s, .int .i64 d]] w fun e w' => e = .returned (.int .i64 (reachC b h)) ∧ Below w.heap.size w w' := by
  obtain ⟨r1, r2, r3, r4, r5, r6, r7, r8, r9, r10⟩ := hR
  have hB1 := below_alloc w (.cells #[.int .i64 b, .int .i64 h, .int .i64 s, .int .i64 d] 23)
  have HB := Lib.hid hB1
  clear hB1 r9 r10
  go_enter Try.func20, Try.ntmps20
  go_wp2
  go_loop [3, 4] (fun nv i => ∃ k : Nat, k ≤ (b - 1).toNat ∧ i = .int .i64 ((k : Int) + 1) ∧ nv = .int .i64 (reachN h k)) (fun _ i => b.toNat - (intOf i).toNat)
  case atStart => exact ⟨0, by omega, rfl, rfl⟩
  case round =>
    obtain ⟨k, hk, rfl, rfl⟩ := hrel
    have hx := reachN_le h ⟨r3, r4⟩ k (by omega)
    by_cases hlt : (k : Int) + 1 < b
    · have hst : reachN h (k + 1) = 256 - h + h * reachN h k := rfl
      have HST := Lib.hid hst
      clear hst
      generalize reachN h k = x at hx HST ⊢
      have hp1 : 0 ≤ h * x := Int.mul_nonneg (by omega) (by omega)
      have hp2 : h * x ≤ 256 * x := Int.mul_le_mul_of_nonneg_right (by omega) (by omega)
      go_wp2
      go_round
      case rel => exact ⟨k + 1, by omega, by go_num, by rw [HST.out]⟩
      case measure => simp [intOf]; omega
    · have hfin : reachC b h = min (reachN h k) 4294967296 := by
        unfold reachC; rw [show (b - 1).toNat = k by omega]
      have HFIN := Lib.hid hfin
      clear hfin
      generalize reachN h k = x at hx HFIN ⊢
      by_cases hbig : x > 4294967296
      · go_wp2
        go_ret
        exact ⟨ret_int (by have := HFIN.out; omega), HB.out⟩
      · go_wp2
        go_ret
        exact ⟨ret_int (by have := HFIN.out; omega), HB.out⟩
end Go.Proofs.Ytnmdgmjheopolaa
