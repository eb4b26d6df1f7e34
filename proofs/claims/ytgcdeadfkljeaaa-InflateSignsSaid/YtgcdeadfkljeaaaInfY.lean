/- InflateSigns, walked. -/
import Derived.Test.YtgcdeadfkljeaaaInfU
import Derived.Laws.PanicsMore
namespace Go.Proofs.Ytgcdeadfkljeaaa
open Go.RowKit
set_option linter.unusedVariables false
set_option linter.unusedSimpArgs false

set_option maxRecDepth 100000 in
theorem idx_ord (j : Nat) (hj : j < 19) (w : World) : (Instr.index 40 (.agg ordC) (.int .i64 (j : Int))).run Try.prog w = .ok (.int .i64 (orderL.getD j 0)) w := by
  have h : j = 0 ∨ j = 1 ∨ j = 2 ∨ j = 3 ∨ j = 4 ∨ j = 5 ∨ j = 6 ∨ j = 7 ∨ j = 8 ∨ j = 9 ∨ j = 10 ∨ j = 11 ∨ j = 12 ∨ j = 13 ∨ j = 14 ∨ j = 15 ∨ j = 16 ∨ j = 17 ∨ j = 18 := by omega
  rcases h with rfl | rfl | rfl | rfl | rfl | rfl | rfl | rfl | rfl | rfl | rfl | rfl | rfl | rfl | rfl | rfl | rfl | rfl | rfl
  all_goals rfl
set_option maxHeartbeats 16000000 in
set_option maxRecDepth 100000 in
theorem walkInflateSigns (sign : Int) (w : World) (hs : -9223372036854775808 ≤ sign ∧ sign ≤ 9223372036854775807) :
  Calls Try.prog 5 #[.int .i64 sign] w fun e w' => e = .returned (.bool true) ∧ Below w.heap.size w w' := by
  have mixed : Try.prog.follows .mixedOrders = true := by kernel_rfl
  have HL := Lib.hid (fun w => length_any sign w hs)
  have HM := Lib.hid (fun w => rlength_any sign w hs)
  have HD := Lib.hid (fun w => distance_any sign w hs)
  have HE := Lib.hid (fun w => rdistance_any sign w hs)
  unfold SigP at HL HM HD HE
  generalize lenK sign = x at *
  generalize disK sign = y at *
  obtain ⟨xa, xb, xc⟩ := x
  obtain ⟨ya, yb, yc⟩ := y
  simp only at HL HM HD HE
  go_enter Try.func5, Try.ntmps5
  go_wp2_with fail
  refine (fixed06_any w).mono ?_
  rintro e w1 ⟨rfl, hb1⟩
  have HB1 := Lib.hid hb1
  clear hb1
  go_wp2_with fail
  refine (HL.out w1).mono ?_
  rintro e w2 ⟨rfl, hw⟩
  replace hw := hw.symm
  subst hw
  go_wp2_with fail
  refine (HM.out w1).mono ?_
  rintro e w2 ⟨rfl, hw⟩
  replace hw := hw.symm
  subst hw
  go_wp2_with fail
  refine (HD.out w1).mono ?_
  rintro e w2 ⟨rfl, hw⟩
  replace hw := hw.symm
  subst hw
  go_wp2_with fail
  refine (HE.out w1).mono ?_
  rintro e w2 ⟨rfl, hw⟩
  replace hw := hw.symm
  subst hw
  clear HL HM HD HE
  go_wp2_with fail
  refine (rOrder_any w1).mono ?_
  rintro e w2 ⟨k, rfl, hblk, hk, hb2⟩
  have H2 : Hid (Blk w2 k INT ordC ∧ Below w.heap.size w w2) := Lib.hid ⟨hblk, HB1.out.trans (hb2.mono HB1.out.size)⟩
  clear hblk hk hb2
  go_wp2_with fail
  go_loopw [45] (fun x45 wr => ∃ i : Nat, i ≤ 19 ∧ x45 = .int .i64 (i : Int) ∧ Hid (Blk wr k INT ordC ∧ Below w.heap.size w wr)) (fun x45 _ => 19 - (intOf x45).toNat)
  case atStart => exact ⟨0, by omega, rfl, H2⟩
  case round =>
    clear H2
    obtain ⟨i, hi, rfl, hW⟩ := hrel
    by_cases hin : i < 19
    · have gi1 : (i : Int) < 19 := by omega
      have hcell := (arr_ordI hW.out.1).cell (k := i) hin
      unfold listF at hcell
      have gx : ∀ w, (Instr.index 40 (.agg ordC) (.int .i64 (i : Int))).run Try.prog w = .ok (.int .i64 (orderL.getD i 0)) w := by
        exact fun w => idx_ord i hin w
      generalize orderL.getD i 0 = v at *
      go_wp2_with fail
      refine (iOrder_any wr).mono ?_
      rintro e w3 ⟨rfl, hb3⟩
      have HW3 : Hid (Blk w3 k INT ordC ∧ Below w.heap.size w w3) := Lib.hid ⟨hW.out.1.below hb3, hW.out.2.trans (hb3.mono hW.out.2.size)⟩
      clear hb3 hW hcell
      go_wp2_with fail
      go_roundw
      case rel => exact ⟨i + 1, by omega, by go_num, HW3⟩
      case measure => simp [intOf] <;> omega
    · have hie : i = 19 := by omega
      subst hie
      have HF := Lib.hid hW.out.2
      clear hW
      go_wp2
      go_ret
      exact ⟨rfl, HF.out⟩
end Go.Proofs.Ytgcdeadfkljeaaa
