/- The walk of SegmentWrites. -/
import Derived.Test.YtnmdgmjheopolaaSegH
namespace Go.Proofs.Ytnmdgmjheopolaa
open Go.RowKit
set_option linter.unusedVariables false
set_option linter.unusedSimpArgs false

set_option maxHeartbeats 8000000 in
set_option maxRecDepth 100000 in
theorem walkSegmentWrites (a0 : Option Addr) (n0 c0 : Nat) (ls : List (List UInt8)) (w : World) (hm0 : n0 ≤ c0 ∧ c0 ≤ maxLen) (hp : Parts w a0 n0 ls) :
    Calls Try.prog 7 #[.slice a0 n0 c0] w fun e w' => e = .returned (.bool true) ∧ Below w.heap.size w w' := by
  have HP := Lib.hid hp
  have HL := Lib.hid hp.len
  clear hp
  go_enter Try.func7, Try.ntmps7
  go_wp2_with fail
  refine (fixed33_any _).mono ?_
  rintro e w1 ⟨rfl, hb1⟩
  go_wp2_with fail
  refine (few_any a0 n0 c0 ls w1 (Nat.le_trans hm0.1 hm0.2) (HP.out.later hb1)).mono ?_
  rintro e w' ⟨rfl, rfl⟩
  by_cases hf : FewC ls
  · rw [decide_eq_true hf]
    have hn300 : n0 ≤ 300 := by rw [← HL.out]; exact hf.1
    have HS := Lib.hid hf.2.1
    clear hf
    go_wp2_with fail
    refine (bWrite33_any a0 n0 c0 ls w1 hn300 HS.out (HP.out.later hb1)).mono ?_
    rintro e w2 ⟨a2, n2, c2, rfl, hl2, hn2, hnc2, hc2, hr2, hb2⟩
    have hB2 := hb1.trans (hb2.mono hb1.size)
    clear hb1 hb2
    go_wp2_with fail
    refine (rWrite33_any a0 n0 c0 ls w2 hn300 HS.out (HP.out.later hB2)).mono ?_
    rintro e w3 ⟨a3, n3, c3, rfl, hl3, hn3, hnc3, hc3, hr3, hb3⟩
    have hB3 := hB2.trans (hb3.mono hB2.size)
    have hr23 := hr2.below hb3
    have hcv1 := conv_str (P := Try.prog) Try.underlying26 Try.underlying5 Try.underlying9 c2 hl2 hr23
    have hcv2 := conv_str (P := Try.prog) Try.underlying26 Try.underlying5 Try.underlying9 c3 hl3 hr3
    have HR2 := Lib.hid hr23
    have HL2 := Lib.hid hl2
    clear hB2 hb3 hr2 hr23 hr3 hl2 hl3 hnc3 hc3
    by_cases h255 : 255 < n0
    · have e1 : segWE ls = 4 := by unfold segWE; rw [if_pos (by rw [HL.out]; exact h255)]
      rw [e1]
      clear e1
      generalize segWL ls = R at *
      go_wp2
      go_ret
      exact ⟨rfl, hB3⟩
    · have e1 : segWE ls = 0 := by unfold segWE; rw [if_neg (by rw [HL.out]; exact h255)]
      have hlong := segWL_long ls (by rw [HL.out]; omega)
      have hback1 := seg_back ls (by rw [HL.out]; omega) HS.out (n2 : Int) (by rw [HL2.out]; omega)
      have hE3 : segE (segWL ls) ((n2 : Int) - 1) = 3 := segE_long (by rw [HL2.out] at hlong; omega) (by rw [HL2.out]; omega)
      rw [HL2.out] at hlong
      have HBK := Lib.hid hback1
      have HE3 := Lib.hid hE3
      rw [e1]
      clear e1 hback1 hE3
      generalize segWL ls = R at *
      go_wp2_with fail
      refine (bRead33_any a2 n2 c2 R n2 w3 HL2.out (by omega) hnc2 hc2 HR2.out (by omega)).mono ?_
      unfold SegRPost
      rw [HBK.out.1, HBK.out.2]
      rintro e w4 ⟨a4, n4, c4, rfl, hn4, hp4, hb4⟩
      have hB4 := hB3.trans (hb4.mono hB3.size)
      have hr4 := HR2.out.below hb4
      clear hB3 hb4 hcv1 hcv2
      go_wp2_with fail
      refine (bRead33_any a2 n2 c2 R ((n2 : Int) - 1) w4 HL2.out (by omega) hnc2 hc2 hr4 (by omega)).mono ?_
      unfold SegRPost
      rw [HE3.out]
      rintro e w5 ⟨a5, n5, c5, rfl, hn5, -, hb5⟩
      have hB5 := hB4.trans (hb5.mono hB4.size)
      have hp5 := hp4.below hb5
      clear hB4 hb5 hp4 hr4
      go_wp2_with fail
      refine (rSame33_any a4 n4 c4 ls a0 n0 c0 ls w5 (by omega) (by omega) hp5 (HP.out.later hB5)).mono ?_
      rw [decide_eq_true rfl]
      rintro e w6 ⟨rfl, hb6⟩
      have hB6 := hB5.trans (hb6.mono hB5.size)
      clear hB5 hb6 hp5
      go_wp2
      go_ret
      exact ⟨rfl, hB6⟩
  · rw [decide_eq_false hf]
    clear hf
    go_wp2
    go_ret
    exact ⟨rfl, hb1⟩
end Go.Proofs.Ytnmdgmjheopolaa
