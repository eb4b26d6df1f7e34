/- The walk of SegmentReads. -/
import Derived.Test.YtnmdgmjheopolaaSegH
namespace Go.Proofs.Ytnmdgmjheopolaa
open Go.RowKit
set_option linter.unusedVariables false
set_option linter.unusedSimpArgs false

set_option maxHeartbeats 8000000 in
set_option maxRecDepth 100000 in
theorem walkSegmentReads (a0 : Option Addr) (n0 c0 : Nat) (l0 : List UInt8) (sl : Bool) (most : Int) (w : World) (hl0 : l0.length = n0) (hm0 : n0 ≤ c0 ∧ c0 ≤ maxLen) (hr0 : Rd w bE a0 l0) (hmo : -9223372036854775808 ≤ most ∧ most ≤ 9223372036854775807) :
    Calls Try.prog 8 #[.slice a0 n0 c0, .bool sl, .int .i64 most] w fun e w' => e = .returned (.bool true) ∧ Below w.heap.size w w' := by
  have HR := Lib.hid hr0
  have HL := Lib.hid hl0
  have HM := Lib.hid hm0
  have hn0 : n0 ≤ 9223372036854775807 := by unfold maxLen at hm0; omega
  clear hr0 hl0 hm0
  go_enter Try.func8, Try.ntmps8
  go_wp2_with fail
  refine (fixed33_any _).mono ?_
  rintro e w1 ⟨rfl, hb1⟩
  by_cases h600 : n0 > 600
  · go_wp2
    go_ret
    exact ⟨rfl, hb1⟩
  · cases sl with
    | true =>
      go_wp2_with fail
      refine (rSeal_any a0 n0 c0 l0 w1 HL.out (by omega) (HR.out.later hb1)).mono ?_
      rintro e w2 ⟨a2, n2, c2, rfl, hown2, hb2⟩
      have hB2 := hb1.trans (hb2.mono hb1.size)
      have hl2 := hown2.len
      have hn2 : n2 ≤ 1000 := by rw [← hl2, sealL_len, HL.out]; omega
      have hnc2 := hown2.le_cap
      have hcm2 := hown2.cap_max
      have hr2 := hown2.rd
      clear hb1 hb2 hown2
      generalize sealL l0 = L at *
      go_wp2_with fail
      refine (bRead33_any a2 n2 c2 L most w2 hl2 (by omega) hnc2 hcm2 hr2 hmo).mono ?_
      rintro e w3 ⟨a3, n3, c3, rfl, hn3, hp3, hb3⟩
      have hB3 := hB2.trans (hb3.mono hB2.size)
      have hrx := (hr2).below hb3
      clear hB2
      go_wp2_with fail
      refine (rRead33_any a2 n2 c2 L most w3 hl2 (by omega) hnc2 hcm2 hrx hmo).mono ?_
      rintro e w4 ⟨a4, n4, c4, rfl, hn4, hp4, hb4⟩
      have hB4 := hB3.trans (hb4.mono hB3.size)
      have hp34 := hp3.below hb4
      clear hB3 hb4 hp3 hrx hb3
      generalize segE L most = E at *
      generalize segO L most = O at *
      go_wp2_with fail
      refine (rSame33_any a3 n3 c3 O a4 n4 c4 O w4 (by omega) (by omega) hp34 hp4).mono ?_
      rw [decide_eq_true rfl]
      rintro e w5 ⟨rfl, hb5⟩
      have hB5 := hB4.trans (hb5.mono hB4.size)
      clear hB4 hb5 hp34 hp4
      go_wp2
      go_ret
      exact ⟨rfl, hB5⟩
    | false =>
      have hB2 := hb1
      go_wp2_with fail
      refine (bRead33_any a0 n0 c0 l0 most w1 HL.out (by omega) HM.out.1 HM.out.2 (HR.out.later hb1) hmo).mono ?_
      rintro e w3 ⟨a3, n3, c3, rfl, hn3, hp3, hb3⟩
      have hB3 := hB2.trans (hb3.mono hB2.size)
      have hrx := ((HR.out.later hb1)).below hb3
      clear hB2
      go_wp2_with fail
      refine (rRead33_any a0 n0 c0 l0 most w3 HL.out (by omega) HM.out.1 HM.out.2 hrx hmo).mono ?_
      rintro e w4 ⟨a4, n4, c4, rfl, hn4, hp4, hb4⟩
      have hB4 := hB3.trans (hb4.mono hB3.size)
      have hp34 := hp3.below hb4
      clear hB3 hb4 hp3 hrx hb3
      generalize segE l0 most = E at *
      generalize segO l0 most = O at *
      go_wp2_with fail
      refine (rSame33_any a3 n3 c3 O a4 n4 c4 O w4 (by omega) (by omega) hp34 hp4).mono ?_
      rw [decide_eq_true rfl]
      rintro e w5 ⟨rfl, hb5⟩
      have hB5 := hB4.trans (hb5.mono hB4.size)
      clear hB4 hb5 hp34 hp4
      go_wp2
      go_ret
      exact ⟨rfl, hB5⟩
end Go.Proofs.Ytnmdgmjheopolaa
