/- The walk of CrcSums. -/
import Derived.Test.YtmmgcfhoigpomaaFix03
import Derived.Test.YtmmgcfhoigpomaaCrcA
namespace Go.Proofs.Ytmmgcfhoigpomaa
open Go.RowKit
set_option linter.unusedVariables false
set_option linter.unusedSimpArgs false

theorem refSumI_any (a : Option Addr) (n c : Nat) (b : List UInt8) (w : World) (hl : b.length = n) (hn : n ≤ 1000000000) (hr : Rd w byteV a b) :
  Calls Try.prog 35 #[.slice a n c] w fun e w' => e = .returned (.int .u32 (crcSumI b)) ∧ Below w.heap.size w w' :=
  (refSum_any a n c b w hl hn hr).mono fun e w' ⟨h1, h2⟩ => ⟨by rw [h1, refSum_eq], h2⟩

set_option maxHeartbeats 4000000 in
set_option maxRecDepth 100000 in
theorem walkCrcSums (a0 : Option Addr) (n0 c0 : Nat) (l0 : List UInt8) (w : World) (hl0 : l0.length = n0) (hm0 : n0 ≤ maxLen) (hr0 : Rd w byteV a0 l0) :
    Calls Try.prog 7 #[.slice a0 n0 c0] w fun e w' => e = .returned (.bool true) ∧ Below w.heap.size w w' := by
  unfold maxLen at hm0
  go_enter Try.func7, Try.ntmps7
  go_wp2_with fail
  refine (fixed03_any _).mono ?_
  rintro e w1 ⟨rfl, hb1⟩
  have hs1 := hb1.size
  by_cases h0 : 400 < n0
  · clear hr0
    go_wp2
    go_ret
    exact ⟨rfl, hb1⟩
  · have hr1 := hr0.below hb1
    clear hr0
    go_wp2_with fail
    refine (crcSum_any a0 n0 c0 l0 w1 hl0 (by unfold maxLen; omega) hr1).mono ?_
    rintro e w2 ⟨rfl, hb2⟩
    have hr2 := hr1.below hb2
    have hb12 := below_trans0 hb1 hs1 hb2
    clear hr1 hb1 hb2
    go_wp2_with fail
    refine (refSumI_any a0 n0 c0 l0 w2 hl0 (by omega) hr2).mono ?_
    rintro e w3 ⟨rfl, hb3⟩
    have hb13 := below_trans0 hb12 hb12.size hb3
    have HB := Lib.hid hb13
    clear hb13 hb12 hb3 hr2
    go_wp2
    go_ret
    exact ⟨rfl, HB.out⟩
end Go.Proofs.Ytmmgcfhoigpomaa
