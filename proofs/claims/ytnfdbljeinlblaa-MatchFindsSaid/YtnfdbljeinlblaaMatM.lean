/- MatchFinds. -/
import Derived.Test.YtnfdbljeinlblaaMatL
import Derived.Test.YtnfdbljeinlblaaMatJ
namespace Go.Proofs.Ytnfdbljeinlblaa
open Go.RowKit
set_option linter.unusedVariables false
set_option linter.unusedSimpArgs false

set_option maxRecDepth 100000 in
set_option maxHeartbeats 16000000 in
theorem walkMatchFinds (a : Option Addr) (n c : Nat) (l : List UInt8) (p : Int) (w : World) (hl : l.length = n) (hm : n ≤ c ∧ c ≤ maxLen) (hr : Rd w bE a l) (hp : -9223372036854775808 ≤ p ∧ p ≤ 9223372036854775807) :
  Calls Try.prog 9 #[.slice a n c, .int .i64 p] w fun e w' => e = .returned (.bool true) ∧ Below w.heap.size w w' := by
  have HL := Lib.hid hl
  have HR := Lib.hid hr
  have HM := Lib.hid hm
  clear hl hr hm
  go_enter Try.func9, Try.ntmps9
  go_wp2_with fail
  refine (fixed07_any w).mono ?_
  rintro e w0 ⟨rfl, hB0⟩
  by_cases hbig : 400 < n
  · go_wp2
    go_ret
    exact ⟨rfl, hB0⟩
  · go_wp2_with fail
    refine (mFind_any a n c l p w0 HL.out (by omega) HM.out.1 (HR.out.below hB0)).mono ?_
    rintro e w1 ⟨rfl, hB1⟩
    have hB2 := hB0.trans (hB1.mono hB0.size)
    have HT := Lib.hid (rFind_any a n c l p w1 HL.out (by omega) (HR.out.below hB2))
    generalize findT l p = t at HT ⊢
    obtain ⟨x, y, z⟩ := t
    simp only [tokA] at HT ⊢
    clear hB0 hB1
    go_wp2_with fail
    refine HT.out.mono ?_
    rintro e w3 ⟨rfl, hB3⟩
    clear HT
    go_wp2
    go_ret
    exact ⟨rfl, hB2.trans (hB3.mono hB2.size)⟩
end Go.Proofs.Ytnfdbljeinlblaa
