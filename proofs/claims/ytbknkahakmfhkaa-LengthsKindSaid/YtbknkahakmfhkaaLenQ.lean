/- LengthsKind. -/
import Derived.Test.YtbknkahakmfhkaaLenP
namespace Go.Proofs.Ytbknkahakmfhkaa
open Go.RowKit
set_option linter.unusedVariables false
set_option linter.unusedSimpArgs false

set_option maxHeartbeats 8000000 in
set_option maxRecDepth 100000 in
theorem walkLengthsKind (a : Option Addr) (n c : Nat) (l : List Int) (w : World) (hl : l.length = n) (hc : n ≤ maxLen) (hr : Rd w nE a l) (hx : ∀ x ∈ l, -9223372036854775808 ≤ x ∧ x ≤ 9223372036854775807) :
  Calls Try.prog 6 #[.slice a n c] w fun e w' => e = .returned (.bool true) ∧ Below w.heap.size w w' := by
  have HH := Lib.hid (And.intro hl hr)
  unfold maxLen at hc
  clear hl hr
  go_enter Try.func6, Try.ntmps6
  go_wp2_with fail
  refine (fixed04_any _).mono ?_
  rintro e w1 ⟨rfl, hb⟩
  have HB := Lib.hid hb
  have HR := Lib.hid (HH.out.2.below hb)
  clear hb
  by_cases hn : 1000 < n
  · have g : (1000 : Int) < (n : Int) := by omega
    go_wp2
    go_ret
    exact ⟨rfl, HB.out⟩
  · have g : ¬ (1000 : Int) < (n : Int) := by omega
    go_wp2_with fail
    refine (kind_any a n c l w1 HH.out.1 (by omega) HR.out).mono ?_
    rintro e w2 ⟨rfl, rfl⟩
    go_wp2_with fail
    refine (rkind_any a n c l w2 HH.out.1 (by omega) HR.out).mono ?_
    rintro e w2 ⟨rfl, rfl⟩
    go_wp2
    go_ret
    exact ⟨rfl, HB.out⟩
end Go.Proofs.Ytbknkahakmfhkaa
