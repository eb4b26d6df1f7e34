/- InflateTells, walked. -/
import Derived.Test.YtgcdeadfkljeaaaInfU
namespace Go.Proofs.Ytgcdeadfkljeaaa
open Go.RowKit
set_option linter.unusedVariables false
set_option linter.unusedSimpArgs false

set_option maxHeartbeats 4000000 in
set_option maxRecDepth 100000 in
theorem walkInflateTells (a : Option Addr) (n c : Nat) (l : List UInt8) (most : Int) (w : World) (hl : l.length = n) (hm : n ≤ maxLen) (hr : Rd w bE a l) (hmr : -9223372036854775808 ≤ most ∧ most ≤ 9223372036854775807) :
  Calls Try.prog 3 #[.slice a n c, .int .i64 most] w fun e w' => e = .returned (.bool true) ∧ Below w.heap.size w w' := by
  have mixed : Try.prog.follows .mixedOrders = true := by kernel_rfl
  have HL := Lib.hid hl
  clear hl
  go_enter Try.func3, Try.ntmps3
  go_wp2_with fail
  refine (fixed06_any w).mono ?_
  rintro e w1 ⟨rfl, hb1⟩
  have HR1 := Lib.hid (And.intro (hr.below hb1) hb1)
  clear hr hb1
  by_cases h1 : 120 < n
  · have c1 : (120 : Int) < (n : Int) := by omega
    go_wp2_with fail
    go_ret
    exact ⟨rfl, HR1.out.2⟩
  have c1 : ¬ (120 : Int) < (n : Int) := by omega
  by_cases h2 : 3000 < most
  · go_wp2_with fail
    go_ret
    exact ⟨rfl, HR1.out.2⟩
  have HC1 := Lib.hid (infl_any a n c l most w1 HL.out (by omega) HR1.out.1 hmr)
  have HC2 := Lib.hid (fun w' hr' => rinfl_any a n c l most w' HL.out (by omega) hr' hmr)
  unfold InfPost at HC1 HC2
  generalize inflK l most = r at *
  obtain ⟨x, k, er⟩ := r
  simp only at HC1 HC2
  go_wp2_with fail
  refine HC1.out.mono ?_
  rintro e w2 ⟨p2, n2, c2, rfl, hn2, -, hr2, hb2⟩
  have HR2 := Lib.hid (And.intro (HR1.out.1.below hb2) (HR1.out.2.trans (hb2.mono HR1.out.2.size)))
  go_wp2_with fail
  refine (HC2.out w2 HR2.out.1).mono ?_
  rintro e w3 ⟨p3, n3, c3, rfl, hn3, -, hr3, hb3⟩
  have HR3 := Lib.hid (HR2.out.2.trans (hb3.mono HR2.out.2.size))
  have hcv1 := conv_str (P := Try.prog) Try.underlying22 Try.underlying5 Try.underlying9 c2 hn2 (hr2.below hb3)
  have hcv2 := conv_str (P := Try.prog) Try.underlying22 Try.underlying5 Try.underlying9 c3 hn3 hr3
  clear hr2 hb2 hr3 hb3 hn2 hn3 HC1 HC2
  go_wp2
  go_ret
  exact ⟨rfl, HR3.out⟩
end Go.Proofs.Ytgcdeadfkljeaaa
