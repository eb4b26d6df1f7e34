/- MatchBack. -/
import Derived.Test.YtnfdbljeinlblaaMatJ
namespace Go.Proofs.Ytnfdbljeinlblaa
open Go.RowKit
set_option linter.unusedVariables false
set_option linter.unusedSimpArgs false

theorem TokOk.all {l : List UInt8} {ts : List Tok} {n : Nat} (h : TokOk l ts n) (hl : l.length = n) : expR (n : Int) ts = (0, l) ∨ 16777216 < n := by
  by_cases hb : 16777216 < n
  · exact .inr hb
  · refine .inl ?_
    have := h.2 []
    rw [List.append_nil, expT, List.take_of_length_le (by omega), hl] at this
    unfold expR
    rw [if_neg (by omega), this]
set_option maxRecDepth 100000 in
set_option maxHeartbeats 16000000 in
theorem walkMatchBack (a : Option Addr) (n c : Nat) (l : List UInt8) (w : World) (hl : l.length = n) (hm : n ≤ c ∧ c ≤ maxLen) (hr : Rd w bE a l) :
  Calls Try.prog 10 #[.slice a n c] w fun e w' => e = .returned (.bool true) ∧ Below w.heap.size w w' := by
  have HL := Lib.hid hl
  have HR := Lib.hid hr
  have HM := Lib.hid hm
  clear hl hr hm
  go_enter Try.func10, Try.ntmps10
  go_wp2_with fail
  refine (fixed07_any w).mono ?_
  rintro e w0 ⟨rfl, hB0⟩
  by_cases hbig : 3000 < n
  · go_wp2
    go_ret
    exact ⟨rfl, hB0⟩
  · go_wp2_with fail
    refine (mTokens_any a n c l w0 HL.out (by omega) HM.out.1 (HR.out.below hB0)).mono ?_
    rintro e w1 ⟨pt, nt, ct, ts, rfl, hnt, hrt, htk, hB1⟩
    have hB2 := hB0.trans (hB1.mono hB0.size)
    have HX := Lib.hid (show expR (n : Int) ts = (0, l) from by rcases htk.all HL.out with h | h; exact h; omega)
    have HT := Lib.hid (rExpand_any pt nt ct ts n w1 (by omega) hrt htk.1)
    clear hB0 hB1 hrt htk
    go_wp2_with fail
    refine HT.out.mono ?_
    unfold XPost
    rw [HX.out]
    rintro e w3 ⟨a4, n4, c4, rfl, hl4, hn4, hr4, hB4⟩
    have hn4' : n4 = n := by rw [← hl4]; exact HL.out
    subst hn4'
    have hB5 := hB2.trans (hB4.mono hB2.size)
    have hcv1 := conv_str (P := Try.prog) Try.underlying32 Try.underlying5 Try.underlying9 c4 hl4 hr4
    have hcv2 := conv_str (P := Try.prog) Try.underlying32 Try.underlying5 Try.underlying9 c HL.out (HR.out.below hB5)
    clear HT HX hB2 hB4 hr4 hl4
    go_wp2
    go_ret
    exact ⟨rfl, hB5⟩
end Go.Proofs.Ytnfdbljeinlblaa
