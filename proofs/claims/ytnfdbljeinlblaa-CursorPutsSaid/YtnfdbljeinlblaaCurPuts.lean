/- Proved: CursorPuts returns true for every input: any number's bytes are the document's, behind any others, which stay as they were. No condition. -/
import Derived.Test.YtnfdbljeinlblaaCurFix
import Derived.Test.YtnfdbljeinlblaaRef02P
import Derived.Test.YtnfdbljeinlblaaStr
import Derived.Test.YtnfdbljeinlblaaGrow2
namespace Go.Proofs.Ytnfdbljeinlblaa
open Go.ChangeShapes Go.WideShapes Go.ChangeAt Go.RowKit
set_option linter.unusedVariables false
set_option linter.unusedSimpArgs false

set_option maxHeartbeats 4000000 in
set_option maxRecDepth 100000 in
theorem walkCursorPuts (a0 : Option Addr) (n0 c0 : Nat) (l0 : List UInt8) (v m : Int) (w : World)
    (hl0 : l0.length = n0) (hm0 : n0 ≤ maxLen) (hr0 : Rd w bE a0 l0) (hv : 0 ≤ v ∧ v < 18446744073709551616) (hm : -9223372036854775808 ≤ m ∧ m ≤ 9223372036854775807) :
    Calls Try.prog 12 #[.slice a0 n0 c0, .int .u64 v, .int .i64 m] w fun e w' => e = .returned (.bool true) ∧ Below w.heap.size w w' := by
  unfold maxLen at hm0
  by_cases h0 : 500 < n0
  · go_enter Try.func12, Try.ntmps12
    go_wp2_with fail
    refine (fixed02_any _).mono ?_
    rintro e w1 ⟨rfl, hb1⟩
    go_wp2
    go_ret
    exact ⟨rfl, hb1⟩
  obtain ⟨v, rfl⟩ := Int.eq_ofNat_of_zero_le hv.1
  have hvn : v < 18446744073709551616 := by omega
  have HL0 := Lib.hid hl0
  have HR0 := Lib.hid hr0
  clear hl0 hr0 hv
  go_enter Try.func12, Try.ntmps12
  go_wp2_with fail
  refine (fixed02_any _).mono ?_
  rintro e w1 ⟨rfl, hb1⟩
  have hcv0 := conv_str (P := Try.prog) Try.underlying32 Try.underlying5 Try.underlying9 c0 HL0.out (HR0.out.later hb1)
  have HR1 := Lib.hid (HR0.out.later hb1)
  have HB1 := Lib.hid hb1
  clear hb1
  go_wp2
  refine wp_region_grow (by kernel_rfl) (by kernel_rfl) (by rfl) ?_
  clear hcv0
  apply gw_val
  · intro a' w' hk
    refine ⟨by first | exact wanted_none rfl | exact wanted_guard (t := 26) rfl rfl (by simpa [KnownAt, List.lookup, consD] using hk 26 (by decide)) | exact wanted_guard (t := 39) rfl rfl (by simpa [KnownAt, List.lookup, consD] using hk 39 (by decide)), ?_⟩
    simp [Oper.looksAt, Op.operands, Call.operands, KnownAt, List.lookup, consD] at hk
    simp [execOp, Act.eval, hk, go_sem]
    all_goals rfl
  apply gw_val
  · intro a' w' hk
    refine ⟨by first | exact wanted_none rfl | exact wanted_guard (t := 26) rfl rfl (by simpa [KnownAt, List.lookup, consD] using hk 26 (by decide)) | exact wanted_guard (t := 39) rfl rfl (by simpa [KnownAt, List.lookup, consD] using hk 39 (by decide)), ?_⟩
    simp [Oper.looksAt, Op.operands, Call.operands, KnownAt, List.lookup, consD] at hk
    simp [execOp, Act.eval, hk, go_sem]
    all_goals rfl
  apply gw_val
  · intro a' w' hk
    refine ⟨by first | exact wanted_none rfl | exact wanted_guard (t := 26) rfl rfl (by simpa [KnownAt, List.lookup, consD] using hk 26 (by decide)) | exact wanted_guard (t := 39) rfl rfl (by simpa [KnownAt, List.lookup, consD] using hk 39 (by decide)), ?_⟩
    simp [Oper.looksAt, Op.operands, Call.operands, KnownAt, List.lookup, consD] at hk
    simp [execOp, Act.eval, hk, go_sem]
    all_goals rfl
  refine gw_call _ _ (BytesG (l0 ++ putB v m)) (mono_bytes _) (fun a' w' hk => ?_) (fun w' hb => (cBig_any a0 n0 c0 l0 v m w' HL0.out (by omega) hvn hm.1 hm.2 (HR1.out.drew.later hb)).mono ?_) ?_
  · refine ⟨by first | exact wanted_none rfl | exact wanted_guard (t := 26) rfl rfl (by simpa [KnownAt, List.lookup, consD] using hk 26 (by decide)) | exact wanted_guard (t := 39) rfl rfl (by simpa [KnownAt, List.lookup, consD] using hk 39 (by decide)), ?_⟩
    simp [Oper.looksAt, Op.operands, Call.operands, KnownAt, List.lookup, consD] at hk
    simp [execOp, Act.eval, hk, go_sem]
    all_goals rfl
  · rintro e w'' ⟨p, q, r, rfl, hbuf, hB⟩
    exact ⟨_, rfl, ⟨p, q, r, rfl, hbuf.len, hbuf.rd⟩, hB⟩
  refine gw_str Try.underlying32 Try.underlying5 Try.underlying9 18 (l0 ++ putB v m) rfl (fun a' w' hb hk => ?_) ?_
  · exact ⟨by first | exact wanted_none rfl | exact wanted_guard (t := 26) rfl rfl (by simpa [KnownAt, List.lookup, consD] using hk 26 (by decide)) | exact wanted_guard (t := 39) rfl rfl (by simpa [KnownAt, List.lookup, consD] using hk 39 (by decide)), by simpa [KnownAt, List.lookup, consD] using hk 18 (by decide)⟩
  apply gw_val
  · intro a' w' hk
    refine ⟨by first | exact wanted_none rfl | exact wanted_guard (t := 26) rfl rfl (by simpa [KnownAt, List.lookup, consD] using hk 26 (by decide)) | exact wanted_guard (t := 39) rfl rfl (by simpa [KnownAt, List.lookup, consD] using hk 39 (by decide)), ?_⟩
    simp [Oper.looksAt, Op.operands, Call.operands, KnownAt, List.lookup, consD] at hk
    simp [execOp, Act.eval, hk, go_sem]
    all_goals rfl
  apply gw_val
  · intro a' w' hk
    refine ⟨by first | exact wanted_none rfl | exact wanted_guard (t := 26) rfl rfl (by simpa [KnownAt, List.lookup, consD] using hk 26 (by decide)) | exact wanted_guard (t := 39) rfl rfl (by simpa [KnownAt, List.lookup, consD] using hk 39 (by decide)), ?_⟩
    simp [Oper.looksAt, Op.operands, Call.operands, KnownAt, List.lookup, consD] at hk
    simp [execOp, Act.eval, hk, go_sem]
    all_goals rfl
  apply gw_val
  · intro a' w' hk
    refine ⟨by first | exact wanted_none rfl | exact wanted_guard (t := 26) rfl rfl (by simpa [KnownAt, List.lookup, consD] using hk 26 (by decide)) | exact wanted_guard (t := 39) rfl rfl (by simpa [KnownAt, List.lookup, consD] using hk 39 (by decide)), ?_⟩
    simp [Oper.looksAt, Op.operands, Call.operands, KnownAt, List.lookup, consD] at hk
    simp [execOp, Act.eval, hk, go_sem]
    all_goals rfl
  refine gw_call _ _ (BytesG (l0 ++ putB v m)) (mono_bytes _) (fun a' w' hk => ?_) (fun w' hb => (rBig_any a0 n0 c0 l0 v m w' HL0.out (by omega) hvn (HR1.out.drew.later hb)).mono ?_) ?_
  · refine ⟨by first | exact wanted_none rfl | exact wanted_guard (t := 26) rfl rfl (by simpa [KnownAt, List.lookup, consD] using hk 26 (by decide)) | exact wanted_guard (t := 39) rfl rfl (by simpa [KnownAt, List.lookup, consD] using hk 39 (by decide)), ?_⟩
    simp [Oper.looksAt, Op.operands, Call.operands, KnownAt, List.lookup, consD] at hk
    simp [execOp, Act.eval, hk, go_sem]
    all_goals rfl
  · rintro e w'' ⟨p, q, r, rfl, hbuf, hB⟩
    exact ⟨_, rfl, ⟨p, q, r, rfl, hbuf.len, hbuf.rd⟩, hB⟩
  refine gw_str Try.underlying32 Try.underlying5 Try.underlying9 23 (l0 ++ putB v m) rfl (fun a' w' hb hk => ?_) ?_
  · exact ⟨by first | exact wanted_none rfl | exact wanted_guard (t := 26) rfl rfl (by simpa [KnownAt, List.lookup, consD] using hk 26 (by decide)) | exact wanted_guard (t := 39) rfl rfl (by simpa [KnownAt, List.lookup, consD] using hk 39 (by decide)), by simpa [KnownAt, List.lookup, consD] using hk 23 (by decide)⟩
  apply gw_val
  · intro a' w' hk
    refine ⟨by first | exact wanted_none rfl | exact wanted_guard (t := 26) rfl rfl (by simpa [KnownAt, List.lookup, consD] using hk 26 (by decide)) | exact wanted_guard (t := 39) rfl rfl (by simpa [KnownAt, List.lookup, consD] using hk 39 (by decide)), ?_⟩
    simp [Oper.looksAt, Op.operands, Call.operands, KnownAt, List.lookup, consD] at hk
    simp [execOp, Act.eval, hk, go_sem]
    all_goals rfl
  apply gw_val
  · intro a' w' hk
    refine ⟨by first | exact wanted_none rfl | exact wanted_guard (t := 26) rfl rfl (by simpa [KnownAt, List.lookup, consD] using hk 26 (by decide)) | exact wanted_guard (t := 39) rfl rfl (by simpa [KnownAt, List.lookup, consD] using hk 39 (by decide)), ?_⟩
    simp [Oper.looksAt, Op.operands, Call.operands, KnownAt, List.lookup, consD] at hk
    simp [execOp, Act.eval, hk, go_sem]
    all_goals rfl
  apply gw_val
  · intro a' w' hk
    refine ⟨by first | exact wanted_none rfl | exact wanted_guard (t := 26) rfl rfl (by simpa [KnownAt, List.lookup, consD] using hk 26 (by decide)) | exact wanted_guard (t := 39) rfl rfl (by simpa [KnownAt, List.lookup, consD] using hk 39 (by decide)), ?_⟩
    simp [Oper.looksAt, Op.operands, Call.operands, KnownAt, List.lookup, consD] at hk
    simp [execOp, Act.eval, hk, go_sem]
    all_goals rfl
  apply gw_val
  · intro a' w' hk
    refine ⟨by first | exact wanted_none rfl | exact wanted_guard (t := 26) rfl rfl (by simpa [KnownAt, List.lookup, consD] using hk 26 (by decide)) | exact wanted_guard (t := 39) rfl rfl (by simpa [KnownAt, List.lookup, consD] using hk 39 (by decide)), ?_⟩
    simp [Oper.looksAt, Op.operands, Call.operands, KnownAt, List.lookup, consD] at hk
    simp [execOp, Act.eval, hk, go_sem]
    all_goals rfl
  apply gw_val
  · intro a' w' hk
    refine ⟨by first | exact wanted_none rfl | exact wanted_guard (t := 26) rfl rfl (by simpa [KnownAt, List.lookup, consD] using hk 26 (by decide)) | exact wanted_guard (t := 39) rfl rfl (by simpa [KnownAt, List.lookup, consD] using hk 39 (by decide)), ?_⟩
    simp [Oper.looksAt, Op.operands, Call.operands, KnownAt, List.lookup, consD] at hk
    simp [execOp, Act.eval, hk, go_sem]
    all_goals rfl
  refine gw_call _ _ (BytesG (l0 ++ putL v m)) (mono_bytes _) (fun a' w' hk => ?_) (fun w' hb => (cLittle_any a0 n0 c0 l0 v m w' HL0.out (by omega) hvn hm.1 hm.2 (HR1.out.drew.later hb)).mono ?_) ?_
  · refine ⟨by first | exact wanted_none rfl | exact wanted_guard (t := 26) rfl rfl (by simpa [KnownAt, List.lookup, consD] using hk 26 (by decide)) | exact wanted_guard (t := 39) rfl rfl (by simpa [KnownAt, List.lookup, consD] using hk 39 (by decide)), ?_⟩
    simp [Oper.looksAt, Op.operands, Call.operands, KnownAt, List.lookup, consD] at hk
    simp [execOp, Act.eval, hk, go_sem]
    all_goals rfl
  · rintro e w'' ⟨p, q, r, rfl, hbuf, hB⟩
    exact ⟨_, rfl, ⟨p, q, r, rfl, hbuf.len, hbuf.rd⟩, hB⟩
  refine gw_str Try.underlying32 Try.underlying5 Try.underlying9 30 (l0 ++ putL v m) rfl (fun a' w' hb hk => ?_) ?_
  · exact ⟨by first | exact wanted_none rfl | exact wanted_guard (t := 26) rfl rfl (by simpa [KnownAt, List.lookup, consD] using hk 26 (by decide)) | exact wanted_guard (t := 39) rfl rfl (by simpa [KnownAt, List.lookup, consD] using hk 39 (by decide)), by simpa [KnownAt, List.lookup, consD] using hk 30 (by decide)⟩
  apply gw_val
  · intro a' w' hk
    refine ⟨by first | exact wanted_none rfl | exact wanted_guard (t := 26) rfl rfl (by simpa [KnownAt, List.lookup, consD] using hk 26 (by decide)) | exact wanted_guard (t := 39) rfl rfl (by simpa [KnownAt, List.lookup, consD] using hk 39 (by decide)), ?_⟩
    simp [Oper.looksAt, Op.operands, Call.operands, KnownAt, List.lookup, consD] at hk
    simp [execOp, Act.eval, hk, go_sem]
    all_goals rfl
  apply gw_val
  · intro a' w' hk
    refine ⟨by first | exact wanted_none rfl | exact wanted_guard (t := 26) rfl rfl (by simpa [KnownAt, List.lookup, consD] using hk 26 (by decide)) | exact wanted_guard (t := 39) rfl rfl (by simpa [KnownAt, List.lookup, consD] using hk 39 (by decide)), ?_⟩
    simp [Oper.looksAt, Op.operands, Call.operands, KnownAt, List.lookup, consD] at hk
    simp [execOp, Act.eval, hk, go_sem]
    all_goals rfl
  apply gw_val
  · intro a' w' hk
    refine ⟨by first | exact wanted_none rfl | exact wanted_guard (t := 26) rfl rfl (by simpa [KnownAt, List.lookup, consD] using hk 26 (by decide)) | exact wanted_guard (t := 39) rfl rfl (by simpa [KnownAt, List.lookup, consD] using hk 39 (by decide)), ?_⟩
    simp [Oper.looksAt, Op.operands, Call.operands, KnownAt, List.lookup, consD] at hk
    simp [execOp, Act.eval, hk, go_sem]
    all_goals rfl
  refine gw_call _ _ (BytesG (l0 ++ putL v m)) (mono_bytes _) (fun a' w' hk => ?_) (fun w' hb => (rLittle_any a0 n0 c0 l0 v m w' HL0.out (by omega) hvn (HR1.out.drew.later hb)).mono ?_) ?_
  · refine ⟨by first | exact wanted_none rfl | exact wanted_guard (t := 26) rfl rfl (by simpa [KnownAt, List.lookup, consD] using hk 26 (by decide)) | exact wanted_guard (t := 39) rfl rfl (by simpa [KnownAt, List.lookup, consD] using hk 39 (by decide)), ?_⟩
    simp [Oper.looksAt, Op.operands, Call.operands, KnownAt, List.lookup, consD] at hk
    simp [execOp, Act.eval, hk, go_sem]
    all_goals rfl
  · rintro e w'' ⟨p, q, r, rfl, hbuf, hB⟩
    exact ⟨_, rfl, ⟨p, q, r, rfl, hbuf.len, hbuf.rd⟩, hB⟩
  refine gw_str Try.underlying32 Try.underlying5 Try.underlying9 35 (l0 ++ putL v m) rfl (fun a' w' hb hk => ?_) ?_
  · exact ⟨by first | exact wanted_none rfl | exact wanted_guard (t := 26) rfl rfl (by simpa [KnownAt, List.lookup, consD] using hk 26 (by decide)) | exact wanted_guard (t := 39) rfl rfl (by simpa [KnownAt, List.lookup, consD] using hk 39 (by decide)), by simpa [KnownAt, List.lookup, consD] using hk 35 (by decide)⟩
  apply gw_val
  · intro a' w' hk
    refine ⟨by first | exact wanted_none rfl | exact wanted_guard (t := 26) rfl rfl (by simpa [KnownAt, List.lookup, consD] using hk 26 (by decide)) | exact wanted_guard (t := 39) rfl rfl (by simpa [KnownAt, List.lookup, consD] using hk 39 (by decide)), ?_⟩
    simp [Oper.looksAt, Op.operands, Call.operands, KnownAt, List.lookup, consD] at hk
    simp [execOp, Act.eval, hk, go_sem]
    all_goals rfl
  apply gw_val
  · intro a' w' hk
    refine ⟨by first | exact wanted_none rfl | exact wanted_guard (t := 26) rfl rfl (by simpa [KnownAt, List.lookup, consD] using hk 26 (by decide)) | exact wanted_guard (t := 39) rfl rfl (by simpa [KnownAt, List.lookup, consD] using hk 39 (by decide)), ?_⟩
    simp [Oper.looksAt, Op.operands, Call.operands, KnownAt, List.lookup, consD] at hk
    simp [execOp, Act.eval, hk, go_sem]
    all_goals rfl
  apply gw_val
  · intro a' w' hk
    refine ⟨by first | exact wanted_none rfl | exact wanted_guard (t := 26) rfl rfl (by simpa [KnownAt, List.lookup, consD] using hk 26 (by decide)) | exact wanted_guard (t := 39) rfl rfl (by simpa [KnownAt, List.lookup, consD] using hk 39 (by decide)), ?_⟩
    simp [Oper.looksAt, Op.operands, Call.operands, KnownAt, List.lookup, consD] at hk
    simp [execOp, Act.eval, hk, go_sem]
    all_goals rfl
  apply gw_val
  · intro a' w' hk
    refine ⟨by first | exact wanted_none rfl | exact wanted_guard (t := 26) rfl rfl (by simpa [KnownAt, List.lookup, consD] using hk 26 (by decide)) | exact wanted_guard (t := 39) rfl rfl (by simpa [KnownAt, List.lookup, consD] using hk 39 (by decide)), ?_⟩
    simp [Oper.looksAt, Op.operands, Call.operands, KnownAt, List.lookup, consD] at hk
    simp [execOp, Act.eval, hk, go_sem]
    all_goals rfl
  refine gw_str Try.underlying32 Try.underlying5 Try.underlying9 40 (l0) rfl (fun a' w' hb hk => ?_) ?_
  · exact ⟨by first | exact wanted_none rfl | exact wanted_guard (t := 26) rfl rfl (by simpa [KnownAt, List.lookup, consD] using hk 26 (by decide)) | exact wanted_guard (t := 39) rfl rfl (by simpa [KnownAt, List.lookup, consD] using hk 39 (by decide)), _, _, _, by simpa [KnownAt, List.lookup, consD] using hk 40 (by decide), HL0.out, HR1.out.drew.later hb⟩
  apply gw_val
  · intro a' w' hk
    refine ⟨by first | exact wanted_none rfl | exact wanted_guard (t := 26) rfl rfl (by simpa [KnownAt, List.lookup, consD] using hk 26 (by decide)) | exact wanted_guard (t := 39) rfl rfl (by simpa [KnownAt, List.lookup, consD] using hk 39 (by decide)), ?_⟩
    simp [Oper.looksAt, Op.operands, Call.operands, KnownAt, List.lookup, consD] at hk
    simp [execOp, Act.eval, hk, go_sem]
    all_goals rfl
  apply gw_val
  · intro a' w' hk
    refine ⟨by first | exact wanted_none rfl | exact wanted_guard (t := 26) rfl rfl (by simpa [KnownAt, List.lookup, consD] using hk 26 (by decide)) | exact wanted_guard (t := 39) rfl rfl (by simpa [KnownAt, List.lookup, consD] using hk 39 (by decide)), ?_⟩
    simp [Oper.looksAt, Op.operands, Call.operands, KnownAt, List.lookup, consD] at hk
    simp [execOp, Act.eval, hk, go_sem]
    all_goals rfl
  apply gw_val
  · intro a' w' hk
    refine ⟨by first | exact wanted_none rfl | exact wanted_guard (t := 26) rfl rfl (by simpa [KnownAt, List.lookup, consD] using hk 26 (by decide)) | exact wanted_guard (t := 39) rfl rfl (by simpa [KnownAt, List.lookup, consD] using hk 39 (by decide)), ?_⟩
    simp [Oper.looksAt, Op.operands, Call.operands, KnownAt, List.lookup, consD] at hk
    simp [execOp, Act.eval, hk, go_sem]
    all_goals rfl
  apply gw_val
  · intro a' w' hk
    refine ⟨by first | exact wanted_none rfl | exact wanted_guard (t := 26) rfl rfl (by simpa [KnownAt, List.lookup, consD] using hk 26 (by decide)) | exact wanted_guard (t := 39) rfl rfl (by simpa [KnownAt, List.lookup, consD] using hk 39 (by decide)), ?_⟩
    simp [Oper.looksAt, Op.operands, Call.operands, KnownAt, List.lookup, consD] at hk
    simp [execOp, Act.eval, hk, go_sem]
    all_goals rfl
  intro vs w' hb hall
  simp only [AllS, consD] at hall
  simp only [consD, putAllS, Act.put]
  obtain ⟨h6, -⟩ := hall
  rw [h6]
  simp only [List.setIfInBounds_toArray, List.set_cons_succ, List.set_cons_zero]
  go_wp2
  go_ret
  exact ⟨rfl, below_trans0 HB1.out.drew HB1.out.drew.size hb⟩
end Go.Proofs.Ytnfdbljeinlblaa
