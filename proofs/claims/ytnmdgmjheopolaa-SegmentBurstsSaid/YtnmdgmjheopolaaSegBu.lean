/- The walk of SegmentBursts. -/
import Derived.Test.YtnmdgmjheopolaaSegH
namespace Go.Proofs.Ytnmdgmjheopolaa
open Go.RowKit
set_option linter.unusedVariables false
set_option linter.unusedSimpArgs false

theorem seg_burst (ls : List (List UInt8)) (hn : ls.length ≤ 255) (hs : sumL ls ≤ 1000) (at' pat : Int) : (burstL (segWL ls) at' pat = segWL ls ∧ segE (burstL (segWL ls) at' pat) 16777216 = 0) ∨ (burstL (segWL ls) at' pat ≠ segWL ls ∧ segE (burstL (segWL ls) at' pat) 16777216 = 7) := by
  have hlen := segWL_len ls hs
  have hlong := segWL_long ls hn
  by_cases h : burstL (segWL ls) at' pat = segWL ls
  · exact .inl ⟨h, by rw [h]; exact (seg_back ls hn hs 16777216 (by omega)).1⟩
  · refine .inr ⟨h, ?_⟩
    have hok : openOk (segWL ls) = true := by unfold segWL; rw [if_neg (by omega)]; exact openOk_seal _
    have hno : ¬ openOk (burstL (segWL ls) at' pat) = true := fun hb => h (burst_opens _ at' pat (by omega) hok hb)
    have hbl := burstL_len (segWL ls) at' pat
    have h7 : openEr (burstL (segWL ls) at' pat) = 7 := by unfold openEr; rw [if_neg (by omega), if_neg hno]
    rw [segE_open (by omega) (by rw [hbl]; omega) (by omega), h7]
set_option maxHeartbeats 8000000 in
set_option maxRecDepth 100000 in
theorem walkSegmentBursts (a0 : Option Addr) (n0 c0 : Nat) (ls : List (List UInt8)) (at' pat : Int) (w : World) (hm0 : n0 ≤ c0 ∧ c0 ≤ maxLen) (hp : Parts w a0 n0 ls) (ha : -9223372036854775808 ≤ at' ∧ at' ≤ 9223372036854775807) (hpt : 0 ≤ pat ∧ pat < 4294967296) :
    Calls Try.prog 10 #[.slice a0 n0 c0, .int .i64 at', .int .u32 pat] w fun e w' => e = .returned (.bool true) ∧ Below w.heap.size w w' := by
  have HP := Lib.hid hp
  have HL := Lib.hid hp.len
  clear hp
  go_enter Try.func10, Try.ntmps10
  go_wp2_with fail
  refine (fixed33_any _).mono ?_
  rintro e w1 ⟨rfl, hb1⟩
  go_wp2_with fail
  refine (few_any a0 n0 c0 ls w1 (Nat.le_trans hm0.1 hm0.2) (HP.out.later hb1)).mono ?_
  rintro e w' ⟨rfl, rfl⟩
  by_cases hf : FewC ls
  · rw [decide_eq_true hf]
    have hn300 : n0 ≤ 300 := by rw [← HL.out]; exact hf.1
    have HS := Lib.hid hf.2.1
    clear hf
    by_cases h255 : 255 < n0
    · go_wp2
      go_ret
      exact ⟨rfl, hb1⟩
    · go_wp2_with fail
      refine (bWrite33_any a0 n0 c0 ls w1 hn300 HS.out (HP.out.later hb1)).mono ?_
      rintro e w2 ⟨a2, n2, c2, rfl, hl2, hn2, hnc2, hc2, hr2, hb2⟩
      rw [show segWE ls = 0 by unfold segWE; rw [if_neg (by rw [HL.out]; exact h255)]]
      have hB2 := hb1.trans (hb2.mono hb1.size)
      have hsb := seg_burst ls (by rw [HL.out]; omega) HS.out at' pat
      clear hb1 hb2
      generalize segWL ls = X at *
      obtain ⟨Y, hY⟩ : ∃ Y, burstL X at' pat = Y := ⟨_, rfl⟩
      rw [hY] at hsb
      have HY := Lib.hid hY
      have HLX := Lib.hid hl2
      clear hY hl2
      go_wp2_with fail
      refine (crcBurst_any a2 n2 c2 X at' pat w2 HLX.out (by omega) hr2 ha.1 ha.2 hpt).mono ?_
      rw [HY.out]
      rintro e w3 ⟨a3, c3, rfl, hown3, hb3⟩
      have hB3 := hB2.trans (hb3.mono hB2.size)
      have hr3 := hr2.below hb3
      clear hB2 hb3 hr2
      go_wp2_with fail
      refine (bRead33_any a3 n2 c3 Y 16777216 w3 hown3.len (by omega) hown3.le_cap hown3.cap_max hown3.rd (by omega)).mono ?_
      rintro e w4 ⟨a4, n4, c4, rfl, hn4, -, hb4⟩
      have hB4 := hB3.trans (hb4.mono hB3.size)
      have HRX := Lib.hid (hr3.below hb4)
      have HRY := Lib.hid (hown3.rd.below hb4)
      have HLY := Lib.hid hown3.len
      have HB4 := Lib.hid hB4
      clear hB3 hb4 hr3 hown3 hB4
      obtain ⟨E, hE⟩ : ∃ E, segE Y 16777216 = E := ⟨_, rfl⟩
      rw [hE] at hsb ⊢
      have hcase : ∃ HB9 : Bool, (Y != X) = HB9 ∧ (E == 7) = HB9 := by
        rcases hsb with ⟨h1, h2⟩ | ⟨h1, h2⟩
        · exact ⟨false, by rw [h1]; exact bne_self_eq_false _, by rw [h2]; rfl⟩
        · exact ⟨true, bne_iff_ne.2 h1, by rw [h2]; rfl⟩
      obtain ⟨HB9, hne, heq⟩ := hcase
      have HNE := Lib.hid hne
      clear hsb hE hne
      go_wp2_with fail
      refine wp_region_grow (by kernel_rfl) (by kernel_rfl) (by rfl) ?_
      apply gw_val
      · intro a' w' hk
        refine ⟨wanted_none rfl, ?_⟩
        simp [Oper.looksAt, Op.operands, Call.operands, KnownAt, List.lookup, consD] at hk
        simp [execOp, Act.eval, hk, go_sem]
        all_goals rfl
      refine gw_str Try.underlying26 Try.underlying5 Try.underlying9 38 (Y) rfl (fun a' w' hb hk => ?_) ?_
      · exact ⟨wanted_none rfl, _, _, _, by simpa [KnownAt, List.lookup, consD] using hk 38 (by decide), HLY.out, (HRY.out.drew.later hb)⟩
      apply gw_val
      · intro a' w' hk
        refine ⟨wanted_none rfl, ?_⟩
        simp [Oper.looksAt, Op.operands, Call.operands, KnownAt, List.lookup, consD] at hk
        simp [execOp, Act.eval, hk, go_sem]
        all_goals rfl
      apply gw_val
      · intro a' w' hk
        refine ⟨wanted_none rfl, ?_⟩
        simp [Oper.looksAt, Op.operands, Call.operands, KnownAt, List.lookup, consD] at hk
        simp [execOp, Act.eval, hk, go_sem]
        all_goals rfl
      apply gw_val
      · intro a' w' hk
        refine ⟨wanted_none rfl, ?_⟩
        simp [Oper.looksAt, Op.operands, Call.operands, KnownAt, List.lookup, consD] at hk
        simp [execOp, Act.eval, hk, go_sem]
        all_goals rfl
      refine gw_call _ #[.slice a2 n2 c2, .int .i64 at', .int .u32 pat] (BytesG Y) (mono_bytes _) (fun a' w' hk => ?_) (fun w' hb => (rBurst_any a2 n2 c2 X at' pat w' HLX.out (by omega) (HRX.out.drew.later hb) ha.1 ha.2 hpt).mono ?_) ?_
      · refine ⟨wanted_none rfl, ?_⟩
        simp [Oper.looksAt, Op.operands, Call.operands, KnownAt, List.lookup, consD] at hk
        simp [execOp, Act.eval, hk, go_sem]
        all_goals rfl
      · rw [HY.out]
        rintro e w'' ⟨p, q, r, rfl, hown, hB⟩
        exact ⟨_, rfl, ⟨p, q, r, rfl, hown.len, hown.rd⟩, hB⟩
      refine gw_str Try.underlying26 Try.underlying5 Try.underlying9 43 (Y) rfl (fun a' w' hb hk => ?_) ?_
      · exact ⟨wanted_none rfl, by simpa [KnownAt, List.lookup, consD] using hk 43 (by decide)⟩
      apply gw_val
      · intro a' w' hk
        refine ⟨wanted_none rfl, ?_⟩
        simp [Oper.looksAt, Op.operands, Call.operands, KnownAt, List.lookup, consD] at hk
        simp [execOp, Act.eval, hk, go_sem]
        all_goals rfl
      apply gw_val
      · intro a' w' hk
        refine ⟨wanted_none rfl, ?_⟩
        simp [Oper.looksAt, Op.operands, Call.operands, KnownAt, List.lookup, consD] at hk
        simp [execOp, Act.eval, hk, go_sem]
        all_goals rfl
      apply gw_val
      · intro a' w' hk
        refine ⟨wanted_guard (t := 46) rfl rfl (by simpa [KnownAt, List.lookup, consD] using hk 46 (by decide)), ?_⟩
        simp [Oper.looksAt, Op.operands, Call.operands, KnownAt, List.lookup, consD] at hk
        simp [execOp, Act.eval, hk, go_sem]
        all_goals rfl
      apply gw_val
      · intro a' w' hk
        refine ⟨wanted_guard (t := 46) rfl rfl (by simpa [KnownAt, List.lookup, consD] using hk 46 (by decide)), ?_⟩
        simp [Oper.looksAt, Op.operands, Call.operands, KnownAt, List.lookup, consD] at hk
        simp [execOp, Act.eval, hk, go_sem]
        all_goals rfl
      apply gw_val
      · intro a' w' hk
        refine ⟨wanted_guard (t := 46) rfl rfl (by simpa [KnownAt, List.lookup, consD] using hk 46 (by decide)), ?_⟩
        simp [Oper.looksAt, Op.operands, Call.operands, KnownAt, List.lookup, consD] at hk
        simp [execOp, Act.eval, hk, go_sem]
        all_goals rfl
      apply gw_val
      · intro a' w' hk
        refine ⟨wanted_guard (t := 46) rfl rfl (by simpa [KnownAt, List.lookup, consD] using hk 46 (by decide)), ?_⟩
        simp [Oper.looksAt, Op.operands, Call.operands, KnownAt, List.lookup, consD] at hk
        simp [execOp, Act.eval, hk, go_sem]
        all_goals rfl
      apply gw_val
      · intro a' w' hk
        refine ⟨wanted_guard (t := 46) rfl rfl (by simpa [KnownAt, List.lookup, consD] using hk 46 (by decide)), ?_⟩
        simp [Oper.looksAt, Op.operands, Call.operands, KnownAt, List.lookup, consD] at hk
        simp [execOp, Act.eval, hk, go_sem]
        all_goals rfl
      refine gw_call _ #[.slice a2 n2 c2, .int .i64 at', .int .u32 pat] (fun x _ => x = .bool HB9) (mono_eq _) (fun a' w' hk => ?_) (fun w' hb => (rHits_any a2 n2 c2 X at' pat w' HLX.out (by omega) (HRX.out.drew.later hb) ha.1 ha.2 hpt).mono ?_) ?_
      · refine ⟨wanted_guard (t := 46) rfl rfl (by simpa [KnownAt, List.lookup, consD] using hk 46 (by decide)), ?_⟩
        simp [Oper.looksAt, Op.operands, Call.operands, KnownAt, List.lookup, consD] at hk
        simp [execOp, Act.eval, hk, go_sem]
        all_goals rfl
      · rw [HY.out, HNE.out]
        rintro e w'' ⟨rfl, hB⟩
        exact ⟨_, rfl, rfl, hB⟩
      apply gw_val
      · intro a' w' hk
        refine ⟨wanted_guard (t := 46) rfl rfl (by simpa [KnownAt, List.lookup, consD] using hk 46 (by decide)), ?_⟩
        simp [Oper.looksAt, Op.operands, Call.operands, KnownAt, List.lookup, consD] at hk
        simp [execOp, Act.eval, hk, go_sem]
        all_goals rfl
      apply gw_val
      · intro a' w' hk
        refine ⟨wanted_none rfl, ?_⟩
        simp [Oper.looksAt, Op.operands, Call.operands, KnownAt, List.lookup, consD] at hk
        simp [execOp, Act.eval, hk, go_sem]
        all_goals rfl
      apply gw_val
      · intro a' w' hk
        refine ⟨wanted_none rfl, ?_⟩
        simp [Oper.looksAt, Op.operands, Call.operands, KnownAt, List.lookup, consD] at hk
        simp [execOp, Act.eval, hk, go_sem]
        all_goals rfl
      intro vs w9 hb9 hall
      simp only [AllS, consD] at hall
      simp only [consD, putAllS, Act.put]
      obtain ⟨h4, -⟩ := hall
      rw [h4]
      simp only [List.setIfInBounds_toArray, List.set_cons_succ, List.set_cons_zero]
      have hB9 : Below w.heap.size w w9 := HB4.out.trans ((((Below.refl w4.heap.size w4).drew).trans hb9).mono HB4.out.size)
      clear h4
      go_wp2
      go_ret
      exact ⟨ret_bool (by rw [heq]; simp), hB9⟩
  · rw [decide_eq_false hf]
    clear hf
    go_wp2
    go_ret
    exact ⟨rfl, hb1⟩
end Go.Proofs.Ytnmdgmjheopolaa
