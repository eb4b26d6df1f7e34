/- The walk of BhsdCodings. -/
import Derived.Test.YtnmdgmjheopolaaBhsP
namespace Go.Proofs.Ytnmdgmjheopolaa
open Go.RowKit
set_option linter.unusedVariables false
set_option linter.unusedSimpArgs false

theorem str7 (B : List UInt8) : (⟨#[7]⟩ : ByteArray) ++ strOf B = strOf (7 :: B) := by
  apply ByteArray.ext
  simp [strOf]
theorem drew_later9 {w w' : World} (h : Below w.drew.heap.size w.drew w') : Below w.heap.size w w' := ((Below.refl w.heap.size w).drew).trans h
set_option maxHeartbeats 16000000 in
set_option maxRecDepth 100000 in
theorem walkBhsdCodings (b h s d v : Int) (w : World) (hb0 : In64 b) (hh0 : In64 h) (hs0 : In64 s) (hd0 : In64 d) (hv0 : In64 v) :
    Calls Try.prog 3 #[.agg #[.int .i64 b, .int .i64 h, .int .i64 s, .int .i64 d], .int .i64 v] w fun e w' => e = .returned (.bool true) ∧ Below w.heap.size w w' := by
  have hBa := below_alloc w (.cells #[.int .i64 b, .int .i64 h, .int .i64 s, .int .i64 d] 23)
  have hblk0 := Blk.new w 23 #[.int .i64 b, .int .i64 h, .int .i64 s, .int .i64 d]
  go_enter Try.func3, Try.ntmps3
  go_wp2_with fail
  refine (fixed24_any _).mono ?_
  rintro e w1 ⟨rfl, hb1⟩
  have hblk1 := hblk0.below hb1
  have hB1 := hBa.trans (hb1.mono hBa.size)
  have hs1 : w.heap.size < w1.heap.size := hblk1.lt
  clear hBa hblk0 hb1
  obtain ⟨hc0, hc1, hc2, hc3⟩ := hblk1.four
  go_wp2_with fail
  refine (rRight_any b h s d w1 hb0 hh0 hs0 hd0).mono ?_
  rintro e w2 ⟨rfl, hb2⟩
  have hblk2 := hblk1.below hb2
  have hB2 := hB1.trans (hb2.mono hB1.size)
  clear hc0 hc1 hc2 hc3 hblk1 hB1 hb2 hs1
  obtain ⟨hc0, hc1, hc2, hc3⟩ := hblk2.four
  have hs2 : w.heap.size < w2.heap.size := hblk2.lt
  by_cases hR : RightC b h s d
  · rw [decide_eq_true hR]
    have HD := Lib.hid (decide_eq_true hR)
    have HR := Lib.hid hR
    have HBR : Hid (1 ≤ b ∧ b ≤ 5) := Lib.hid ⟨hR.1, hR.2.1⟩
    have HHR : Hid (2 ≤ h ∧ h ≤ 256) := Lib.hid ⟨hR.2.2.1, hR.2.2.2.1⟩
    have HS : Hid (0 ≤ s ∧ s ≤ 2) := Lib.hid ⟨hR.2.2.2.2.1, hR.2.2.2.2.2.1⟩
    clear hR
    go_wp2_with fail
    refine (bPut_any _ 1 1 [7] b h s d v _ rfl (by decide) (rd_new w2 _ _ _ _ rfl) hb0 hh0 hs0 hd0).mono ?_
    rintro e w3 ⟨a3, n3, c3, rfl, hl3, hn3, hr3, hb3⟩
    have hb3' := below_trans0 (below_alloc w2 (.cells #[Value.int IntKind.u8 7] 5)) (by simp) hb3
    have hblk3 := hblk2.below hb3'
    have hB3 := hB2.trans (hb3'.mono hB2.size)
    clear hc0 hc1 hc2 hc3 hblk2 hB2 hb3 hb3' hs2
    obtain ⟨hc0, hc1, hc2, hc3⟩ := hblk3.four
    have hs3 : w.heap.size < w3.heap.size := hblk3.lt
    by_cases hF : FitsC b h s d (plainC s v)
    · have e1 : putErr b h s d v = 0 := by unfold putErr; rw [if_pos HR.out, if_pos hF]
      have e2 : putRes [7] b h s d v = 7 :: bytesC b h (plainC s v) := by unfold putRes; rw [if_pos hF]; rfl
      have HF := Lib.hid (decide_eq_true hF)
      have HUR : Hid (0 ≤ plainC s v ∧ plainC s v ≤ 4294967296) := Lib.hid ⟨hF.2.1, by have := hF.2.2; have := reachC_range b h HHR.out; omega⟩
      have hok : plainOk v := by
        by_cases hok : plainOk v
        · exact hok
        · have := hF.2.1
          unfold plainC at this; unfold plainOk at hok
          rw [if_pos (by omega)] at this; omega
      have HOK := Lib.hid hok
      rw [e1]
      rw [e2] at hl3 hr3
      clear e1 e2 hF hok
      go_wp2_with fail
      refine (rFits_any b h s d v w3 hb0 hh0 hs0 hd0).mono ?_
      rw [HF.out]
      rintro e w4 ⟨rfl, hb4⟩
      have hblk4 := hblk3.below hb4
      have hB4 := hB3.trans (hb4.mono hB3.size)
      have hr4 := hr3.below hb4
      clear hc0 hc1 hc2 hc3 hblk3 hB3 hb4 hs3 hr3
      obtain ⟨hc0, hc1, hc2, hc3⟩ := hblk4.four
      go_wp2_with fail
      refine (rPlain_any b h s d v w4 HS.out).mono ?_
      rw [if_pos HOK.out, decide_eq_true HOK.out]
      rintro e w5 ⟨rfl, hb5⟩
      have hblk5 := hblk4.below hb5
      have hB5 := hB4.trans (hb5.mono hB4.size)
      have hr5 := hr4.below hb5
      clear hc0 hc1 hc2 hc3 hblk4 hB4 hb5 hr4
      have HC := Lib.hid hblk5.four
      have HBX := Lib.hid hB5
      have HL7 := Lib.hid hl3
      have HR7 := Lib.hid hr5
      clear hblk5 hB5 hl3 hr5
      obtain ⟨B, hBB⟩ : ∃ B, bytesC b h (plainC s v) = B := ⟨_, rfl⟩
      have HB := Lib.hid hBB
      clear hBB
      rw [HB.out] at HL7 HR7
      obtain ⟨u, hue⟩ : ∃ u, plainC s v = u := ⟨_, rfl⟩
      have HUE := Lib.hid hue
      rw [hue] at HF HUR HB ⊢
      clear hue
      go_wp2_with fail
      refine wp_region_grow (by kernel_rfl) (by kernel_rfl) (by rfl) ?_
      refine gw_valB (fun x _ => x = .agg #[.int .i64 b, .int .i64 h, .int .i64 s, .int .i64 d]) (mono_eq _) ?_ ?_
      · intro a' w' hb' hk
        refine ⟨wanted_none rfl, _, ?_, rfl⟩
        have hc0 := cell_later2 HC.out.1 hb'
        have hc1 := cell_later2 HC.out.2.1 hb'
        have hc2 := cell_later2 HC.out.2.2.1 hb'
        have hc3 := cell_later2 HC.out.2.2.2 hb'
        simp [Oper.looksAt, Op.operands, Call.operands, KnownAt, List.lookup, consD] at hk
        simp [execOp, Act.eval, hk, hc0, hc1, hc2, hc3, go_sem]
        all_goals rfl
      refine gw_call _ #[.agg #[.int .i64 b, .int .i64 h, .int .i64 s, .int .i64 d]] (fun x _ => x = .bool true) (mono_eq _) (fun a' w' hk => ?_) (fun w' hb => (bRight_any b h s d w' hb0 hh0 hs0 hd0).mono ?_) ?_
      · refine ⟨wanted_none rfl, ?_⟩
        simp [Oper.looksAt, Op.operands, Call.operands, KnownAt, List.lookup, consD] at hk
        simp [execOp, Act.eval, hk, go_sem]
        all_goals rfl
      · rintro e w'' ⟨rfl, hB⟩
        exact ⟨_, rfl, by rw [HD.out], hB⟩
      apply gw_val
      · intro a' w' hk
        refine ⟨wanted_none rfl, ?_⟩
        simp [Oper.looksAt, Op.operands, Call.operands, KnownAt, List.lookup, consD] at hk
        simp [execOp, Act.eval, hk, go_sem]
        all_goals rfl
      refine gw_valB (fun x _ => x = .agg #[.int .i64 b, .int .i64 h, .int .i64 s, .int .i64 d]) (mono_eq _) ?_ ?_
      · intro a' w' hb' hk
        refine ⟨wanted_guard (t := 83) rfl rfl (by simpa [KnownAt, List.lookup, consD] using hk 83 (by decide)), _, ?_, rfl⟩
        have hc0 := cell_later2 HC.out.1 hb'
        have hc1 := cell_later2 HC.out.2.1 hb'
        have hc2 := cell_later2 HC.out.2.2.1 hb'
        have hc3 := cell_later2 HC.out.2.2.2 hb'
        simp [Oper.looksAt, Op.operands, Call.operands, KnownAt, List.lookup, consD] at hk
        simp [execOp, Act.eval, hk, hc0, hc1, hc2, hc3, go_sem]
        all_goals rfl
      refine gw_call _ #[.agg #[.int .i64 b, .int .i64 h, .int .i64 s, .int .i64 d]] (fun x _ => x = .int .i64 (reachC b h)) (mono_eq _) (fun a' w' hk => ?_) (fun w' hb => (bReach_any b h s d w' hb0 hh0 hs0 hd0).mono ?_) ?_
      · refine ⟨wanted_guard (t := 83) rfl rfl (by simpa [KnownAt, List.lookup, consD] using hk 83 (by decide)), ?_⟩
        simp [Oper.looksAt, Op.operands, Call.operands, KnownAt, List.lookup, consD] at hk
        simp [execOp, Act.eval, hk, go_sem]
        all_goals rfl
      · rintro e w'' ⟨rfl, hB⟩
        exact ⟨_, rfl, by rw [if_pos HR.out], hB⟩
      refine gw_valB (fun x _ => x = .agg #[.int .i64 b, .int .i64 h, .int .i64 s, .int .i64 d]) (mono_eq _) ?_ ?_
      · intro a' w' hb' hk
        refine ⟨wanted_guard (t := 83) rfl rfl (by simpa [KnownAt, List.lookup, consD] using hk 83 (by decide)), _, ?_, rfl⟩
        have hc0 := cell_later2 HC.out.1 hb'
        have hc1 := cell_later2 HC.out.2.1 hb'
        have hc2 := cell_later2 HC.out.2.2.1 hb'
        have hc3 := cell_later2 HC.out.2.2.2 hb'
        simp [Oper.looksAt, Op.operands, Call.operands, KnownAt, List.lookup, consD] at hk
        simp [execOp, Act.eval, hk, hc0, hc1, hc2, hc3, go_sem]
        all_goals rfl
      refine gw_call _ #[.agg #[.int .i64 b, .int .i64 h, .int .i64 s, .int .i64 d]] (fun x _ => x = .int .i64 (reachC b h)) (mono_eq _) (fun a' w' hk => ?_) (fun w' hb => (rReach_any b h s d w' HR.out).mono ?_) ?_
      · refine ⟨wanted_guard (t := 83) rfl rfl (by simpa [KnownAt, List.lookup, consD] using hk 83 (by decide)), ?_⟩
        simp [Oper.looksAt, Op.operands, Call.operands, KnownAt, List.lookup, consD] at hk
        simp [execOp, Act.eval, hk, go_sem]
        all_goals rfl
      · rintro e w'' ⟨rfl, hB⟩
        exact ⟨_, rfl, rfl, hB⟩
      apply gw_val
      · intro a' w' hk
        refine ⟨wanted_guard (t := 83) rfl rfl (by simpa [KnownAt, List.lookup, consD] using hk 83 (by decide)), ?_⟩
        simp [Oper.looksAt, Op.operands, Call.operands, KnownAt, List.lookup, consD] at hk
        simp [execOp, Act.eval, hk, go_sem]
        all_goals rfl
      apply gw_val
      · intro a' w' hk
        refine ⟨wanted_none rfl, ?_⟩
        simp [Oper.looksAt, Op.operands, Call.operands, KnownAt, List.lookup, consD] at hk
        simp [execOp, Act.eval, hk, go_sem]
        all_goals rfl
      apply gw_val
      · intro a' w' hk
        refine ⟨wanted_none rfl, ?_⟩
        simp [Oper.looksAt, Op.operands, Call.operands, KnownAt, List.lookup, consD] at hk
        simp [execOp, Act.eval, hk, go_sem]
        all_goals rfl
      refine gw_valB (fun x _ => x = .agg #[.int .i64 b, .int .i64 h, .int .i64 s, .int .i64 d]) (mono_eq _) ?_ ?_
      · intro a' w' hb' hk
        refine ⟨wanted_guard (t := 90) rfl rfl (by simpa [KnownAt, List.lookup, consD] using hk 90 (by decide)), _, ?_, rfl⟩
        have hc0 := cell_later2 HC.out.1 hb'
        have hc1 := cell_later2 HC.out.2.1 hb'
        have hc2 := cell_later2 HC.out.2.2.1 hb'
        have hc3 := cell_later2 HC.out.2.2.2 hb'
        simp [Oper.looksAt, Op.operands, Call.operands, KnownAt, List.lookup, consD] at hk
        simp [execOp, Act.eval, hk, hc0, hc1, hc2, hc3, go_sem]
        all_goals rfl
      apply gw_val
      · intro a' w' hk
        refine ⟨wanted_guard (t := 90) rfl rfl (by simpa [KnownAt, List.lookup, consD] using hk 90 (by decide)), ?_⟩
        simp [Oper.looksAt, Op.operands, Call.operands, KnownAt, List.lookup, consD] at hk
        simp [execOp, Act.eval, hk, go_sem]
        all_goals rfl
      refine gw_call _ #[.agg #[.int .i64 b, .int .i64 h, .int .i64 s, .int .i64 d], .int .i64 v] (fun x _ => x = .bool true) (mono_eq _) (fun a' w' hk => ?_) (fun w' hb => (bFits_right b h s d v w' HR.out).mono ?_) ?_
      · refine ⟨wanted_guard (t := 90) rfl rfl (by simpa [KnownAt, List.lookup, consD] using hk 90 (by decide)), ?_⟩
        simp [Oper.looksAt, Op.operands, Call.operands, KnownAt, List.lookup, consD] at hk
        simp [execOp, Act.eval, hk, go_sem]
        all_goals rfl
      · rintro e w'' ⟨rfl, hB⟩
        exact ⟨_, rfl, by rw [HUE.out, HF.out], hB⟩
      apply gw_val
      · intro a' w' hk
        refine ⟨wanted_none rfl, ?_⟩
        simp [Oper.looksAt, Op.operands, Call.operands, KnownAt, List.lookup, consD] at hk
        simp [execOp, Act.eval, hk, go_sem]
        all_goals rfl
      apply gw_val
      · intro a' w' hk
        refine ⟨wanted_none rfl, ?_⟩
        simp [Oper.looksAt, Op.operands, Call.operands, KnownAt, List.lookup, consD] at hk
        simp [execOp, Act.eval, hk, go_sem]
        all_goals rfl
      apply gw_val
      · intro a' w' hk
        refine ⟨wanted_guard (t := 95) rfl rfl (by simpa [KnownAt, List.lookup, consD] using hk 95 (by decide)), ?_⟩
        simp [Oper.looksAt, Op.operands, Call.operands, KnownAt, List.lookup, consD] at hk
        simp [execOp, Act.eval, hk, go_sem]
        all_goals rfl
      apply gw_val
      · intro a' w' hk
        refine ⟨wanted_guard (t := 95) rfl rfl (by simpa [KnownAt, List.lookup, consD] using hk 95 (by decide)), ?_⟩
        simp [Oper.looksAt, Op.operands, Call.operands, KnownAt, List.lookup, consD] at hk
        simp [execOp, Act.eval, hk, go_sem]
        all_goals rfl
      apply gw_val
      · intro a' w' hk
        refine ⟨wanted_none rfl, ?_⟩
        simp [Oper.looksAt, Op.operands, Call.operands, KnownAt, List.lookup, consD] at hk
        simp [execOp, Act.eval, hk, go_sem]
        all_goals rfl
      apply gw_val
      · intro a' w' hk
        refine ⟨wanted_none rfl, ?_⟩
        simp [Oper.looksAt, Op.operands, Call.operands, KnownAt, List.lookup, consD] at hk
        simp [execOp, Act.eval, hk, go_sem]
        all_goals rfl
      apply gw_val
      · intro a' w' hk
        refine ⟨wanted_guard (t := 99) rfl rfl (by simpa [KnownAt, List.lookup, consD] using hk 99 (by decide)), ?_⟩
        simp [Oper.looksAt, Op.operands, Call.operands, KnownAt, List.lookup, consD] at hk
        simp [execOp, Act.eval, hk, go_sem]
        all_goals rfl
      refine gw_str Try.underlying26 Try.underlying5 Try.underlying9 100 (7 :: B) rfl (fun a' w' hb hk => ?_) ?_
      · exact ⟨wanted_guard (t := 99) rfl rfl (by simpa [KnownAt, List.lookup, consD] using hk 99 (by decide)), _, _, _, by simpa [KnownAt, List.lookup, consD] using hk 100 (by decide), HL7.out, HR7.out.drew.later hb⟩
      refine gw_valB (fun x _ => x = .agg #[.int .i64 b, .int .i64 h, .int .i64 s, .int .i64 d]) (mono_eq _) ?_ ?_
      · intro a' w' hb' hk
        refine ⟨wanted_guard (t := 99) rfl rfl (by simpa [KnownAt, List.lookup, consD] using hk 99 (by decide)), _, ?_, rfl⟩
        have hc0 := cell_later2 HC.out.1 hb'
        have hc1 := cell_later2 HC.out.2.1 hb'
        have hc2 := cell_later2 HC.out.2.2.1 hb'
        have hc3 := cell_later2 HC.out.2.2.2 hb'
        simp [Oper.looksAt, Op.operands, Call.operands, KnownAt, List.lookup, consD] at hk
        simp [execOp, Act.eval, hk, hc0, hc1, hc2, hc3, go_sem]
        all_goals rfl
      apply gw_val
      · intro a' w' hk
        refine ⟨wanted_guard (t := 99) rfl rfl (by simpa [KnownAt, List.lookup, consD] using hk 99 (by decide)), ?_⟩
        simp [Oper.looksAt, Op.operands, Call.operands, KnownAt, List.lookup, consD] at hk
        simp [execOp, Act.eval, hk, go_sem]
        all_goals rfl
      refine gw_call _ #[.agg #[.int .i64 b, .int .i64 h, .int .i64 s, .int .i64 d], .int .i64 u] (BytesG B) (mono_bytes _) (fun a' w' hk => ?_) (fun w' hb => (rBytes_any b h s d u w' HBR.out HHR.out HUR.out).mono ?_) ?_
      · refine ⟨wanted_guard (t := 99) rfl rfl (by simpa [KnownAt, List.lookup, consD] using hk 99 (by decide)), ?_⟩
        simp [Oper.looksAt, Op.operands, Call.operands, KnownAt, List.lookup, consD] at hk
        simp [execOp, Act.eval, hk, go_sem]
        all_goals rfl
      · rw [HB.out]
        rintro e w'' ⟨p, q, r, rfl, -, hown, hB⟩
        exact ⟨_, rfl, ⟨p, q, r, rfl, hown.len, hown.rd⟩, hB⟩
      refine gw_str Try.underlying26 Try.underlying5 Try.underlying9 104 (B) rfl (fun a' w' hb hk => ?_) ?_
      · exact ⟨wanted_guard (t := 99) rfl rfl (by simpa [KnownAt, List.lookup, consD] using hk 99 (by decide)), by simpa [KnownAt, List.lookup, consD] using hk 104 (by decide)⟩
      refine gw_val (.string (strOf (7 :: B))) ?_ ?_
      · intro a' w' hk
        refine ⟨wanted_guard (t := 99) rfl rfl (by simpa [KnownAt, List.lookup, consD] using hk 99 (by decide)), ?_⟩
        simp [Oper.looksAt, Op.operands, Call.operands, KnownAt, List.lookup, consD] at hk
        have hsz : (strOf B).size ≤ 10 := by
          have h5 := HL7.out
          rw [List.length_cons] at h5
          have h6 : (strOf B).size = B.length := by simp [strOf, ByteArray.size]
          omega
        simp [execOp, Act.eval, hk, go_sem, str7]
        all_goals first | rfl | omega
      apply gw_val
      · intro a' w' hk
        refine ⟨wanted_guard (t := 99) rfl rfl (by simpa [KnownAt, List.lookup, consD] using hk 99 (by decide)), ?_⟩
        simp [Oper.looksAt, Op.operands, Call.operands, KnownAt, List.lookup, consD] at hk
        simp [execOp, Act.eval, hk, go_sem]
        all_goals rfl
      apply gw_val
      · intro a' w' hk
        refine ⟨wanted_none rfl, ?_⟩
        simp [Oper.looksAt, Op.operands, Call.operands, KnownAt, List.lookup, consD] at hk
        simp [execOp, Act.eval, hk, go_sem]
        all_goals rfl
      apply gw_val
      · intro a' w' hk
        refine ⟨wanted_none rfl, ?_⟩
        simp [Oper.looksAt, Op.operands, Call.operands, KnownAt, List.lookup, consD] at hk
        simp [execOp, Act.eval, hk, go_sem]
        all_goals rfl
      intro vs w9 hb9 hall
      simp only [AllS, consD] at hall
      simp only [consD, putAllS, Act.put]
      obtain ⟨h4, -⟩ := hall
      rw [h4]
      simp only [List.setIfInBounds_toArray, List.set_cons_succ, List.set_cons_zero]
      clear h4
      go_wp2
      go_ret
      exact ⟨rfl, HBX.out.trans ((drew_later9 hb9).mono HBX.out.size)⟩
    · have e1 : putErr b h s d v = 5 := by unfold putErr; rw [if_pos HR.out, if_neg hF]
      have e2 : putRes [7] b h s d v = [] := by unfold putRes; rw [if_neg hF]
      have HF := Lib.hid (decide_eq_false hF)
      rw [e1]
      rw [e2] at hl3
      have hn0 : n3 = 0 := by simpa using hl3.symm
      subst hn0
      clear e1 e2 hF hl3 hr3
      go_wp2_with fail
      refine (rFits_any b h s d v w3 hb0 hh0 hs0 hd0).mono ?_
      rw [HF.out]
      rintro e w4 ⟨rfl, hb4⟩
      have hblk4 := hblk3.below hb4
      have hB4 := hB3.trans (hb4.mono hB3.size)
      clear hc0 hc1 hc2 hc3 hblk3 hB3 hb4 hs3
      have HC := Lib.hid hblk4.four
      have HBX := Lib.hid hB4
      clear hblk4 hB4
      go_wp2_with fail
      refine wp_region_grow (by kernel_rfl) (by kernel_rfl) (by rfl) ?_
      refine gw_valB (fun x _ => x = .agg #[.int .i64 b, .int .i64 h, .int .i64 s, .int .i64 d]) (mono_eq _) ?_ ?_
      · intro a' w' hb' hk
        refine ⟨wanted_none rfl, _, ?_, rfl⟩
        have hc0 := cell_later2 HC.out.1 hb'
        have hc1 := cell_later2 HC.out.2.1 hb'
        have hc2 := cell_later2 HC.out.2.2.1 hb'
        have hc3 := cell_later2 HC.out.2.2.2 hb'
        simp [Oper.looksAt, Op.operands, Call.operands, KnownAt, List.lookup, consD] at hk
        simp [execOp, Act.eval, hk, hc0, hc1, hc2, hc3, go_sem]
        all_goals rfl
      refine gw_call _ #[.agg #[.int .i64 b, .int .i64 h, .int .i64 s, .int .i64 d]] (fun x _ => x = .bool true) (mono_eq _) (fun a' w' hk => ?_) (fun w' hb => (bRight_any b h s d w' hb0 hh0 hs0 hd0).mono ?_) ?_
      · refine ⟨wanted_none rfl, ?_⟩
        simp [Oper.looksAt, Op.operands, Call.operands, KnownAt, List.lookup, consD] at hk
        simp [execOp, Act.eval, hk, go_sem]
        all_goals rfl
      · rintro e w'' ⟨rfl, hB⟩
        exact ⟨_, rfl, by rw [HD.out], hB⟩
      apply gw_val
      · intro a' w' hk
        refine ⟨wanted_none rfl, ?_⟩
        simp [Oper.looksAt, Op.operands, Call.operands, KnownAt, List.lookup, consD] at hk
        simp [execOp, Act.eval, hk, go_sem]
        all_goals rfl
      refine gw_valB (fun x _ => x = .agg #[.int .i64 b, .int .i64 h, .int .i64 s, .int .i64 d]) (mono_eq _) ?_ ?_
      · intro a' w' hb' hk
        refine ⟨wanted_guard (t := 53) rfl rfl (by simpa [KnownAt, List.lookup, consD] using hk 53 (by decide)), _, ?_, rfl⟩
        have hc0 := cell_later2 HC.out.1 hb'
        have hc1 := cell_later2 HC.out.2.1 hb'
        have hc2 := cell_later2 HC.out.2.2.1 hb'
        have hc3 := cell_later2 HC.out.2.2.2 hb'
        simp [Oper.looksAt, Op.operands, Call.operands, KnownAt, List.lookup, consD] at hk
        simp [execOp, Act.eval, hk, hc0, hc1, hc2, hc3, go_sem]
        all_goals rfl
      refine gw_call _ #[.agg #[.int .i64 b, .int .i64 h, .int .i64 s, .int .i64 d]] (fun x _ => x = .int .i64 (reachC b h)) (mono_eq _) (fun a' w' hk => ?_) (fun w' hb => (bReach_any b h s d w' hb0 hh0 hs0 hd0).mono ?_) ?_
      · refine ⟨wanted_guard (t := 53) rfl rfl (by simpa [KnownAt, List.lookup, consD] using hk 53 (by decide)), ?_⟩
        simp [Oper.looksAt, Op.operands, Call.operands, KnownAt, List.lookup, consD] at hk
        simp [execOp, Act.eval, hk, go_sem]
        all_goals rfl
      · rintro e w'' ⟨rfl, hB⟩
        exact ⟨_, rfl, by rw [if_pos HR.out], hB⟩
      refine gw_valB (fun x _ => x = .agg #[.int .i64 b, .int .i64 h, .int .i64 s, .int .i64 d]) (mono_eq _) ?_ ?_
      · intro a' w' hb' hk
        refine ⟨wanted_guard (t := 53) rfl rfl (by simpa [KnownAt, List.lookup, consD] using hk 53 (by decide)), _, ?_, rfl⟩
        have hc0 := cell_later2 HC.out.1 hb'
        have hc1 := cell_later2 HC.out.2.1 hb'
        have hc2 := cell_later2 HC.out.2.2.1 hb'
        have hc3 := cell_later2 HC.out.2.2.2 hb'
        simp [Oper.looksAt, Op.operands, Call.operands, KnownAt, List.lookup, consD] at hk
        simp [execOp, Act.eval, hk, hc0, hc1, hc2, hc3, go_sem]
        all_goals rfl
      refine gw_call _ #[.agg #[.int .i64 b, .int .i64 h, .int .i64 s, .int .i64 d]] (fun x _ => x = .int .i64 (reachC b h)) (mono_eq _) (fun a' w' hk => ?_) (fun w' hb => (rReach_any b h s d w' HR.out).mono ?_) ?_
      · refine ⟨wanted_guard (t := 53) rfl rfl (by simpa [KnownAt, List.lookup, consD] using hk 53 (by decide)), ?_⟩
        simp [Oper.looksAt, Op.operands, Call.operands, KnownAt, List.lookup, consD] at hk
        simp [execOp, Act.eval, hk, go_sem]
        all_goals rfl
      · rintro e w'' ⟨rfl, hB⟩
        exact ⟨_, rfl, rfl, hB⟩
      apply gw_val
      · intro a' w' hk
        refine ⟨wanted_guard (t := 53) rfl rfl (by simpa [KnownAt, List.lookup, consD] using hk 53 (by decide)), ?_⟩
        simp [Oper.looksAt, Op.operands, Call.operands, KnownAt, List.lookup, consD] at hk
        simp [execOp, Act.eval, hk, go_sem]
        all_goals rfl
      apply gw_val
      · intro a' w' hk
        refine ⟨wanted_none rfl, ?_⟩
        simp [Oper.looksAt, Op.operands, Call.operands, KnownAt, List.lookup, consD] at hk
        simp [execOp, Act.eval, hk, go_sem]
        all_goals rfl
      apply gw_val
      · intro a' w' hk
        refine ⟨wanted_none rfl, ?_⟩
        simp [Oper.looksAt, Op.operands, Call.operands, KnownAt, List.lookup, consD] at hk
        simp [execOp, Act.eval, hk, go_sem]
        all_goals rfl
      refine gw_valB (fun x _ => x = .agg #[.int .i64 b, .int .i64 h, .int .i64 s, .int .i64 d]) (mono_eq _) ?_ ?_
      · intro a' w' hb' hk
        refine ⟨wanted_guard (t := 60) rfl rfl (by simpa [KnownAt, List.lookup, consD] using hk 60 (by decide)), _, ?_, rfl⟩
        have hc0 := cell_later2 HC.out.1 hb'
        have hc1 := cell_later2 HC.out.2.1 hb'
        have hc2 := cell_later2 HC.out.2.2.1 hb'
        have hc3 := cell_later2 HC.out.2.2.2 hb'
        simp [Oper.looksAt, Op.operands, Call.operands, KnownAt, List.lookup, consD] at hk
        simp [execOp, Act.eval, hk, hc0, hc1, hc2, hc3, go_sem]
        all_goals rfl
      apply gw_val
      · intro a' w' hk
        refine ⟨wanted_guard (t := 60) rfl rfl (by simpa [KnownAt, List.lookup, consD] using hk 60 (by decide)), ?_⟩
        simp [Oper.looksAt, Op.operands, Call.operands, KnownAt, List.lookup, consD] at hk
        simp [execOp, Act.eval, hk, go_sem]
        all_goals rfl
      refine gw_call _ #[.agg #[.int .i64 b, .int .i64 h, .int .i64 s, .int .i64 d], .int .i64 v] (fun x _ => x = .bool false) (mono_eq _) (fun a' w' hk => ?_) (fun w' hb => (bFits_right b h s d v w' HR.out).mono ?_) ?_
      · refine ⟨wanted_guard (t := 60) rfl rfl (by simpa [KnownAt, List.lookup, consD] using hk 60 (by decide)), ?_⟩
        simp [Oper.looksAt, Op.operands, Call.operands, KnownAt, List.lookup, consD] at hk
        simp [execOp, Act.eval, hk, go_sem]
        all_goals rfl
      · rintro e w'' ⟨rfl, hB⟩
        exact ⟨_, rfl, by rw [HF.out], hB⟩
      apply gw_val
      · intro a' w' hk
        refine ⟨wanted_guard (t := 60) rfl rfl (by simpa [KnownAt, List.lookup, consD] using hk 60 (by decide)), ?_⟩
        simp [Oper.looksAt, Op.operands, Call.operands, KnownAt, List.lookup, consD] at hk
        simp [execOp, Act.eval, hk, go_sem]
        all_goals rfl
      apply gw_val
      · intro a' w' hk
        refine ⟨wanted_none rfl, ?_⟩
        simp [Oper.looksAt, Op.operands, Call.operands, KnownAt, List.lookup, consD] at hk
        simp [execOp, Act.eval, hk, go_sem]
        all_goals rfl
      apply gw_val
      · intro a' w' hk
        refine ⟨wanted_none rfl, ?_⟩
        simp [Oper.looksAt, Op.operands, Call.operands, KnownAt, List.lookup, consD] at hk
        simp [execOp, Act.eval, hk, go_sem]
        all_goals rfl
      apply gw_val
      · intro a' w' hk
        refine ⟨wanted_guard (t := 66) rfl rfl (by simpa [KnownAt, List.lookup, consD] using hk 66 (by decide)), ?_⟩
        simp [Oper.looksAt, Op.operands, Call.operands, KnownAt, List.lookup, consD] at hk
        simp [execOp, Act.eval, hk, go_sem]
        all_goals rfl
      apply gw_val
      · intro a' w' hk
        refine ⟨wanted_guard (t := 66) rfl rfl (by simpa [KnownAt, List.lookup, consD] using hk 66 (by decide)), ?_⟩
        simp [Oper.looksAt, Op.operands, Call.operands, KnownAt, List.lookup, consD] at hk
        simp [execOp, Act.eval, hk, go_sem]
        all_goals rfl
      apply gw_val
      · intro a' w' hk
        refine ⟨wanted_none rfl, ?_⟩
        simp [Oper.looksAt, Op.operands, Call.operands, KnownAt, List.lookup, consD] at hk
        simp [execOp, Act.eval, hk, go_sem]
        all_goals rfl
      apply gw_val
      · intro a' w' hk
        refine ⟨wanted_none rfl, ?_⟩
        simp [Oper.looksAt, Op.operands, Call.operands, KnownAt, List.lookup, consD] at hk
        simp [execOp, Act.eval, hk, go_sem]
        all_goals rfl
      apply gw_val
      · intro a' w' hk
        refine ⟨wanted_guard (t := 70) rfl rfl (by simpa [KnownAt, List.lookup, consD] using hk 70 (by decide)), ?_⟩
        simp [Oper.looksAt, Op.operands, Call.operands, KnownAt, List.lookup, consD] at hk
        simp [execOp, Act.eval, hk, go_sem]
        all_goals rfl
      apply gw_val
      · intro a' w' hk
        refine ⟨wanted_guard (t := 70) rfl rfl (by simpa [KnownAt, List.lookup, consD] using hk 70 (by decide)), ?_⟩
        simp [Oper.looksAt, Op.operands, Call.operands, KnownAt, List.lookup, consD] at hk
        simp [execOp, Act.eval, hk, go_sem]
        all_goals rfl
      apply gw_val
      · intro a' w' hk
        refine ⟨wanted_guard (t := 70) rfl rfl (by simpa [KnownAt, List.lookup, consD] using hk 70 (by decide)), ?_⟩
        simp [Oper.looksAt, Op.operands, Call.operands, KnownAt, List.lookup, consD] at hk
        simp [execOp, Act.eval, hk, go_sem]
        all_goals rfl
      apply gw_val
      · intro a' w' hk
        refine ⟨wanted_none rfl, ?_⟩
        simp [Oper.looksAt, Op.operands, Call.operands, KnownAt, List.lookup, consD] at hk
        simp [execOp, Act.eval, hk, go_sem]
        all_goals rfl
      apply gw_val
      · intro a' w' hk
        refine ⟨wanted_none rfl, ?_⟩
        simp [Oper.looksAt, Op.operands, Call.operands, KnownAt, List.lookup, consD] at hk
        simp [execOp, Act.eval, hk, go_sem]
        all_goals rfl
      intro vs w9 hb9 hall
      simp only [AllS, consD] at hall
      simp only [consD, putAllS, Act.put]
      obtain ⟨h4, -⟩ := hall
      rw [h4]
      simp only [List.setIfInBounds_toArray, List.set_cons_succ, List.set_cons_zero]
      clear h4
      go_wp2
      go_ret
      exact ⟨rfl, HBX.out.trans ((drew_later9 hb9).mono HBX.out.size)⟩
  · rw [decide_eq_false hR]
    have HD := Lib.hid (decide_eq_false hR)
    have HR := Lib.hid hR
    clear hR
    go_wp2_with fail
    refine (bPut_any none 0 0 [] b h s d v _ rfl (by decide) Rd.nil hb0 hh0 hs0 hd0).mono ?_
    rw [show putErr b h s d v = 1 by unfold putErr; rw [if_neg HR.out]]
    rintro e w3 ⟨a3, n3, c3, rfl, hl3, hn3, hr3, hb3⟩
    have hblk3 := hblk2.below hb3
    have hB3 := hB2.trans (hb3.mono hB2.size)
    clear hc0 hc1 hc2 hc3 hblk2 hB2 hb3 hs2 hl3 hr3
    obtain ⟨hc0, hc1, hc2, hc3⟩ := hblk3.four
    go_wp2_with fail
    refine (bRight_any b h s d w3 hb0 hh0 hs0 hd0).mono ?_
    rw [HD.out]
    rintro e w4 ⟨rfl, hb4⟩
    have hblk4 := hblk3.below hb4
    have hB4 := hB3.trans (hb4.mono hB3.size)
    clear hc0 hc1 hc2 hc3 hblk3 hB3 hb4
    obtain ⟨hc0, hc1, hc2, hc3⟩ := hblk4.four
    go_wp2_with fail
    refine (bReach_any b h s d w4 hb0 hh0 hs0 hd0).mono ?_
    rw [if_neg HR.out]
    rintro e w5 ⟨rfl, hb5⟩
    have hblk5 := hblk4.below hb5
    have hB5 := hB4.trans (hb5.mono hB4.size)
    clear hc0 hc1 hc2 hc3 hblk4 hB4 hb5
    obtain ⟨hc0, hc1, hc2, hc3⟩ := hblk5.four
    go_wp2_with fail
    refine (bFits_wrong b h s d v w5 hb0 hh0 hs0 hd0 HR.out).mono ?_
    rintro e w6 ⟨rfl, hb6⟩
    have hB6 := hB5.trans (hb6.mono hB5.size)
    clear hc0 hc1 hc2 hc3 hblk5 hB5 hb6
    go_wp2
    go_ret
    exact ⟨rfl, hB6⟩
end Go.Proofs.Ytnmdgmjheopolaa
