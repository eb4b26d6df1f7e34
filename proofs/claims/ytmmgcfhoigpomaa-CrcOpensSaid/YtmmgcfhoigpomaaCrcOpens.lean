/- The walk of CrcOpens. -/
import Derived.Test.YtmmgcfhoigpomaaFix03
import Derived.Test.YtmmgcfhoigpomaaRef03B
namespace Go.Proofs.Ytmmgcfhoigpomaa
open Go.RowKit
set_option linter.unusedVariables false
set_option linter.unusedSimpArgs false

set_option maxHeartbeats 8000000 in
set_option maxRecDepth 100000 in
theorem walkCrcOpens (a0 : Option Addr) (n0 c0 : Nat) (l0 : List UInt8) (w : World)
    (hl0 : l0.length = n0) (hm0 : n0 ≤ c0 ∧ c0 ≤ maxLen) (hr0 : Rd w byteV a0 l0) :
    Calls Try.prog 9 #[.slice a0 n0 c0] w fun e w' => e = .returned (.bool true) ∧ Below w.heap.size w w' := by
  have hcm := hm0.2
  unfold maxLen at hm0
  go_enter Try.func9, Try.ntmps9
  go_wp2_with fail
  refine (fixed03_any _).mono ?_
  rintro e w1 ⟨rfl, hb1⟩
  have hs1 := hb1.size
  by_cases h300 : n0 > 300
  · clear hr0
    go_wp2
    go_ret
    exact ⟨rfl, hb1⟩
  · have HR0 := Lib.hid hr0
    have HL0 := Lib.hid hl0
    have HCM := Lib.hid hcm
    clear hcm
    go_wp2_with fail
    refine (crcOpen_any a0 n0 c0 l0 w1 hl0 (by omega) hm0.1 HCM.out (hr0.below hb1)).mono ?_
    rintro e w2 ⟨a3, n3, c3, rfl, hown3, hb2⟩
    have hB2 := below_trans0 hb1 hs1 hb2
    have hr2 := hr0.below hB2
    obtain ⟨er, her⟩ : ∃ er, openEr l0 = er := ⟨_, rfl⟩
    rw [her]
    clear hb1 hs1 hb2 hr0
    go_wp2_with fail
    refine (crcSeal_any a0 n0 c0 l0 w2 hl0 (by omega) hr2).mono ?_
    rintro e w3 ⟨a7, n7, c7, rfl, hbuf, hb3⟩
    have hB3 := below_trans0 hB2 hB2.size hb3
    have hown3b := hown3.below hb3
    have hn7 := hbuf.len
    clear hB2 hr2 hb3 hown3
    go_wp2_with fail
    refine (crcOpen_any a7 n7 c7 (sealL l0) w3 hn7 (by rw [sealL_len] at hn7; omega) hbuf.le_cap hbuf.cap_max hbuf.rd).mono ?_
    rintro e w4 ⟨a5, n5, c5, rfl, hown5, hb4⟩
    rw [openEr_seal]
    rw [openL_seal] at hown5
    have hB4 := below_trans0 hB3 hB3.size hb4
    have hrx := (hown3b.below hb4).rd
    have hn3 := hown3b.len
    have HYN := Lib.hid hown5.len
    have HRY := Lib.hid hown5.rd
    have HB := Lib.hid hB4
    clear hown3b hbuf hn7 hB3 hb4 hown5 hB4
    go_wp2_with fail
    refine wp_region_grow (by kernel_rfl) (by kernel_rfl) (by rfl) ?_
    apply gw_val
    · intro a' w' hk
      refine ⟨wanted_none rfl, ?_⟩
      simp [Oper.looksAt, Op.operands, Call.operands, KnownAt, List.lookup, consD] at hk
      simp [execOp, Act.eval, hk, go_sem]
      all_goals rfl
    refine gw_call _ #[.slice a0 n0 c0] (BytesG (sealL l0)) (mono_bytes _) (fun a' w' hk => ?_) (fun w' hb => (crcSeal_any a0 n0 c0 l0 w' HL0.out (by omega) (HR0.out.later (HB.out.drew.trans (hb.mono HB.out.size)))).mono ?_) ?_
    · refine ⟨wanted_none rfl, ?_⟩
      simp [Oper.looksAt, Op.operands, Call.operands, KnownAt, List.lookup, consD] at hk
      simp [execOp, Act.eval, hk, go_sem]
      all_goals rfl
    · rintro e w'' ⟨p, q, r, rfl, hbuf, hB⟩
      exact ⟨_, rfl, ⟨p, q, r, rfl, hbuf.len, hbuf.rd⟩, hB⟩
    refine gw_str Try.underlying22 Try.underlying5 Try.underlying9 24 (sealL l0) rfl (fun a' w' hb hk => ?_) ?_
    · exact ⟨wanted_none rfl, by simpa [KnownAt, List.lookup, consD] using hk 24 (by decide)⟩
    apply gw_val
    · intro a' w' hk
      refine ⟨wanted_none rfl, ?_⟩
      simp [Oper.looksAt, Op.operands, Call.operands, KnownAt, List.lookup, consD] at hk
      simp [execOp, Act.eval, hk, go_sem]
      all_goals rfl
    refine gw_call _ #[.slice a0 n0 c0] (BytesG (sealL l0)) (mono_bytes _) (fun a' w' hk => ?_) (fun w' hb => (rSeal_any a0 n0 c0 l0 w' HL0.out (by omega) (HR0.out.later (HB.out.drew.trans (hb.mono HB.out.size)))).mono ?_) ?_
    · refine ⟨wanted_none rfl, ?_⟩
      simp [Oper.looksAt, Op.operands, Call.operands, KnownAt, List.lookup, consD] at hk
      simp [execOp, Act.eval, hk, go_sem]
      all_goals rfl
    · rintro e w'' ⟨p, q, r, rfl, hbuf, hB⟩
      exact ⟨_, rfl, ⟨p, q, r, rfl, hbuf.len, hbuf.rd⟩, hB⟩
    refine gw_str Try.underlying22 Try.underlying5 Try.underlying9 27 (sealL l0) rfl (fun a' w' hb hk => ?_) ?_
    · exact ⟨wanted_none rfl, by simpa [KnownAt, List.lookup, consD] using hk 27 (by decide)⟩
    apply gw_val
    · intro a' w' hk
      refine ⟨wanted_none rfl, ?_⟩
      simp [Oper.looksAt, Op.operands, Call.operands, KnownAt, List.lookup, consD] at hk
      simp [execOp, Act.eval, hk, go_sem]
      all_goals rfl
    apply gw_val
    · intro a' w' hk
      refine ⟨wanted_none rfl, ?_⟩
      simp [Oper.looksAt, Op.operands, Call.operands, KnownAt, List.lookup, consD] at hk
      simp [execOp, Act.eval, hk, go_sem]
      all_goals rfl
    apply gw_val
    · intro a' w' hk
      refine ⟨wanted_guard (t := 30) rfl rfl (by simpa [KnownAt, List.lookup, consD] using hk 30 (by decide)), ?_⟩
      simp [Oper.looksAt, Op.operands, Call.operands, KnownAt, List.lookup, consD] at hk
      simp [execOp, Act.eval, hk, go_sem]
      all_goals rfl
    apply gw_val
    · intro a' w' hk
      refine ⟨wanted_guard (t := 30) rfl rfl (by simpa [KnownAt, List.lookup, consD] using hk 30 (by decide)), ?_⟩
      simp [Oper.looksAt, Op.operands, Call.operands, KnownAt, List.lookup, consD] at hk
      simp [execOp, Act.eval, hk, go_sem]
      all_goals rfl
    apply gw_val
    · intro a' w' hk
      refine ⟨wanted_none rfl, ?_⟩
      simp [Oper.looksAt, Op.operands, Call.operands, KnownAt, List.lookup, consD] at hk
      simp [execOp, Act.eval, hk, go_sem]
      all_goals rfl
    apply gw_val
    · intro a' w' hk
      refine ⟨wanted_none rfl, ?_⟩
      simp [Oper.looksAt, Op.operands, Call.operands, KnownAt, List.lookup, consD] at hk
      simp [execOp, Act.eval, hk, go_sem]
      all_goals rfl
    apply gw_val
    · intro a' w' hk
      refine ⟨wanted_guard (t := 34) rfl rfl (by simpa [KnownAt, List.lookup, consD] using hk 34 (by decide)), ?_⟩
      simp [Oper.looksAt, Op.operands, Call.operands, KnownAt, List.lookup, consD] at hk
      simp [execOp, Act.eval, hk, go_sem]
      all_goals rfl
    refine gw_str Try.underlying22 Try.underlying5 Try.underlying9 35 (l0) rfl (fun a' w' hb hk => ?_) ?_
    · exact ⟨wanted_guard (t := 34) rfl rfl (by simpa [KnownAt, List.lookup, consD] using hk 34 (by decide)), _, _, _, by simpa [KnownAt, List.lookup, consD] using hk 35 (by decide), HYN.out, HRY.out.drew.later hb⟩
    apply gw_val
    · intro a' w' hk
      refine ⟨wanted_guard (t := 34) rfl rfl (by simpa [KnownAt, List.lookup, consD] using hk 34 (by decide)), ?_⟩
      simp [Oper.looksAt, Op.operands, Call.operands, KnownAt, List.lookup, consD] at hk
      simp [execOp, Act.eval, hk, go_sem]
      all_goals rfl
    refine gw_str Try.underlying22 Try.underlying5 Try.underlying9 37 (l0) rfl (fun a' w' hb hk => ?_) ?_
    · exact ⟨wanted_guard (t := 34) rfl rfl (by simpa [KnownAt, List.lookup, consD] using hk 34 (by decide)), _, _, _, by simpa [KnownAt, List.lookup, consD] using hk 37 (by decide), HL0.out, HR0.out.later (HB.out.drew.trans (hb.mono HB.out.size))⟩
    apply gw_val
    · intro a' w' hk
      refine ⟨wanted_guard (t := 34) rfl rfl (by simpa [KnownAt, List.lookup, consD] using hk 34 (by decide)), ?_⟩
      simp [Oper.looksAt, Op.operands, Call.operands, KnownAt, List.lookup, consD] at hk
      simp [execOp, Act.eval, hk, go_sem]
      all_goals rfl
    apply gw_val
    · intro a' w' hk
      refine ⟨wanted_none rfl, ?_⟩
      simp [Oper.looksAt, Op.operands, Call.operands, KnownAt, List.lookup, consD] at hk
      simp [execOp, Act.eval, hk, go_sem]
      all_goals rfl
    intro vs w' hb hall
    simp only [AllS, consD] at hall
    simp only [consD, putAllS, Act.put]
    obtain ⟨h6, -⟩ := hall
    rw [h6]
    simp only [List.setIfInBounds_toArray, List.set_cons_succ, List.set_cons_zero]
    have hB5 := below_trans0 HB.out.drew HB.out.drew.size hb
    have hrx5 := hrx.drew.later hb
    clear hb hrx h6
    by_cases h4 : n0 < 4
    · have he6 : er = 6 := by rw [← her]; unfold openEr; rw [if_pos (by omega)]
      have hx0 : openL l0 = [] := by unfold openL; rw [if_neg (by omega)]
      have hn30 : n3 = 0 := by rw [← hn3, hx0]; rfl
      subst he6 hn30
      clear hl0 hrx5 her hn3
      have HB5 := Lib.hid hB5
      clear hB5
      go_wp2
      go_ret
      exact ⟨rfl, HB5.out⟩
    · have HBN : Hid ((bodyL l0).length = n0 - 4) := Lib.hid (by unfold bodyL; rw [List.length_take]; omega)
      have HRB : Hid (Rd w byteV a0 (bodyL l0)) := Lib.hid (HR0.out.take _)
      have hiff := openOk_iff l0 (by omega)
      have HB2 := Lib.hid hB5
      have HRX5 := Lib.hid hrx5
      have HER := Lib.hid her
      have HN3 := Lib.hid hn3
      clear hrx5 her hn3
      cases hok : openOk l0 with
      | true =>
        have HOK := Lib.hid (hiff.1 hok)
        have he0 : er = 0 := by rw [← HER.out]; unfold openEr; rw [if_neg (by omega), if_pos hok]
        have hx0 : openL l0 = bodyL l0 := by unfold openL; rw [if_pos ⟨by omega, hok⟩]
        subst he0
        have HX0 := Lib.hid hx0
        clear hiff hok hB5 hl0 hx0
        go_wp2_with fail
        refine wp_region_grow (by kernel_rfl) (by kernel_rfl) (by rfl) ?_
        apply gw_val
        · intro a' w' hk
          refine ⟨wanted_none rfl, ?_⟩
          simp [Oper.looksAt, Op.operands, Call.operands, KnownAt, List.lookup, consD] at hk
          simp [execOp, Act.eval, hk, go_sem]
          all_goals rfl
        apply gw_val
        · intro a' w' hk
          refine ⟨wanted_none rfl, ?_⟩
          simp [Oper.looksAt, Op.operands, Call.operands, KnownAt, List.lookup, consD] at hk
          simp [execOp, Act.eval, hk, go_sem]
          all_goals rfl
        apply gw_val
        · intro a' w' hk
          refine ⟨wanted_none rfl, ?_⟩
          simp [Oper.looksAt, Op.operands, Call.operands, KnownAt, List.lookup, consD] at hk
          simp [execOp, Act.eval, hk, go_sem]
          all_goals rfl
        apply gw_val
        · intro a' w' hk
          refine ⟨wanted_none rfl, ?_⟩
          simp [Oper.looksAt, Op.operands, Call.operands, KnownAt, List.lookup, consD] at hk
          simp [execOp, Act.eval, hk, go_sem]
          all_goals rfl
        refine gw_val (.slice a0 (n0 - 4) c0) ?_ ?_
        · intro a' w' hk
          refine ⟨wanted_none rfl, ?_⟩
          simp [Oper.looksAt, Op.operands, Call.operands, KnownAt, List.lookup, consD] at hk
          have hw : IntKind.i64.wrap ((n0 : Int) - 4) = (n0 : Int) - 4 := IntWalk.i64_in _ (by omega)
          have hq : (n0 : Int) - 4 ≤ (c0 : Int) := by omega
          have hq2 : ((n0 : Int) - 4).toNat = n0 - 4 := by omega
          have hq3 : 0 ≤ (n0 : Int) - 4 := by omega
          have hq4 : ¬ (n0 : Int) < 4 := by omega
          have hq5 : (4 : Int) ≤ n0 := by omega
          simp [execOp, Act.eval, hk, go_sem, hw, hq, hq2, hq3, hq4, hq5, map_add0]
          all_goals rfl
        refine gw_call _ #[.slice a0 (n0 - 4) c0] (BytesG l0) (mono_bytes _) (fun a' w' hk => ?_) (fun w' hb => (rSeal_any a0 (n0 - 4) c0 (bodyL l0) w' HBN.out (by omega) (HRB.out.later (HB2.out.drew.trans (hb.mono HB2.out.size)))).mono ?_) ?_
        · refine ⟨wanted_none rfl, ?_⟩
          simp [Oper.looksAt, Op.operands, Call.operands, KnownAt, List.lookup, consD] at hk
          simp [execOp, Act.eval, hk, go_sem]
          all_goals rfl
        · rintro e w'' ⟨p, q, r, rfl, hbuf, hB⟩
          rw [HOK.out] at hbuf
          exact ⟨_, rfl, ⟨p, q, r, rfl, hbuf.len, hbuf.rd⟩, hB⟩
        refine gw_str Try.underlying22 Try.underlying5 Try.underlying9 56 (l0) rfl (fun a' w' hb hk => ?_) ?_
        · exact ⟨wanted_none rfl, by simpa [KnownAt, List.lookup, consD] using hk 56 (by decide)⟩
        apply gw_val
        · intro a' w' hk
          refine ⟨wanted_none rfl, ?_⟩
          simp [Oper.looksAt, Op.operands, Call.operands, KnownAt, List.lookup, consD] at hk
          simp [execOp, Act.eval, hk, go_sem]
          all_goals rfl
        refine gw_str Try.underlying22 Try.underlying5 Try.underlying9 58 (l0) rfl (fun a' w' hb hk => ?_) ?_
        · exact ⟨wanted_none rfl, _, _, _, by simpa [KnownAt, List.lookup, consD] using hk 58 (by decide), HL0.out, (HR0.out.later (HB2.out.drew.trans (hb.mono HB2.out.size)))⟩
        apply gw_val
        · intro a' w' hk
          refine ⟨wanted_none rfl, ?_⟩
          simp [Oper.looksAt, Op.operands, Call.operands, KnownAt, List.lookup, consD] at hk
          simp [execOp, Act.eval, hk, go_sem]
          all_goals rfl
        intro vs w' hb hall
        simp only [AllS, consD] at hall
        simp only [consD, putAllS, Act.put]
        obtain ⟨h6, -⟩ := hall
        rw [h6]
        simp only [List.setIfInBounds_toArray, List.set_cons_succ, List.set_cons_zero]
        have hB6 := below_trans0 HB2.out.drew HB2.out.drew.size hb
        have hrx6 := HRX5.out.drew.later hb
        have hn3 := HN3.out
        rw [HX0.out] at hrx6 hn3
        have HRX := Lib.hid hrx6
        have HXN := Lib.hid hn3
        have HB3 := Lib.hid hB6
        clear hb hrx6 hn3 h6
        go_wp2_with fail
        refine wp_region_grow (by kernel_rfl) (by kernel_rfl) (by rfl) ?_
        apply gw_val
        · intro a' w' hk
          refine ⟨wanted_none rfl, ?_⟩
          simp [Oper.looksAt, Op.operands, Call.operands, KnownAt, List.lookup, consD] at hk
          simp [execOp, Act.eval, hk, go_sem]
          all_goals rfl
        apply gw_val
        · intro a' w' hk
          refine ⟨wanted_none rfl, ?_⟩
          simp [Oper.looksAt, Op.operands, Call.operands, KnownAt, List.lookup, consD] at hk
          simp [execOp, Act.eval, hk, go_sem]
          all_goals rfl
        apply gw_val
        · intro a' w' hk
          refine ⟨wanted_none rfl, ?_⟩
          simp [Oper.looksAt, Op.operands, Call.operands, KnownAt, List.lookup, consD] at hk
          simp [execOp, Act.eval, hk, go_sem]
          all_goals rfl
        apply gw_val
        · intro a' w' hk
          refine ⟨wanted_guard (t := 70) rfl rfl (by simpa [KnownAt, List.lookup, consD] using hk 70 (by decide)), ?_⟩
          simp [Oper.looksAt, Op.operands, Call.operands, KnownAt, List.lookup, consD] at hk
          simp [execOp, Act.eval, hk, go_sem]
          all_goals rfl
        refine gw_str Try.underlying22 Try.underlying5 Try.underlying9 71 (bodyL l0) rfl (fun a' w' hb hk => ?_) ?_
        · exact ⟨wanted_guard (t := 70) rfl rfl (by simpa [KnownAt, List.lookup, consD] using hk 70 (by decide)), _, _, _, by simpa [KnownAt, List.lookup, consD] using hk 71 (by decide), HXN.out, HRX.out.drew.later hb⟩
        apply gw_val
        · intro a' w' hk
          refine ⟨wanted_guard (t := 70) rfl rfl (by simpa [KnownAt, List.lookup, consD] using hk 70 (by decide)), ?_⟩
          simp [Oper.looksAt, Op.operands, Call.operands, KnownAt, List.lookup, consD] at hk
          simp [execOp, Act.eval, hk, go_sem]
          all_goals rfl
        apply gw_val
        · intro a' w' hk
          refine ⟨wanted_guard (t := 70) rfl rfl (by simpa [KnownAt, List.lookup, consD] using hk 70 (by decide)), ?_⟩
          simp [Oper.looksAt, Op.operands, Call.operands, KnownAt, List.lookup, consD] at hk
          simp [execOp, Act.eval, hk, go_sem]
          all_goals rfl
        apply gw_val
        · intro a' w' hk
          refine ⟨wanted_guard (t := 70) rfl rfl (by simpa [KnownAt, List.lookup, consD] using hk 70 (by decide)), ?_⟩
          simp [Oper.looksAt, Op.operands, Call.operands, KnownAt, List.lookup, consD] at hk
          simp [execOp, Act.eval, hk, go_sem]
          all_goals rfl
        apply gw_val
        · intro a' w' hk
          refine ⟨wanted_guard (t := 70) rfl rfl (by simpa [KnownAt, List.lookup, consD] using hk 70 (by decide)), ?_⟩
          simp [Oper.looksAt, Op.operands, Call.operands, KnownAt, List.lookup, consD] at hk
          simp [execOp, Act.eval, hk, go_sem]
          all_goals rfl
        refine gw_val (.slice a0 (n0 - 4) c0) ?_ ?_
        · intro a' w' hk
          refine ⟨wanted_guard (t := 70) rfl rfl (by simpa [KnownAt, List.lookup, consD] using hk 70 (by decide)), ?_⟩
          simp [Oper.looksAt, Op.operands, Call.operands, KnownAt, List.lookup, consD] at hk
          have hw : IntKind.i64.wrap ((n0 : Int) - 4) = (n0 : Int) - 4 := IntWalk.i64_in _ (by omega)
          have hq : (n0 : Int) - 4 ≤ (c0 : Int) := by omega
          have hq2 : ((n0 : Int) - 4).toNat = n0 - 4 := by omega
          have hq3 : 0 ≤ (n0 : Int) - 4 := by omega
          have hq4 : ¬ (n0 : Int) < 4 := by omega
          have hq5 : (4 : Int) ≤ n0 := by omega
          simp [execOp, Act.eval, hk, go_sem, hw, hq, hq2, hq3, hq4, hq5, map_add0]
          all_goals rfl
        refine gw_str Try.underlying22 Try.underlying5 Try.underlying9 77 (bodyL l0) rfl (fun a' w' hb hk => ?_) ?_
        · exact ⟨wanted_guard (t := 70) rfl rfl (by simpa [KnownAt, List.lookup, consD] using hk 70 (by decide)), _, _, _, by simpa [KnownAt, List.lookup, consD] using hk 77 (by decide), HBN.out, (HRB.out.later (HB3.out.drew.trans (hb.mono HB3.out.size)))⟩
        apply gw_val
        · intro a' w' hk
          refine ⟨wanted_guard (t := 70) rfl rfl (by simpa [KnownAt, List.lookup, consD] using hk 70 (by decide)), ?_⟩
          simp [Oper.looksAt, Op.operands, Call.operands, KnownAt, List.lookup, consD] at hk
          simp [execOp, Act.eval, hk, go_sem]
          all_goals rfl
        apply gw_val
        · intro a' w' hk
          refine ⟨wanted_none rfl, ?_⟩
          simp [Oper.looksAt, Op.operands, Call.operands, KnownAt, List.lookup, consD] at hk
          simp [execOp, Act.eval, hk, go_sem]
          all_goals rfl
        apply gw_val
        · intro a' w' hk
          refine ⟨wanted_none rfl, ?_⟩
          simp [Oper.looksAt, Op.operands, Call.operands, KnownAt, List.lookup, consD] at hk
          simp [execOp, Act.eval, hk, go_sem]
          all_goals rfl
        intro vs w' hb hall
        simp only [AllS, consD] at hall
        simp only [consD, putAllS, Act.put]
        obtain ⟨h6, -⟩ := hall
        rw [h6]
        simp only [List.setIfInBounds_toArray, List.set_cons_succ, List.set_cons_zero]
        go_wp2
        go_ret
        exact ⟨rfl, below_trans0 HB3.out.drew HB3.out.drew.size hb⟩
      | false =>
        have HOK : Hid ((sealL (bodyL l0) == l0) = false) := Lib.hid (by
          rw [beq_eq_false_iff_ne]
          intro h
          have := hiff.2 h
          rw [hok] at this; cases this)
        have he7 : er = 7 := by rw [← HER.out]; unfold openEr; rw [if_neg (by omega), if_neg (by rw [hok]; simp)]
        have hx0 : openL l0 = [] := by unfold openL; rw [if_neg (by rw [hok]; simp)]
        have hn30 : n3 = 0 := by rw [← HN3.out, hx0]; rfl
        subst he7 hn30
        clear hiff hok hB5 hl0 hx0
        go_wp2_with fail
        refine wp_region_grow (by kernel_rfl) (by kernel_rfl) (by rfl) ?_
        apply gw_val
        · intro a' w' hk
          refine ⟨wanted_none rfl, ?_⟩
          simp [Oper.looksAt, Op.operands, Call.operands, KnownAt, List.lookup, consD] at hk
          simp [execOp, Act.eval, hk, go_sem]
          all_goals rfl
        apply gw_val
        · intro a' w' hk
          refine ⟨wanted_none rfl, ?_⟩
          simp [Oper.looksAt, Op.operands, Call.operands, KnownAt, List.lookup, consD] at hk
          simp [execOp, Act.eval, hk, go_sem]
          all_goals rfl
        apply gw_val
        · intro a' w' hk
          refine ⟨wanted_none rfl, ?_⟩
          simp [Oper.looksAt, Op.operands, Call.operands, KnownAt, List.lookup, consD] at hk
          simp [execOp, Act.eval, hk, go_sem]
          all_goals rfl
        apply gw_val
        · intro a' w' hk
          refine ⟨wanted_none rfl, ?_⟩
          simp [Oper.looksAt, Op.operands, Call.operands, KnownAt, List.lookup, consD] at hk
          simp [execOp, Act.eval, hk, go_sem]
          all_goals rfl
        refine gw_val (.slice a0 (n0 - 4) c0) ?_ ?_
        · intro a' w' hk
          refine ⟨wanted_none rfl, ?_⟩
          simp [Oper.looksAt, Op.operands, Call.operands, KnownAt, List.lookup, consD] at hk
          have hw : IntKind.i64.wrap ((n0 : Int) - 4) = (n0 : Int) - 4 := IntWalk.i64_in _ (by omega)
          have hq : (n0 : Int) - 4 ≤ (c0 : Int) := by omega
          have hq2 : ((n0 : Int) - 4).toNat = n0 - 4 := by omega
          have hq3 : 0 ≤ (n0 : Int) - 4 := by omega
          have hq4 : ¬ (n0 : Int) < 4 := by omega
          have hq5 : (4 : Int) ≤ n0 := by omega
          simp [execOp, Act.eval, hk, go_sem, hw, hq, hq2, hq3, hq4, hq5, map_add0]
          all_goals rfl
        refine gw_call _ #[.slice a0 (n0 - 4) c0] (BytesG (sealL (bodyL l0))) (mono_bytes _) (fun a' w' hk => ?_) (fun w' hb => (rSeal_any a0 (n0 - 4) c0 (bodyL l0) w' HBN.out (by omega) (HRB.out.later (HB2.out.drew.trans (hb.mono HB2.out.size)))).mono ?_) ?_
        · refine ⟨wanted_none rfl, ?_⟩
          simp [Oper.looksAt, Op.operands, Call.operands, KnownAt, List.lookup, consD] at hk
          simp [execOp, Act.eval, hk, go_sem]
          all_goals rfl
        · rintro e w'' ⟨p, q, r, rfl, hbuf, hB⟩
          exact ⟨_, rfl, ⟨p, q, r, rfl, hbuf.len, hbuf.rd⟩, hB⟩
        refine gw_str Try.underlying22 Try.underlying5 Try.underlying9 56 (sealL (bodyL l0)) rfl (fun a' w' hb hk => ?_) ?_
        · exact ⟨wanted_none rfl, by simpa [KnownAt, List.lookup, consD] using hk 56 (by decide)⟩
        apply gw_val
        · intro a' w' hk
          refine ⟨wanted_none rfl, ?_⟩
          simp [Oper.looksAt, Op.operands, Call.operands, KnownAt, List.lookup, consD] at hk
          simp [execOp, Act.eval, hk, go_sem]
          all_goals rfl
        refine gw_str Try.underlying22 Try.underlying5 Try.underlying9 58 (l0) rfl (fun a' w' hb hk => ?_) ?_
        · exact ⟨wanted_none rfl, _, _, _, by simpa [KnownAt, List.lookup, consD] using hk 58 (by decide), HL0.out, (HR0.out.later (HB2.out.drew.trans (hb.mono HB2.out.size)))⟩
        apply gw_val
        · intro a' w' hk
          refine ⟨wanted_none rfl, ?_⟩
          simp [Oper.looksAt, Op.operands, Call.operands, KnownAt, List.lookup, consD] at hk
          have hne : (sealL (bodyL l0) == l0) = false := HOK.out
          simp [execOp, Act.eval, hk, go_sem, strOf_toList, hne]
          all_goals rfl
        intro vs w' hb hall
        simp only [AllS, consD] at hall
        simp only [consD, putAllS, Act.put]
        obtain ⟨h6, -⟩ := hall
        rw [h6]
        simp only [List.setIfInBounds_toArray, List.set_cons_succ, List.set_cons_zero]
        have HB6 := Lib.hid (below_trans0 HB2.out.drew HB2.out.drew.size hb)
        clear hb h6
        go_wp2
        go_ret
        exact ⟨rfl, HB6.out⟩
end Go.Proofs.Ytmmgcfhoigpomaa
