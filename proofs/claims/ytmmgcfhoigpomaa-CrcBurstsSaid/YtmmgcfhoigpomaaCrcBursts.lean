/- The walk of CrcBursts. -/
import Derived.Test.YtmmgcfhoigpomaaFix03
import Derived.Test.YtmmgcfhoigpomaaRef03B
namespace Go.Proofs.Ytmmgcfhoigpomaa
open Go.RowKit
set_option linter.unusedVariables false
set_option linter.unusedSimpArgs false

/-- What a burst makes of sealed bytes: opened if nothing is turned over, else not. -/
theorem burst_er (l : List UInt8) (at' pat : Int) (h : burstL (sealL l) at' pat ≠ sealL l) : openEr (burstL (sealL l) at' pat) = 7 := by
  have hlen := burstL_len (sealL l) at' pat
  rw [sealL_len] at hlen
  unfold openEr
  rw [if_neg (by omega), if_neg]
  intro ho
  exact h (burst_opens _ _ _ (by rw [sealL_len]; omega) (openOk_seal l) ho)

set_option maxHeartbeats 8000000 in
set_option maxRecDepth 100000 in
theorem walkCrcBursts (a0 : Option Addr) (n0 c0 : Nat) (l0 : List UInt8) (a1 a2 : Int) (w : World)
    (hl0 : l0.length = n0) (hm0 : n0 ≤ maxLen) (hr0 : Rd w byteV a0 l0) (hm1 : -9223372036854775808 ≤ a1 ∧ a1 ≤ 9223372036854775807) (hm2 : 0 ≤ a2 ∧ a2 < 4294967296) :
    Calls Try.prog 10 #[.slice a0 n0 c0, .int .i64 a1, .int .u32 a2] w fun e w' => e = .returned (.bool true) ∧ Below w.heap.size w w' := by
  unfold maxLen at hm0
  go_enter Try.func10, Try.ntmps10
  go_wp2_with fail
  refine (fixed03_any _).mono ?_
  rintro e w1 ⟨rfl, hb1⟩
  have hs1 := hb1.size
  by_cases h400 : n0 > 400
  · clear hr0
    go_wp2
    go_ret
    exact ⟨rfl, hb1⟩
  · have HR0 := Lib.hid hr0
    have HL0 := Lib.hid hl0
    go_wp2_with fail
    refine (crcSeal_any a0 n0 c0 l0 w1 hl0 (by omega) (hr0.below hb1)).mono ?_
    rintro e w2 ⟨a7, n7, c7, rfl, hbuf, hb2⟩
    have hB2 := below_trans0 hb1 hs1 hb2
    have hrS := hbuf.rd
    have hSl := hbuf.len
    have hn7 : 4 ≤ n7 ∧ n7 ≤ 404 := by have := sealL_len l0; omega
    have hX1 : burstL (sealL l0) a1 a2 = sealL l0 → openEr (burstL (sealL l0) a1 a2) = 0 := fun h => by rw [h]; exact openEr_seal l0
    have hX2 := burst_er l0 a1 a2
    have hXl := burstL_len (sealL l0) a1 a2
    rw [hSl] at hXl
    obtain ⟨S, hS⟩ : ∃ S, sealL l0 = S := ⟨_, rfl⟩
    rw [hS] at hrS hSl hX1 hX2 hXl
    obtain ⟨X, hX⟩ : ∃ X, burstL S a1 a2 = X := ⟨_, rfl⟩
    have HS := Lib.hid hS
    have HX := Lib.hid hX
    have HSN := Lib.hid hSl
    clear hr0 hl0 hb1 hs1 hb2 hbuf hS hSl
    go_wp2_with fail
    refine (crcBurst_any a7 n7 c7 S a1 a2 w2 HSN.out (by omega) hrS hm1.1 hm1.2 hm2).mono ?_
    rw [hX] at hX1 hX2 hXl ⊢
    rintro e w3 ⟨a8, c8, rfl, hown8, hb3⟩
    have hB3 := below_trans0 hB2 hB2.size hb3
    have hrS3 := hrS.below hb3
    have HXN := Lib.hid hXl
    clear hX hB2 hb3 hrS
    by_cases hXS : X = S
    · have hEr := hX1 hXS
      have hHit : (X != S) = false := by rw [hXS]; simp
      have HE := Lib.hid hEr
      have HH := Lib.hid hHit
      clear hX1 hX2 hEr hHit hXS
      go_wp2_with fail
      refine (crcOpen_any a8 n7 c8 X w3 (by assumption) (by omega) hown8.le_cap hown8.cap_max hown8.rd).mono ?_
      rintro e w4 ⟨a9, n9, c9, rfl, hown9, hb4⟩
      rw [HE.out]
      have hB4 := below_trans0 hB3 hB3.size hb4
      have hrS4 := hrS3.below hb4
      have hrX4 := hown8.rd.below hb4
      clear hB3 hb4 hown9 hrS3
      go_wp2_with fail
      refine (rHits_any a7 n7 c7 S a1 a2 w4 HSN.out (by omega) hrS4 hm1.1 hm1.2 hm2).mono ?_
      rw [HX.out, HH.out]
      rintro e w5 ⟨rfl, hb5⟩
      have hB5 := below_trans0 hB4 hB4.size hb5
      have HRS := Lib.hid (hrS4.below hb5)
      have HRX := Lib.hid (hrX4.below hb5)
      have HB := Lib.hid hB5
      clear hB4 hb5 hrS4 hrX4 hB5 hown8
      go_wp2_with fail
      refine wp_region_grow (by kernel_rfl) (by kernel_rfl) (by rfl) ?_
      apply gw_val
      · intro a' w' hk
        refine ⟨wanted_none rfl, ?_⟩
        simp [Oper.looksAt, Op.operands, Call.operands, KnownAt, List.lookup, consD] at hk
        simp [execOp, Act.eval, hk, go_sem]
        all_goals rfl
      refine gw_str Try.underlying22 Try.underlying5 Try.underlying9 32 (X) rfl (fun a' w' hb hk => ?_) ?_
      · exact ⟨wanted_none rfl, _, _, _, by simpa [KnownAt, List.lookup, consD] using hk 32 (by decide), HXN.out, HRX.out.drew.later hb⟩
      apply gw_val
      · intro a' w' hk
        refine ⟨wanted_none rfl, ?_⟩
        simp [Oper.looksAt, Op.operands, Call.operands, KnownAt, List.lookup, consD] at hk
        simp [execOp, Act.eval, hk, go_sem]
        all_goals rfl
      apply gw_val
      · intro a' w' hk
        refine ⟨wanted_none rfl, ?_⟩
        simp [Oper.looksAt, Op.operands, Call.operands, KnownAt, List.lookup, consD] at hk
        simp [execOp, Act.eval, hk, go_sem]
        all_goals rfl
      apply gw_val
      · intro a' w' hk
        refine ⟨wanted_none rfl, ?_⟩
        simp [Oper.looksAt, Op.operands, Call.operands, KnownAt, List.lookup, consD] at hk
        simp [execOp, Act.eval, hk, go_sem]
        all_goals rfl
      refine gw_call _ #[.slice a7 n7 c7, .int .i64 a1, .int .u32 a2] (BytesG X) (mono_bytes _) (fun a' w' hk => ?_) (fun w' hb => (rBurst_any a7 n7 c7 S a1 a2 w' HSN.out (by omega) (HRS.out.drew.later hb) hm1.1 hm1.2 hm2).mono ?_) ?_
      · refine ⟨wanted_none rfl, ?_⟩
        simp [Oper.looksAt, Op.operands, Call.operands, KnownAt, List.lookup, consD] at hk
        simp [execOp, Act.eval, hk, go_sem]
        all_goals rfl
      · rintro e w'' ⟨p, q, r, rfl, hbuf, hB⟩
        rw [HX.out] at hbuf
        exact ⟨_, rfl, ⟨p, q, r, rfl, hbuf.len, hbuf.rd⟩, hB⟩
      refine gw_str Try.underlying22 Try.underlying5 Try.underlying9 37 (X) rfl (fun a' w' hb hk => ?_) ?_
      · exact ⟨wanted_none rfl, by simpa [KnownAt, List.lookup, consD] using hk 37 (by decide)⟩
      apply gw_val
      · intro a' w' hk
        refine ⟨wanted_none rfl, ?_⟩
        simp [Oper.looksAt, Op.operands, Call.operands, KnownAt, List.lookup, consD] at hk
        simp [execOp, Act.eval, hk, go_sem]
        all_goals rfl
      apply gw_val
      · intro a' w' hk
        refine ⟨wanted_none rfl, ?_⟩
        simp [Oper.looksAt, Op.operands, Call.operands, KnownAt, List.lookup, consD] at hk
        simp [execOp, Act.eval, hk, go_sem]
        all_goals rfl
      apply gw_val
      · intro a' w' hk
        refine ⟨wanted_guard (t := 40) rfl rfl (by simpa [KnownAt, List.lookup, consD] using hk 40 (by decide)), ?_⟩
        simp [Oper.looksAt, Op.operands, Call.operands, KnownAt, List.lookup, consD] at hk
        simp [execOp, Act.eval, hk, go_sem]
        all_goals rfl
      apply gw_val
      · intro a' w' hk
        refine ⟨wanted_guard (t := 40) rfl rfl (by simpa [KnownAt, List.lookup, consD] using hk 40 (by decide)), ?_⟩
        simp [Oper.looksAt, Op.operands, Call.operands, KnownAt, List.lookup, consD] at hk
        simp [execOp, Act.eval, hk, go_sem]
        all_goals rfl
      apply gw_val
      · intro a' w' hk
        refine ⟨wanted_guard (t := 40) rfl rfl (by simpa [KnownAt, List.lookup, consD] using hk 40 (by decide)), ?_⟩
        simp [Oper.looksAt, Op.operands, Call.operands, KnownAt, List.lookup, consD] at hk
        simp [execOp, Act.eval, hk, go_sem]
        all_goals rfl
      apply gw_val
      · intro a' w' hk
        refine ⟨wanted_guard (t := 40) rfl rfl (by simpa [KnownAt, List.lookup, consD] using hk 40 (by decide)), ?_⟩
        simp [Oper.looksAt, Op.operands, Call.operands, KnownAt, List.lookup, consD] at hk
        simp [execOp, Act.eval, hk, go_sem]
        all_goals rfl
      apply gw_val
      · intro a' w' hk
        refine ⟨wanted_none rfl, ?_⟩
        simp [Oper.looksAt, Op.operands, Call.operands, KnownAt, List.lookup, consD] at hk
        simp [execOp, Act.eval, hk, go_sem]
        all_goals rfl
      apply gw_val
      · intro a' w' hk
        refine ⟨wanted_none rfl, ?_⟩
        simp [Oper.looksAt, Op.operands, Call.operands, KnownAt, List.lookup, consD] at hk
        simp [execOp, Act.eval, hk, go_sem]
        all_goals rfl
      apply gw_val
      · intro a' w' hk
        refine ⟨wanted_guard (t := 46) rfl rfl (by simpa [KnownAt, List.lookup, consD] using hk 46 (by decide)), ?_⟩
        simp [Oper.looksAt, Op.operands, Call.operands, KnownAt, List.lookup, consD] at hk
        simp [execOp, Act.eval, hk, go_sem]
        all_goals rfl
      apply gw_val
      · intro a' w' hk
        refine ⟨wanted_guard (t := 46) rfl rfl (by simpa [KnownAt, List.lookup, consD] using hk 46 (by decide)), ?_⟩
        simp [Oper.looksAt, Op.operands, Call.operands, KnownAt, List.lookup, consD] at hk
        simp [execOp, Act.eval, hk, go_sem]
        all_goals rfl
      apply gw_val
      · intro a' w' hk
        refine ⟨wanted_guard (t := 46) rfl rfl (by simpa [KnownAt, List.lookup, consD] using hk 46 (by decide)), ?_⟩
        simp [Oper.looksAt, Op.operands, Call.operands, KnownAt, List.lookup, consD] at hk
        simp [execOp, Act.eval, hk, go_sem]
        all_goals rfl
      apply gw_val
      · intro a' w' hk
        refine ⟨wanted_guard (t := 46) rfl rfl (by simpa [KnownAt, List.lookup, consD] using hk 46 (by decide)), ?_⟩
        simp [Oper.looksAt, Op.operands, Call.operands, KnownAt, List.lookup, consD] at hk
        simp [execOp, Act.eval, hk, go_sem]
        all_goals rfl
      apply gw_val
      · intro a' w' hk
        refine ⟨wanted_guard (t := 46) rfl rfl (by simpa [KnownAt, List.lookup, consD] using hk 46 (by decide)), ?_⟩
        simp [Oper.looksAt, Op.operands, Call.operands, KnownAt, List.lookup, consD] at hk
        simp [execOp, Act.eval, hk, go_sem]
        all_goals rfl
      apply gw_val
      · intro a' w' hk
        refine ⟨wanted_none rfl, ?_⟩
        simp [Oper.looksAt, Op.operands, Call.operands, KnownAt, List.lookup, consD] at hk
        simp [execOp, Act.eval, hk, go_sem]
        all_goals rfl
      apply gw_val
      · intro a' w' hk
        refine ⟨wanted_none rfl, ?_⟩
        simp [Oper.looksAt, Op.operands, Call.operands, KnownAt, List.lookup, consD] at hk
        simp [execOp, Act.eval, hk, go_sem]
        all_goals rfl
      apply gw_val
      · intro a' w' hk
        refine ⟨wanted_guard (t := 53) rfl rfl (by simpa [KnownAt, List.lookup, consD] using hk 53 (by decide)), ?_⟩
        simp [Oper.looksAt, Op.operands, Call.operands, KnownAt, List.lookup, consD] at hk
        simp [execOp, Act.eval, hk, go_sem]
        all_goals rfl
      refine gw_str Try.underlying22 Try.underlying5 Try.underlying9 54 (S) rfl (fun a' w' hb hk => ?_) ?_
      · exact ⟨wanted_guard (t := 53) rfl rfl (by simpa [KnownAt, List.lookup, consD] using hk 53 (by decide)), _, _, _, by simpa [KnownAt, List.lookup, consD] using hk 54 (by decide), HSN.out, HRS.out.drew.later hb⟩
      apply gw_val
      · intro a' w' hk
        refine ⟨wanted_guard (t := 53) rfl rfl (by simpa [KnownAt, List.lookup, consD] using hk 53 (by decide)), ?_⟩
        simp [Oper.looksAt, Op.operands, Call.operands, KnownAt, List.lookup, consD] at hk
        simp [execOp, Act.eval, hk, go_sem]
        all_goals rfl
      refine gw_call _ #[.slice a0 n0 c0] (BytesG S) (mono_bytes _) (fun a' w' hk => ?_) (fun w' hb => (crcSeal_any a0 n0 c0 l0 w' HL0.out (by omega) (HR0.out.later (HB.out.drew.trans (hb.mono HB.out.size)))).mono ?_) ?_
      · refine ⟨wanted_guard (t := 53) rfl rfl (by simpa [KnownAt, List.lookup, consD] using hk 53 (by decide)), ?_⟩
        simp [Oper.looksAt, Op.operands, Call.operands, KnownAt, List.lookup, consD] at hk
        simp [execOp, Act.eval, hk, go_sem]
        all_goals rfl
      · rintro e w'' ⟨p, q, r, rfl, hbuf, hB⟩
        rw [HS.out] at hbuf
        exact ⟨_, rfl, ⟨p, q, r, rfl, hbuf.len, hbuf.rd⟩, hB⟩
      refine gw_str Try.underlying22 Try.underlying5 Try.underlying9 57 (S) rfl (fun a' w' hb hk => ?_) ?_
      · exact ⟨wanted_guard (t := 53) rfl rfl (by simpa [KnownAt, List.lookup, consD] using hk 53 (by decide)), by simpa [KnownAt, List.lookup, consD] using hk 57 (by decide)⟩
      apply gw_val
      · intro a' w' hk
        refine ⟨wanted_guard (t := 53) rfl rfl (by simpa [KnownAt, List.lookup, consD] using hk 53 (by decide)), ?_⟩
        simp [Oper.looksAt, Op.operands, Call.operands, KnownAt, List.lookup, consD] at hk
        simp [execOp, Act.eval, hk, go_sem]
        all_goals rfl
      apply gw_val
      · intro a' w' hk
        refine ⟨wanted_none rfl, ?_⟩
        simp [Oper.looksAt, Op.operands, Call.operands, KnownAt, List.lookup, consD] at hk
        simp [execOp, Act.eval, hk, go_sem]
        all_goals rfl
      apply gw_val
      · intro a' w' hk
        refine ⟨wanted_none rfl, ?_⟩
        simp [Oper.looksAt, Op.operands, Call.operands, KnownAt, List.lookup, consD] at hk
        simp [execOp, Act.eval, hk, go_sem]
        all_goals rfl
      intro vs w' hb hall
      simp only [AllS, consD] at hall
      simp only [consD, putAllS, Act.put]
      obtain ⟨h6, -⟩ := hall
      rw [h6]
      simp only [List.setIfInBounds_toArray, List.set_cons_succ, List.set_cons_zero]
      go_wp2
      go_ret
      exact ⟨rfl, below_trans0 HB.out.drew HB.out.drew.size hb⟩
    · have hEr := hX2 hXS
      have hHit : (X != S) = true := bne_iff_ne.2 hXS
      have HE := Lib.hid hEr
      have HH := Lib.hid hHit
      clear hX1 hX2 hEr hHit hXS
      go_wp2_with fail
      refine (crcOpen_any a8 n7 c8 X w3 (by assumption) (by omega) hown8.le_cap hown8.cap_max hown8.rd).mono ?_
      rintro e w4 ⟨a9, n9, c9, rfl, hown9, hb4⟩
      rw [HE.out]
      have hB4 := below_trans0 hB3 hB3.size hb4
      have hrS4 := hrS3.below hb4
      have hrX4 := hown8.rd.below hb4
      clear hB3 hb4 hown9 hrS3
      go_wp2_with fail
      refine (rHits_any a7 n7 c7 S a1 a2 w4 HSN.out (by omega) hrS4 hm1.1 hm1.2 hm2).mono ?_
      rw [HX.out, HH.out]
      rintro e w5 ⟨rfl, hb5⟩
      have hB5 := below_trans0 hB4 hB4.size hb5
      have HRS := Lib.hid (hrS4.below hb5)
      have HRX := Lib.hid (hrX4.below hb5)
      have HB := Lib.hid hB5
      clear hB4 hb5 hrS4 hrX4 hB5 hown8
      go_wp2_with fail
      refine wp_region_grow (by kernel_rfl) (by kernel_rfl) (by rfl) ?_
      apply gw_val
      · intro a' w' hk
        refine ⟨wanted_none rfl, ?_⟩
        simp [Oper.looksAt, Op.operands, Call.operands, KnownAt, List.lookup, consD] at hk
        simp [execOp, Act.eval, hk, go_sem]
        all_goals rfl
      refine gw_str Try.underlying22 Try.underlying5 Try.underlying9 32 (X) rfl (fun a' w' hb hk => ?_) ?_
      · exact ⟨wanted_none rfl, _, _, _, by simpa [KnownAt, List.lookup, consD] using hk 32 (by decide), HXN.out, HRX.out.drew.later hb⟩
      apply gw_val
      · intro a' w' hk
        refine ⟨wanted_none rfl, ?_⟩
        simp [Oper.looksAt, Op.operands, Call.operands, KnownAt, List.lookup, consD] at hk
        simp [execOp, Act.eval, hk, go_sem]
        all_goals rfl
      apply gw_val
      · intro a' w' hk
        refine ⟨wanted_none rfl, ?_⟩
        simp [Oper.looksAt, Op.operands, Call.operands, KnownAt, List.lookup, consD] at hk
        simp [execOp, Act.eval, hk, go_sem]
        all_goals rfl
      apply gw_val
      · intro a' w' hk
        refine ⟨wanted_none rfl, ?_⟩
        simp [Oper.looksAt, Op.operands, Call.operands, KnownAt, List.lookup, consD] at hk
        simp [execOp, Act.eval, hk, go_sem]
        all_goals rfl
      refine gw_call _ #[.slice a7 n7 c7, .int .i64 a1, .int .u32 a2] (BytesG X) (mono_bytes _) (fun a' w' hk => ?_) (fun w' hb => (rBurst_any a7 n7 c7 S a1 a2 w' HSN.out (by omega) (HRS.out.drew.later hb) hm1.1 hm1.2 hm2).mono ?_) ?_
      · refine ⟨wanted_none rfl, ?_⟩
        simp [Oper.looksAt, Op.operands, Call.operands, KnownAt, List.lookup, consD] at hk
        simp [execOp, Act.eval, hk, go_sem]
        all_goals rfl
      · rintro e w'' ⟨p, q, r, rfl, hbuf, hB⟩
        rw [HX.out] at hbuf
        exact ⟨_, rfl, ⟨p, q, r, rfl, hbuf.len, hbuf.rd⟩, hB⟩
      refine gw_str Try.underlying22 Try.underlying5 Try.underlying9 37 (X) rfl (fun a' w' hb hk => ?_) ?_
      · exact ⟨wanted_none rfl, by simpa [KnownAt, List.lookup, consD] using hk 37 (by decide)⟩
      apply gw_val
      · intro a' w' hk
        refine ⟨wanted_none rfl, ?_⟩
        simp [Oper.looksAt, Op.operands, Call.operands, KnownAt, List.lookup, consD] at hk
        simp [execOp, Act.eval, hk, go_sem]
        all_goals rfl
      apply gw_val
      · intro a' w' hk
        refine ⟨wanted_none rfl, ?_⟩
        simp [Oper.looksAt, Op.operands, Call.operands, KnownAt, List.lookup, consD] at hk
        simp [execOp, Act.eval, hk, go_sem]
        all_goals rfl
      apply gw_val
      · intro a' w' hk
        refine ⟨wanted_guard (t := 40) rfl rfl (by simpa [KnownAt, List.lookup, consD] using hk 40 (by decide)), ?_⟩
        simp [Oper.looksAt, Op.operands, Call.operands, KnownAt, List.lookup, consD] at hk
        simp [execOp, Act.eval, hk, go_sem]
        all_goals rfl
      apply gw_val
      · intro a' w' hk
        refine ⟨wanted_guard (t := 40) rfl rfl (by simpa [KnownAt, List.lookup, consD] using hk 40 (by decide)), ?_⟩
        simp [Oper.looksAt, Op.operands, Call.operands, KnownAt, List.lookup, consD] at hk
        simp [execOp, Act.eval, hk, go_sem]
        all_goals rfl
      apply gw_val
      · intro a' w' hk
        refine ⟨wanted_guard (t := 40) rfl rfl (by simpa [KnownAt, List.lookup, consD] using hk 40 (by decide)), ?_⟩
        simp [Oper.looksAt, Op.operands, Call.operands, KnownAt, List.lookup, consD] at hk
        simp [execOp, Act.eval, hk, go_sem]
        all_goals rfl
      apply gw_val
      · intro a' w' hk
        refine ⟨wanted_guard (t := 40) rfl rfl (by simpa [KnownAt, List.lookup, consD] using hk 40 (by decide)), ?_⟩
        simp [Oper.looksAt, Op.operands, Call.operands, KnownAt, List.lookup, consD] at hk
        simp [execOp, Act.eval, hk, go_sem]
        all_goals rfl
      apply gw_val
      · intro a' w' hk
        refine ⟨wanted_none rfl, ?_⟩
        simp [Oper.looksAt, Op.operands, Call.operands, KnownAt, List.lookup, consD] at hk
        simp [execOp, Act.eval, hk, go_sem]
        all_goals rfl
      apply gw_val
      · intro a' w' hk
        refine ⟨wanted_none rfl, ?_⟩
        simp [Oper.looksAt, Op.operands, Call.operands, KnownAt, List.lookup, consD] at hk
        simp [execOp, Act.eval, hk, go_sem]
        all_goals rfl
      apply gw_val
      · intro a' w' hk
        refine ⟨wanted_guard (t := 46) rfl rfl (by simpa [KnownAt, List.lookup, consD] using hk 46 (by decide)), ?_⟩
        simp [Oper.looksAt, Op.operands, Call.operands, KnownAt, List.lookup, consD] at hk
        simp [execOp, Act.eval, hk, go_sem]
        all_goals rfl
      apply gw_val
      · intro a' w' hk
        refine ⟨wanted_guard (t := 46) rfl rfl (by simpa [KnownAt, List.lookup, consD] using hk 46 (by decide)), ?_⟩
        simp [Oper.looksAt, Op.operands, Call.operands, KnownAt, List.lookup, consD] at hk
        simp [execOp, Act.eval, hk, go_sem]
        all_goals rfl
      apply gw_val
      · intro a' w' hk
        refine ⟨wanted_guard (t := 46) rfl rfl (by simpa [KnownAt, List.lookup, consD] using hk 46 (by decide)), ?_⟩
        simp [Oper.looksAt, Op.operands, Call.operands, KnownAt, List.lookup, consD] at hk
        simp [execOp, Act.eval, hk, go_sem]
        all_goals rfl
      apply gw_val
      · intro a' w' hk
        refine ⟨wanted_guard (t := 46) rfl rfl (by simpa [KnownAt, List.lookup, consD] using hk 46 (by decide)), ?_⟩
        simp [Oper.looksAt, Op.operands, Call.operands, KnownAt, List.lookup, consD] at hk
        simp [execOp, Act.eval, hk, go_sem]
        all_goals rfl
      apply gw_val
      · intro a' w' hk
        refine ⟨wanted_guard (t := 46) rfl rfl (by simpa [KnownAt, List.lookup, consD] using hk 46 (by decide)), ?_⟩
        simp [Oper.looksAt, Op.operands, Call.operands, KnownAt, List.lookup, consD] at hk
        simp [execOp, Act.eval, hk, go_sem]
        all_goals rfl
      apply gw_val
      · intro a' w' hk
        refine ⟨wanted_none rfl, ?_⟩
        simp [Oper.looksAt, Op.operands, Call.operands, KnownAt, List.lookup, consD] at hk
        simp [execOp, Act.eval, hk, go_sem]
        all_goals rfl
      apply gw_val
      · intro a' w' hk
        refine ⟨wanted_none rfl, ?_⟩
        simp [Oper.looksAt, Op.operands, Call.operands, KnownAt, List.lookup, consD] at hk
        simp [execOp, Act.eval, hk, go_sem]
        all_goals rfl
      apply gw_val
      · intro a' w' hk
        refine ⟨wanted_guard (t := 53) rfl rfl (by simpa [KnownAt, List.lookup, consD] using hk 53 (by decide)), ?_⟩
        simp [Oper.looksAt, Op.operands, Call.operands, KnownAt, List.lookup, consD] at hk
        simp [execOp, Act.eval, hk, go_sem]
        all_goals rfl
      refine gw_str Try.underlying22 Try.underlying5 Try.underlying9 54 (S) rfl (fun a' w' hb hk => ?_) ?_
      · exact ⟨wanted_guard (t := 53) rfl rfl (by simpa [KnownAt, List.lookup, consD] using hk 53 (by decide)), _, _, _, by simpa [KnownAt, List.lookup, consD] using hk 54 (by decide), HSN.out, HRS.out.drew.later hb⟩
      apply gw_val
      · intro a' w' hk
        refine ⟨wanted_guard (t := 53) rfl rfl (by simpa [KnownAt, List.lookup, consD] using hk 53 (by decide)), ?_⟩
        simp [Oper.looksAt, Op.operands, Call.operands, KnownAt, List.lookup, consD] at hk
        simp [execOp, Act.eval, hk, go_sem]
        all_goals rfl
      refine gw_call _ #[.slice a0 n0 c0] (BytesG S) (mono_bytes _) (fun a' w' hk => ?_) (fun w' hb => (crcSeal_any a0 n0 c0 l0 w' HL0.out (by omega) (HR0.out.later (HB.out.drew.trans (hb.mono HB.out.size)))).mono ?_) ?_
      · refine ⟨wanted_guard (t := 53) rfl rfl (by simpa [KnownAt, List.lookup, consD] using hk 53 (by decide)), ?_⟩
        simp [Oper.looksAt, Op.operands, Call.operands, KnownAt, List.lookup, consD] at hk
        simp [execOp, Act.eval, hk, go_sem]
        all_goals rfl
      · rintro e w'' ⟨p, q, r, rfl, hbuf, hB⟩
        rw [HS.out] at hbuf
        exact ⟨_, rfl, ⟨p, q, r, rfl, hbuf.len, hbuf.rd⟩, hB⟩
      refine gw_str Try.underlying22 Try.underlying5 Try.underlying9 57 (S) rfl (fun a' w' hb hk => ?_) ?_
      · exact ⟨wanted_guard (t := 53) rfl rfl (by simpa [KnownAt, List.lookup, consD] using hk 53 (by decide)), by simpa [KnownAt, List.lookup, consD] using hk 57 (by decide)⟩
      apply gw_val
      · intro a' w' hk
        refine ⟨wanted_guard (t := 53) rfl rfl (by simpa [KnownAt, List.lookup, consD] using hk 53 (by decide)), ?_⟩
        simp [Oper.looksAt, Op.operands, Call.operands, KnownAt, List.lookup, consD] at hk
        simp [execOp, Act.eval, hk, go_sem]
        all_goals rfl
      apply gw_val
      · intro a' w' hk
        refine ⟨wanted_none rfl, ?_⟩
        simp [Oper.looksAt, Op.operands, Call.operands, KnownAt, List.lookup, consD] at hk
        simp [execOp, Act.eval, hk, go_sem]
        all_goals rfl
      apply gw_val
      · intro a' w' hk
        refine ⟨wanted_none rfl, ?_⟩
        simp [Oper.looksAt, Op.operands, Call.operands, KnownAt, List.lookup, consD] at hk
        simp [execOp, Act.eval, hk, go_sem]
        all_goals rfl
      intro vs w' hb hall
      simp only [AllS, consD] at hall
      simp only [consD, putAllS, Act.put]
      obtain ⟨h6, -⟩ := hall
      rw [h6]
      simp only [List.setIfInBounds_toArray, List.set_cons_succ, List.set_cons_zero]
      go_wp2
      go_ret
      exact ⟨rfl, below_trans0 HB.out.drew HB.out.drew.size hb⟩
end Go.Proofs.Ytmmgcfhoigpomaa
