/- The walk of BitioReads. -/
import Derived.Test.YtmmgcfhoigpomaaFix01
import Derived.Test.YtmmgcfhoigpomaaBitRR
import Derived.Test.YtmmgcfhoigpomaaOpenS
import Derived.Test.YtmmgcfhoigpomaaGrow2
namespace Go.Proofs.Ytmmgcfhoigpomaa
open Go.RowKit
set_option linter.unusedVariables false
set_option linter.unusedSimpArgs false

theorem below_drew0 {w : World} : Below w.heap.size w w.drew := (Below.refl _ _).drew
theorem drew_later {w w' : World} (h : Below w.drew.heap.size w.drew w') : Below w.heap.size w w' := below_drew0.trans h

set_option maxHeartbeats 16000000 in
set_option maxRecDepth 100000 in
theorem walkBitioReads (a0 : Option Addr) (n0 c0 : Nat) (l0 : List UInt8) (a1 : Option Addr) (n1 c1 : Nat) (F1 : Nat → Nat → Value) (w : World)
    (hl0 : l0.length = n0) (hm0 : n0 ≤ maxLen) (hr0 : Rd w bE a0 l0) (hm1 : n1 ≤ maxLen) (hr1 : RdN w a1 n1 2 F1)
    (hf1 : ∀ i, i < n1 → ∃ (x0 x1 : Int), F1 i 0 = .int .u8 x0 ∧ F1 i 1 = .int .i64 x1 ∧ (0 ≤ x0 ∧ x0 < 256) ∧ (-9223372036854775808 ≤ x1 ∧ x1 ≤ 9223372036854775807)) :
    Calls Try.prog 3 #[.slice a0 n0 c0, .slice a1 n1 c1] w fun e w' => e = .returned (.bool true) ∧ Below w.heap.size w w' := by
  unfold maxLen at hm0 hm1
  go_enter Try.func3, Try.ntmps3
  go_wp2_with fail
  refine (fixed01_any _).mono ?_
  rintro e w1 ⟨rfl, hb1⟩
  have hs1 := hb1.size
  by_cases h300 : n0 > 300
  · clear hr0 hr1 hf1
    go_wp2
    go_ret
    exact ⟨rfl, hb1⟩
  · by_cases h200 : n1 > 200
    · clear hr0 hr1 hf1
      go_wp2
      go_ret
      exact ⟨rfl, hb1⟩
    · go_wp2_with fail
      refine (rdNew_any a0 n0 c0 l0 w1 hl0 (by omega) (hr0.below hb1)).mono ?_
      rintro e w2 ⟨g, rfl, hg, hrd, hb⟩
      have hB2 := below_trans0 hb1 hs1 hb
      have hs2 := hB2.size
      clear hb
      go_wp2_with fail
      refine (of_any a0 n0 c0 l0 w2 hl0 (by omega) (hr0.below hB2)).mono ?_
      rintro e w3 ⟨a3, c3, rfl, hown3, hb⟩
      have hB3 := below_trans0 hB2 hs2 hb
      have hs3 := hB3.size
      have hrd3 := hrd.below hb
      have hcap := hown3.cap_max
      unfold maxLen at hcap
      have hrr3 : RrOk (w3.alloc (.cells #[.slice a3 (8 * n0) c3, .int .i64 0] 31)) w3.heap.size l0 0 :=
        ⟨a3, 8 * n0, c3, Blk.new _ _ _, by omega, hown3.le_cap, ⟨by omega, by omega⟩, hown3.rd.below (below_alloc _ _), Nat.zero_le _⟩
      have hrd4 := hrd3.below (below_alloc w3 (.cells #[.slice a3 (8 * n0) c3, .int .i64 0] 31))
      have hB4 := hB3.alloc hs3 (.cells #[.slice a3 (8 * n0) c3, .int .i64 0] 31)
      have hgl : g < w3.heap.size := by obtain ⟨a, n, c, hbb, _⟩ := hrd3.ex; exact hbb.lt
      have HL0 := Lib.hid hl0
      have HR1 := Lib.hid hr1
      have HF1 := Lib.hid hf1
      have hBg : w.heap.size ≤ g := by omega
      have hBh : w.heap.size ≤ w3.heap.size := hs3
      have hgh : g ≠ w3.heap.size := by omega
      have hhg : w3.heap.size ≠ g := by omega
      clear hb hrd hb1 hs1 hB2 hs2 hr0 hr1 hf1 hl0 hown3 hrd3 hB3 hs3 hcap
      go_wp2_with fail
      generalize w3.alloc (.cells #[.slice a3 (8 * n0) c3, .int .i64 0] 31) = w4 at hrr3 hrd4 hB4 ⊢
      generalize w3.heap.size = h at hrr3 hBh hgh hhg ⊢
      clear hg hgl
      go_loopw [35] (fun i wr => ∃ (k p : Nat), k ≤ n1 ∧ i = .int .i64 k ∧ RdOk wr g l0 p ∧ RrOk wr h l0 p ∧ Below w.heap.size w wr) (fun i _ => n1 - (intOf i).toNat)
      case atStart => exact ⟨0, 0, by omega, rfl, hrd4, hrr3, hB4⟩
      case round =>
        obtain ⟨k, p, hk, rfl, hrd, hrr, hB⟩ := hrel
        clear hrd4 hrr3 hB4
        by_cases hlt : k < n1
        · skip
          obtain ⟨b, off, rfl, hcells⟩ := (HR1.out.below hB).at hlt
          obtain ⟨kd, m, e0, e1, hkd, hm⟩ := HF1.out k hlt
          have hc0 := hcells 0 (by decide)
          have hc1 := hcells 1 (by decide)
          rw [e0, Nat.add_zero] at hc0
          rw [e1, ← Nat.add_assoc] at hc1
          have hqg : wr.heap.size ≠ g := by obtain ⟨a, n, c, hbb, _⟩ := hrd.ex; have := hbb.lt; omega
          clear hcells e0 e1
          have hal := below_alloc wr (.cells #[.int .u8 kd, .int .i64 m] 33)
          have hrd1 := hrd.below hal
          have hrr1 := hrr.below hal
          have hB1 := hB.alloc hB.size (.cells #[.int .u8 kd, .int .i64 m] 33)
          have hq1 : (wr.alloc (.cells #[.int .u8 kd, .int .i64 m] 33)).cell? ⟨wr.heap.size, 1, none⟩ = some (.int .i64 m) := (Blk.new wr _ _).cell rfl
          have hq0 : (wr.alloc (.cells #[.int .u8 kd, .int .i64 m] 33)).cell? ⟨wr.heap.size, 0, none⟩ = some (.int .u8 kd) := (Blk.new wr _ _).cell rfl
          clear hrd hrr hB hal
          by_cases k0 : kd % 3 = 0
          · obtain ⟨pn, hPN⟩ : ∃ x, rdGetAt l0 p m = x := ⟨_, rfl⟩
            obtain ⟨vv, hVV⟩ : ∃ x, rdGetV l0 p m = x := ⟨_, rfl⟩
            obtain ⟨ee, hEE⟩ : ∃ x, rdGetEr l0 p m = x := ⟨_, rfl⟩
            go_wp2_with fail
            refine (rdGet_any g l0 p m _ hrd1 hm.1 hm.2).mono ?_
            unfold RdGetPost
            rw [hPN, hVV, hEE]
            rintro e wc ⟨rfl, hc, hg⟩
            have hrr1b := hrr1.keep (bkeep_of_grown hg hrd1.nobit) hg hhg
            have hB1b := below_grown hB1 hB1.size hg hBg
            have hq1b := hg.cell hq1 (by simpa using hqg)
            clear hrd1 hrr1 hB1 hg hq1 hq0
            go_wp2_with fail
            refine (rrGet_any h l0 p m _ hrr1b hm.1 hm.2).mono ?_
            unfold RrGetPost
            rw [hPN, hVV, hEE]
            rintro e wd ⟨rfl, hrr2, hg⟩
            have hrd2 := hc.keep (keep_of_grown hg hrr1b.nobyte) hg hgh
            have hB2 := below_grown hB1b hB1b.size hg hBh
            clear hc hrr1b hB1b hg hq1b hPN hVV hEE
            have hpn := hrd2.len
            rw [HL0.out] at hpn
            have HRD := Lib.hid hrd2
            have HRR := Lib.hid hrr2
            have HB := Lib.hid hB2
            clear hrd2 hrr2 hB2
            go_wp2_with fail
            refine wp_region_grow (by kernel_rfl) (by kernel_rfl) (by rfl) ?_
            apply gw_val
            · intro a' w' hk
              refine ⟨wanted_none rfl, ?_⟩
              simp [Oper.looksAt, Op.operands, Call.operands, KnownAt, List.lookup, consD] at hk
              simp [execOp, Act.eval, hk, go_sem]
              all_goals rfl
            refine gw_call _ #[.pointer (some ⟨g, 0, none⟩)] (fun v _ => v = .int .i64 (8 * (n0 : Int) - (pn : Int))) (mono_eq _) (fun a' w' hk => ?_) (fun w' hb => (rdLeft_any g l0 pn w' (HRD.out.below (below_drew0.trans hb))).mono ?_) ?_
            · refine ⟨wanted_none rfl, ?_⟩
              simp [Oper.looksAt, Op.operands, Call.operands, KnownAt, List.lookup, consD] at hk
              simp [execOp, Act.eval, hk, go_sem]
              all_goals rfl
            · rw [HL0.out]
              rintro e w'' ⟨rfl, kd, rfl⟩
              exact ⟨_, rfl, rfl, below_drewN _ _ kd⟩
            apply gw_val
            · intro a' w' hk
              refine ⟨wanted_none rfl, ?_⟩
              simp [Oper.looksAt, Op.operands, Call.operands, KnownAt, List.lookup, consD] at hk
              simp [execOp, Act.eval, hk, go_sem]
              all_goals rfl
            apply gw_val
            · intro a' w' hk
              refine ⟨wanted_none rfl, ?_⟩
              simp [Oper.looksAt, Op.operands, Call.operands, KnownAt, List.lookup, consD] at hk
              simp [execOp, Act.eval, hk, go_sem]
              all_goals rfl
            apply gw_val
            · intro a' w' hk
              refine ⟨wanted_none rfl, ?_⟩
              simp [Oper.looksAt, Op.operands, Call.operands, KnownAt, List.lookup, consD] at hk
              simp [execOp, Act.eval, hk, go_sem]
              all_goals rfl
            refine gw_valB (fun v _ => ∃ a c, v = .slice a (8 * n0) c) (fun _ _ _ h _ => h) ?_ ?_
            · intro a' w' hb' hk
              obtain ⟨ar, nr, cr, hbr, hlr, hrest⟩ := (HRR.out.below (below_drew0.trans hb')).ex
              have hc := hbr.cell (i := 0) rfl
              refine ⟨wanted_none rfl, .slice ar nr cr, ?_, ar, cr, by rw [← hlr, HL0.out]⟩
              simp [Oper.looksAt, Op.operands, Call.operands, KnownAt, List.lookup, consD] at hk
              simp [execOp, Act.eval, hk, hc, go_sem]
              all_goals rfl
            refine gw_valB (fun v _ => v = .int .i64 (8 * (n0 : Int))) (mono_eq _) ?_ ?_
            · intro a' w' hb' hk
              have hk103 := hk 103 (by decide)
              simp [KnownAt, List.lookup, consD] at hk103
              obtain ⟨ar, cr, h103⟩ := hk103
              refine ⟨wanted_none rfl, _, ?_, rfl⟩
              simp [execOp, Act.eval, h103, go_sem]
              all_goals rfl
            apply gw_val
            · intro a' w' hk
              refine ⟨wanted_none rfl, ?_⟩
              simp [Oper.looksAt, Op.operands, Call.operands, KnownAt, List.lookup, consD] at hk
              simp [execOp, Act.eval, hk, go_sem]
              all_goals rfl
            apply gw_val
            · intro a' w' hk
              refine ⟨wanted_none rfl, ?_⟩
              simp [Oper.looksAt, Op.operands, Call.operands, KnownAt, List.lookup, consD] at hk
              simp [execOp, Act.eval, hk, go_sem]
              all_goals rfl
            apply gw_val
            · intro a' w' hk
              refine ⟨wanted_none rfl, ?_⟩
              simp [Oper.looksAt, Op.operands, Call.operands, KnownAt, List.lookup, consD] at hk
              simp [execOp, Act.eval, hk, go_sem]
              all_goals rfl
            refine gw_valB (fun v _ => v = .int .i64 (pn : Int)) (mono_eq _) ?_ ?_
            · intro a' w' hb' hk
              obtain ⟨ar, nr, cr, hbr, hlr, hrest⟩ := (HRR.out.below (below_drew0.trans hb')).ex
              have hc := hbr.cell (i := 1) rfl
              refine ⟨wanted_none rfl, _, ?_, rfl⟩
              simp [Oper.looksAt, Op.operands, Call.operands, KnownAt, List.lookup, consD] at hk
              simp [execOp, Act.eval, hk, hc, go_sem]
              all_goals rfl
            refine gw_val (.int .i64 (8 * (n0 : Int) - (pn : Int))) ?_ ?_
            · intro a' w' hk
              refine ⟨wanted_none rfl, ?_⟩
              simp [Oper.looksAt, Op.operands, Call.operands, KnownAt, List.lookup, consD] at hk
              have hw : IntKind.i64.wrap (8 * (n0 : Int) - (pn : Int)) = 8 * (n0 : Int) - (pn : Int) := IntWalk.i64_in _ (by omega)
              simp [execOp, Act.eval, hk, go_sem, hw]
              all_goals rfl
            apply gw_val
            · intro a' w' hk
              refine ⟨wanted_none rfl, ?_⟩
              simp [Oper.looksAt, Op.operands, Call.operands, KnownAt, List.lookup, consD] at hk
              simp [execOp, Act.eval, hk, go_sem]
              all_goals rfl
            intro vs w' hb hall
            simp only [AllS, consD] at hall
            simp only [consD, putAllS, Act.put]
            obtain ⟨h6, -⟩ := hall
            rw [h6]
            simp only [List.setIfInBounds_toArray, List.set_cons_succ, List.set_cons_zero]
            have hb' := drew_later hb
            have hrd3 := HRD.out.below hb'
            have hrr3 := HRR.out.below hb'
            have hB3 := below_trans0 HB.out HB.out.size hb'
            clear hb hb' h6
            go_wp2
            go_roundw
            case rel => exact ⟨k + 1, pn, by omega, by go_num, hrd3, hrr3, hB3⟩
            case measure => simp [intOf]; omega
          by_cases k1 : kd % 3 = 1
          · clear k0
            obtain ⟨pn, hPN⟩ : ∃ x, alignN p = x := ⟨_, rfl⟩
            go_wp2_with fail
            refine (rdAlign_any g l0 p _ hrd1).mono ?_
            rw [hPN]
            rintro e wc ⟨rfl, hc, hg⟩
            have hrr1b := hrr1.keep (bkeep_of_grown hg hrd1.nobit) hg hhg
            have hB1b := below_grown hB1 hB1.size hg hBg
            clear hrd1 hrr1 hB1 hg hq1 hq0
            go_wp2_with fail
            refine (rrAlign_any h l0 p _ hrr1b).mono ?_
            rw [hPN]
            rintro e wd ⟨rfl, hrr2, hg⟩
            have hrd2 := hc.keep (keep_of_grown hg hrr1b.nobyte) hg hgh
            have hB2 := below_grown hB1b hB1b.size hg hBh
            clear hc hrr1b hB1b hg hPN
            have hpn := hrd2.len
            rw [HL0.out] at hpn
            have HRD := Lib.hid hrd2
            have HRR := Lib.hid hrr2
            have HB := Lib.hid hB2
            clear hrd2 hrr2 hB2
            go_wp2_with fail
            refine wp_region_grow (by kernel_rfl) (by kernel_rfl) (by rfl) ?_
            apply gw_val
            · intro a' w' hk
              refine ⟨wanted_none rfl, ?_⟩
              simp [Oper.looksAt, Op.operands, Call.operands, KnownAt, List.lookup, consD] at hk
              simp [execOp, Act.eval, hk, go_sem]
              all_goals rfl
            refine gw_call _ #[.pointer (some ⟨g, 0, none⟩)] (fun v _ => v = .int .i64 (8 * (n0 : Int) - (pn : Int))) (mono_eq _) (fun a' w' hk => ?_) (fun w' hb => (rdLeft_any g l0 pn w' (HRD.out.below (below_drew0.trans hb))).mono ?_) ?_
            · refine ⟨wanted_none rfl, ?_⟩
              simp [Oper.looksAt, Op.operands, Call.operands, KnownAt, List.lookup, consD] at hk
              simp [execOp, Act.eval, hk, go_sem]
              all_goals rfl
            · rw [HL0.out]
              rintro e w'' ⟨rfl, kd, rfl⟩
              exact ⟨_, rfl, rfl, below_drewN _ _ kd⟩
            apply gw_val
            · intro a' w' hk
              refine ⟨wanted_none rfl, ?_⟩
              simp [Oper.looksAt, Op.operands, Call.operands, KnownAt, List.lookup, consD] at hk
              simp [execOp, Act.eval, hk, go_sem]
              all_goals rfl
            apply gw_val
            · intro a' w' hk
              refine ⟨wanted_none rfl, ?_⟩
              simp [Oper.looksAt, Op.operands, Call.operands, KnownAt, List.lookup, consD] at hk
              simp [execOp, Act.eval, hk, go_sem]
              all_goals rfl
            apply gw_val
            · intro a' w' hk
              refine ⟨wanted_none rfl, ?_⟩
              simp [Oper.looksAt, Op.operands, Call.operands, KnownAt, List.lookup, consD] at hk
              simp [execOp, Act.eval, hk, go_sem]
              all_goals rfl
            refine gw_valB (fun v _ => ∃ a c, v = .slice a (8 * n0) c) (fun _ _ _ h _ => h) ?_ ?_
            · intro a' w' hb' hk
              obtain ⟨ar, nr, cr, hbr, hlr, hrest⟩ := (HRR.out.below (below_drew0.trans hb')).ex
              have hc := hbr.cell (i := 0) rfl
              refine ⟨wanted_none rfl, .slice ar nr cr, ?_, ar, cr, by rw [← hlr, HL0.out]⟩
              simp [Oper.looksAt, Op.operands, Call.operands, KnownAt, List.lookup, consD] at hk
              simp [execOp, Act.eval, hk, hc, go_sem]
              all_goals rfl
            refine gw_valB (fun v _ => v = .int .i64 (8 * (n0 : Int))) (mono_eq _) ?_ ?_
            · intro a' w' hb' hk
              have hk103 := hk 103 (by decide)
              simp [KnownAt, List.lookup, consD] at hk103
              obtain ⟨ar, cr, h103⟩ := hk103
              refine ⟨wanted_none rfl, _, ?_, rfl⟩
              simp [execOp, Act.eval, h103, go_sem]
              all_goals rfl
            apply gw_val
            · intro a' w' hk
              refine ⟨wanted_none rfl, ?_⟩
              simp [Oper.looksAt, Op.operands, Call.operands, KnownAt, List.lookup, consD] at hk
              simp [execOp, Act.eval, hk, go_sem]
              all_goals rfl
            apply gw_val
            · intro a' w' hk
              refine ⟨wanted_none rfl, ?_⟩
              simp [Oper.looksAt, Op.operands, Call.operands, KnownAt, List.lookup, consD] at hk
              simp [execOp, Act.eval, hk, go_sem]
              all_goals rfl
            apply gw_val
            · intro a' w' hk
              refine ⟨wanted_none rfl, ?_⟩
              simp [Oper.looksAt, Op.operands, Call.operands, KnownAt, List.lookup, consD] at hk
              simp [execOp, Act.eval, hk, go_sem]
              all_goals rfl
            refine gw_valB (fun v _ => v = .int .i64 (pn : Int)) (mono_eq _) ?_ ?_
            · intro a' w' hb' hk
              obtain ⟨ar, nr, cr, hbr, hlr, hrest⟩ := (HRR.out.below (below_drew0.trans hb')).ex
              have hc := hbr.cell (i := 1) rfl
              refine ⟨wanted_none rfl, _, ?_, rfl⟩
              simp [Oper.looksAt, Op.operands, Call.operands, KnownAt, List.lookup, consD] at hk
              simp [execOp, Act.eval, hk, hc, go_sem]
              all_goals rfl
            refine gw_val (.int .i64 (8 * (n0 : Int) - (pn : Int))) ?_ ?_
            · intro a' w' hk
              refine ⟨wanted_none rfl, ?_⟩
              simp [Oper.looksAt, Op.operands, Call.operands, KnownAt, List.lookup, consD] at hk
              have hw : IntKind.i64.wrap (8 * (n0 : Int) - (pn : Int)) = 8 * (n0 : Int) - (pn : Int) := IntWalk.i64_in _ (by omega)
              simp [execOp, Act.eval, hk, go_sem, hw]
              all_goals rfl
            apply gw_val
            · intro a' w' hk
              refine ⟨wanted_none rfl, ?_⟩
              simp [Oper.looksAt, Op.operands, Call.operands, KnownAt, List.lookup, consD] at hk
              simp [execOp, Act.eval, hk, go_sem]
              all_goals rfl
            intro vs w' hb hall
            simp only [AllS, consD] at hall
            simp only [consD, putAllS, Act.put]
            obtain ⟨h6, -⟩ := hall
            rw [h6]
            simp only [List.setIfInBounds_toArray, List.set_cons_succ, List.set_cons_zero]
            have hb' := drew_later hb
            have hrd3 := HRD.out.below hb'
            have hrr3 := HRR.out.below hb'
            have hB3 := below_trans0 HB.out HB.out.size hb'
            clear hb hb' h6
            go_wp2
            go_roundw
            case rel => exact ⟨k + 1, pn, by omega, by go_num, hrd3, hrr3, hB3⟩
            case measure => simp [intOf]; omega
          have k2 : kd % 3 = 2 := by omega
          clear k0 k1
          obtain ⟨pn, hPN⟩ : ∃ x, rdTakeAt l0 p m = x := ⟨_, rfl⟩
          obtain ⟨vv, hVV⟩ : ∃ x, rdTakeL l0 p m = x := ⟨_, rfl⟩
          obtain ⟨ee, hEE⟩ : ∃ x, rdTakeEr l0 p m = x := ⟨_, rfl⟩
          go_wp2_with fail
          refine (rdTake_any g l0 p m _ hrd1 hm.1 hm.2).mono ?_
          unfold RdTakePost
          rw [hPN, hVV, hEE]
          rintro e wc ⟨ax, kx, cx, rfl, hlx, hrx, hc, hg⟩
          have hrr1b := hrr1.keep (bkeep_of_grown hg hrd1.nobit) hg hhg
          have hB1b := below_grown hB1 hB1.size hg hBg
          have hq1b := hg.cell hq1 (by simpa using hqg)
          clear hrd1 hrr1 hB1 hg hq1 hq0
          go_wp2_with fail
          refine (rrTake_any h l0 p m _ hrr1b hm.1 hm.2).mono ?_
          unfold RrTakePost
          rw [hPN, hVV, hEE]
          rintro e wd ⟨ay, ky, cy, rfl, hly, hry, hrr2, hg⟩
          have hkp := keep_of_grown hg hrr1b.nobyte
          have hrd2 := hc.keep hkp hg hgh
          have hB2 := below_grown hB1b hB1b.size hg hBh
          have hcvx := conv_str (P := Try.prog) Try.underlying22 Try.underlying5 Try.underlying9 cx hlx (hrx.keep hkp)
          have hcvy := conv_str (P := Try.prog) Try.underlying22 Try.underlying5 Try.underlying9 cy hly hry
          clear hc hrr1b hB1b hg hq1b hPN hVV hEE hkp hlx hly hrx hry
          have hpn := hrd2.len
          rw [HL0.out] at hpn
          have HRD := Lib.hid hrd2
          have HRR := Lib.hid hrr2
          have HB := Lib.hid hB2
          clear hrd2 hrr2 hB2
          go_wp2_with fail
          refine wp_region_grow (by kernel_rfl) (by kernel_rfl) (by rfl) ?_
          apply gw_val
          · intro a' w' hk
            refine ⟨wanted_none rfl, ?_⟩
            simp [Oper.looksAt, Op.operands, Call.operands, KnownAt, List.lookup, consD] at hk
            simp [execOp, Act.eval, hk, go_sem]
            all_goals rfl
          refine gw_call _ #[.pointer (some ⟨g, 0, none⟩)] (fun v _ => v = .int .i64 (8 * (n0 : Int) - (pn : Int))) (mono_eq _) (fun a' w' hk => ?_) (fun w' hb => (rdLeft_any g l0 pn w' (HRD.out.below (below_drew0.trans hb))).mono ?_) ?_
          · refine ⟨wanted_none rfl, ?_⟩
            simp [Oper.looksAt, Op.operands, Call.operands, KnownAt, List.lookup, consD] at hk
            simp [execOp, Act.eval, hk, go_sem]
            all_goals rfl
          · rw [HL0.out]
            rintro e w'' ⟨rfl, kd, rfl⟩
            exact ⟨_, rfl, rfl, below_drewN _ _ kd⟩
          apply gw_val
          · intro a' w' hk
            refine ⟨wanted_none rfl, ?_⟩
            simp [Oper.looksAt, Op.operands, Call.operands, KnownAt, List.lookup, consD] at hk
            simp [execOp, Act.eval, hk, go_sem]
            all_goals rfl
          apply gw_val
          · intro a' w' hk
            refine ⟨wanted_none rfl, ?_⟩
            simp [Oper.looksAt, Op.operands, Call.operands, KnownAt, List.lookup, consD] at hk
            simp [execOp, Act.eval, hk, go_sem]
            all_goals rfl
          apply gw_val
          · intro a' w' hk
            refine ⟨wanted_none rfl, ?_⟩
            simp [Oper.looksAt, Op.operands, Call.operands, KnownAt, List.lookup, consD] at hk
            simp [execOp, Act.eval, hk, go_sem]
            all_goals rfl
          refine gw_valB (fun v _ => ∃ a c, v = .slice a (8 * n0) c) (fun _ _ _ h _ => h) ?_ ?_
          · intro a' w' hb' hk
            obtain ⟨ar, nr, cr, hbr, hlr, hrest⟩ := (HRR.out.below (below_drew0.trans hb')).ex
            have hc := hbr.cell (i := 0) rfl
            refine ⟨wanted_none rfl, .slice ar nr cr, ?_, ar, cr, by rw [← hlr, HL0.out]⟩
            simp [Oper.looksAt, Op.operands, Call.operands, KnownAt, List.lookup, consD] at hk
            simp [execOp, Act.eval, hk, hc, go_sem]
            all_goals rfl
          refine gw_valB (fun v _ => v = .int .i64 (8 * (n0 : Int))) (mono_eq _) ?_ ?_
          · intro a' w' hb' hk
            have hk103 := hk 103 (by decide)
            simp [KnownAt, List.lookup, consD] at hk103
            obtain ⟨ar, cr, h103⟩ := hk103
            refine ⟨wanted_none rfl, _, ?_, rfl⟩
            simp [execOp, Act.eval, h103, go_sem]
            all_goals rfl
          apply gw_val
          · intro a' w' hk
            refine ⟨wanted_none rfl, ?_⟩
            simp [Oper.looksAt, Op.operands, Call.operands, KnownAt, List.lookup, consD] at hk
            simp [execOp, Act.eval, hk, go_sem]
            all_goals rfl
          apply gw_val
          · intro a' w' hk
            refine ⟨wanted_none rfl, ?_⟩
            simp [Oper.looksAt, Op.operands, Call.operands, KnownAt, List.lookup, consD] at hk
            simp [execOp, Act.eval, hk, go_sem]
            all_goals rfl
          apply gw_val
          · intro a' w' hk
            refine ⟨wanted_none rfl, ?_⟩
            simp [Oper.looksAt, Op.operands, Call.operands, KnownAt, List.lookup, consD] at hk
            simp [execOp, Act.eval, hk, go_sem]
            all_goals rfl
          refine gw_valB (fun v _ => v = .int .i64 (pn : Int)) (mono_eq _) ?_ ?_
          · intro a' w' hb' hk
            obtain ⟨ar, nr, cr, hbr, hlr, hrest⟩ := (HRR.out.below (below_drew0.trans hb')).ex
            have hc := hbr.cell (i := 1) rfl
            refine ⟨wanted_none rfl, _, ?_, rfl⟩
            simp [Oper.looksAt, Op.operands, Call.operands, KnownAt, List.lookup, consD] at hk
            simp [execOp, Act.eval, hk, hc, go_sem]
            all_goals rfl
          refine gw_val (.int .i64 (8 * (n0 : Int) - (pn : Int))) ?_ ?_
          · intro a' w' hk
            refine ⟨wanted_none rfl, ?_⟩
            simp [Oper.looksAt, Op.operands, Call.operands, KnownAt, List.lookup, consD] at hk
            have hw : IntKind.i64.wrap (8 * (n0 : Int) - (pn : Int)) = 8 * (n0 : Int) - (pn : Int) := IntWalk.i64_in _ (by omega)
            simp [execOp, Act.eval, hk, go_sem, hw]
            all_goals rfl
          apply gw_val
          · intro a' w' hk
            refine ⟨wanted_none rfl, ?_⟩
            simp [Oper.looksAt, Op.operands, Call.operands, KnownAt, List.lookup, consD] at hk
            simp [execOp, Act.eval, hk, go_sem]
            all_goals rfl
          intro vs w' hb hall
          simp only [AllS, consD] at hall
          simp only [consD, putAllS, Act.put]
          obtain ⟨h6, -⟩ := hall
          rw [h6]
          simp only [List.setIfInBounds_toArray, List.set_cons_succ, List.set_cons_zero]
          have hb' := drew_later hb
          have hrd3 := HRD.out.below hb'
          have hrr3 := HRR.out.below hb'
          have hB3 := below_trans0 HB.out HB.out.size hb'
          clear hb hb' h6
          go_wp2
          go_roundw
          case rel => exact ⟨k + 1, pn, by omega, by go_num, hrd3, hrr3, hB3⟩
          case measure => simp [intOf]; omega
        · have hk' : n1 = k := by omega
          subst hk'
          go_wp2
          go_ret
          exact ⟨rfl, hB⟩
end Go.Proofs.Ytmmgcfhoigpomaa
