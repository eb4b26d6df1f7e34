/- RecordReads. -/
import Derived.Test.YtbknkahakmfhkaaRecX
import Derived.Test.YtbknkahakmfhkaaRecY
import Derived.Test.YtbknkahakmfhkaaRecO
import Derived.Test.YtbknkahakmfhkaaReadsK
namespace Go.Proofs.Ytbknkahakmfhkaa
open Go.RowKit
set_option linter.unusedVariables false
set_option linter.unusedSimpArgs false

set_option maxRecDepth 100000 in
set_option maxHeartbeats 64000000 in
theorem walkRecordReads (a : Option Addr) (n c : Nat) (l : List UInt8) (k : Int) (w : World) (hl : l.length = n) (hm : n ≤ c ∧ c ≤ maxLen) (hr : Rd w bE a l) (hk : 0 ≤ k ∧ k < 256) :
  Calls Try.prog 5 #[.slice a n c, .int .u8 k] w fun e w' => e = .returned (.bool true) ∧ Below w.heap.size w w' := by
  obtain ⟨k, rfl⟩ := Int.eq_ofNat_of_zero_le hk.1
  have HA := Lib.hid (And.intro hl (And.intro hm hr))
  clear hl hm hr
  have hk2 : k < 256 := by omega
  clear hk
  go_enter Try.func5, Try.ntmps5
  go_wp2_with fail
  refine (fixed12_any w).mono ?_
  rintro e w0 ⟨rfl, hB0⟩
  by_cases hbig : 600 < n
  · go_wp2
    go_ret
    exact ⟨rfl, hB0⟩
  · have HN : Hid (n ≤ 600) := Lib.hid (by omega)
    go_wp2_with fail
    refine (cNew_any a n c l w0 HA.out.1 (by have := HN.out; omega) (HA.out.2.2.below hB0)).mono ?_
    rintro e w1 ⟨g1, rfl, hg1, hcu, hb⟩
    have hB1 := hB0.trans (hb.mono hB0.size)
    have hrf := RefOk.new w1 HA.out.1 HA.out.2.1.1 (by have := HA.out.2.1.2; unfold maxLen at this; have := HN.out; omega) (HA.out.2.2.below hB1)
    have hb2 := below_alloc w1 (.cells #[.slice a n c, .int .i64 0, .int .i64 0] 44)
    have HC := Lib.hid (hcu.below hb2)
    have HR := Lib.hid hrf
    have HB := Lib.hid (hB1.trans (hb2.mono hB1.size))
    have HG : Hid (w.heap.size ≤ g1 ∧ g1 < w1.heap.size) := Lib.hid ⟨Nat.le_trans hB0.size hg1, hcu.lt2⟩
    clear hg1 hcu hb hB1 hrf hb2 hB0
    go_upto_region 8 with fail
    obtain ⟨g2, hg2⟩ : ∃ o, o = w1.heap.size := ⟨_, rfl⟩
    rw [← hg2] at HR HG ⊢
    clear hg2
    generalize w1.alloc (.cells #[.slice a n c, .int .i64 0, .int .i64 0] 44) = w2 at HC HR HB ⊢
    have hm4 : (k : Int) % 4 = 0 ∨ (k : Int) % 4 = 1 ∨ (k : Int) % 4 = 2 ∨ (k : Int) % 4 = 3 := by omega
    generalize (k : Int) % 4 = m at hm4 ⊢
    rcases hm4 with rfl | rfl | rfl | rfl
    · go_wp2_with fail
      refine (cReadLocal_any g1 l (0, 0) w2 HC.out).mono ?_
      rintro e wa ⟨rfl, hcu, hgr⟩
      have HR1 := Lib.hid (HR.out.keep2 (keep_of_grown hgr HC.out.nobyte2) hgr (by have := HG.out; omega))
      have HB1 := Lib.hid (HB.out.grown hgr HB.out.size (fun j hj => by simp only [Option.some.injEq] at hj; have := HG.out; omega))
      have HC1 := Lib.hid hcu
      have HLAW := Lib.hid (localQ_P l (0, 0))
      generalize hres : localP l (0, 0) = R at HC1
      have HRES := Lib.hid hres
      clear hcu hgr hres HC HR HB
      obtain ⟨⟨r, bb⟩, p, er⟩ := R
      obtain ⟨me, da, cl, su, pa, si, na, of⟩ := r
      simp only [Rec.arr]
      have hb8 := below_alloc wa (.cells #[.int .i64 me, .int .u16 da, .int .u16 cl, .int .u32 su, .int .i64 pa, .int .i64 si, .string na, .int .i64 of] TR)
      have HC := Lib.hid (HC1.out.below hb8)
      have HR := Lib.hid (HR1.out.below hb8)
      have HB := Lib.hid (HB1.out.trans (hb8.mono HB1.out.size))
      have HK8 := Lib.hid (Blk.new wa TR #[.int .i64 me, .int .u16 da, .int .u16 cl, .int .u32 su, .int .i64 pa, .int .i64 si, .string na, .int .i64 of])
      have HO8 : Hid (g1 < wa.heap.size ∧ g2 < wa.heap.size) := Lib.hid ⟨HC1.out.lt2, HR1.out.lt2⟩
      clear hb8 HC1 HR1 HB1
      go_wp2_with fail
      obtain ⟨o8, ho8⟩ : ∃ o, o = wa.heap.size := ⟨_, rfl⟩
      rw [← ho8] at HK8 HO8 ⊢
      clear ho8
      generalize wa.alloc (.cells #[.int .i64 me, .int .u16 da, .int .u16 cl, .int .u32 su, .int .i64 pa, .int .i64 si, .string na, .int .i64 of] TR) = w4 at HC HR HB HK8 ⊢
      refine (rReadLocal_any g2 l (0, 0) w4 HR.out).mono ?_
      rw [HLAW.out, HRES.out]
      rintro e wb ⟨rfl, hrf, hgr⟩
      have HC1 := Lib.hid (HC.out.gs (Gs.of_grown hgr) (by intro k hk; simp only [List.mem_singleton] at hk; have := HG.out; omega))
      have HB1 := Lib.hid (HB.out.grown hgr HB.out.size (fun j hj => by simp only [Option.some.injEq] at hj; have := HG.out; omega))
      have HR1 := Lib.hid hrf
      have HK81 := Lib.hid (HK8.out.grown hgr (by have := HO8.out; intro e; simp only [Option.some.injEq] at e; omega))
      clear hrf hgr HC HR HB HK8
      simp only [Rec.arr]
      have hb10 := below_alloc wb (.cells #[.int .i64 me, .int .u16 da, .int .u16 cl, .int .u32 su, .int .i64 pa, .int .i64 si, .string na, .int .i64 of] TR)
      have HC := Lib.hid (HC1.out.below hb10)
      have HR := Lib.hid (HR1.out.below hb10)
      have HB := Lib.hid (HB1.out.trans (hb10.mono HB1.out.size))
      have HK10 := Lib.hid (Blk.new wb TR #[.int .i64 me, .int .u16 da, .int .u16 cl, .int .u32 su, .int .i64 pa, .int .i64 si, .string na, .int .i64 of])
      have HK8 := Lib.hid (HK81.out.below hb10)
      clear hb10 HC1 HR1 HB1 HK81
      go_wp2_with (first | (refine wpList_load_row rfl _ _ rfl _ rfl _ _ _ _ HK8.out Try.underlying27 rfl size_rec ?_) | (refine wpList_load_row rfl _ _ rfl _ rfl _ _ _ _ HK10.out Try.underlying27 rfl size_rec ?_))
      clear HK8 HK10
      generalize wb.alloc (.cells #[.int .i64 me, .int .u16 da, .int .u16 cl, .int .u32 su, .int .i64 pa, .int .i64 si, .string na, .int .i64 of] TR) = w9 at HC HR HB ⊢
      by_cases her0 : er = 0
      · subst her0
        refine wp_region_grow (by kernel_rfl) (by kernel_rfl) (by rfl) ?_
        refine gw_val (.bool true) ?_ ?_
        · intro a' w' hk
          refine ⟨wanted_none rfl, ?_⟩
          simp [Oper.looksAt, Op.operands, Call.operands, KnownAt, List.lookup, consD] at hk
          simp [execOp, Act.eval, hk, go_sem]
          all_goals rfl
        refine gw_val (.bool true) ?_ ?_
        · intro a' w' hk
          refine ⟨wanted_none rfl, ?_⟩
          simp [Oper.looksAt, Op.operands, Call.operands, KnownAt, List.lookup, consD] at hk
          simp [execOp, Act.eval, hk, go_sem]
          all_goals rfl
        apply gw_val
        · intro a' w' hk
          refine ⟨wanted_guard (t := 109) rfl rfl (by simpa [KnownAt, List.lookup, consD] using hk 109 (by decide)), ?_⟩
          simp [Oper.looksAt, Op.operands, Call.operands, KnownAt, List.lookup, consD] at hk
          simp [execOp, Act.eval, hk, go_sem]
          all_goals rfl
        refine gw_call _ #[.pointer (some ⟨g1, 0, none⟩)] (fun v _ => v = .int .i64 0) (mono_eq _) (fun a' w' hk => ?_) (fun w' hb => (cErr_any g1 l p 0 w' (HC.out.below (((Below.refl w9.heap.size w9).drew).trans hb))).mono ?_) ?_
        · refine ⟨wanted_guard (t := 109) rfl rfl (by simpa [KnownAt, List.lookup, consD] using hk 109 (by decide)), ?_⟩
          simp [Oper.looksAt, Op.operands, Call.operands, KnownAt, List.lookup, consD] at hk
          simp [execOp, Act.eval, hk, go_sem]
          all_goals rfl
        · rintro e w'' ⟨rfl, rfl⟩
          exact ⟨_, rfl, rfl, Below.refl _ _⟩
        apply gw_val
        · intro a' w' hk
          refine ⟨wanted_guard (t := 109) rfl rfl (by simpa [KnownAt, List.lookup, consD] using hk 109 (by decide)), ?_⟩
          simp [Oper.looksAt, Op.operands, Call.operands, KnownAt, List.lookup, consD] at hk
          simp [execOp, Act.eval, hk, go_sem]
          all_goals rfl
        apply gw_val
        · intro a' w' hk
          refine ⟨wanted_guard (t := 109) rfl rfl (by simpa [KnownAt, List.lookup, consD] using hk 109 (by decide)), ?_⟩
          simp [Oper.looksAt, Op.operands, Call.operands, KnownAt, List.lookup, consD] at hk
          simp [execOp, Act.eval, hk, go_sem]
          all_goals rfl
        apply gw_val
        · intro a' w' hk
          refine ⟨wanted_guard (t := 109) rfl rfl (by simpa [KnownAt, List.lookup, consD] using hk 109 (by decide)), ?_⟩
          simp [Oper.looksAt, Op.operands, Call.operands, KnownAt, List.lookup, consD] at hk
          simp [execOp, Act.eval, hk, go_sem]
          all_goals rfl
        refine gw_valB (fun v _ => v = .int .i64 0) (mono_eq _) ?_ ?_
        · intro a' w' hb' hk
          refine ⟨wanted_guard (t := 109) rfl rfl (by simpa [KnownAt, List.lookup, consD] using hk 109 (by decide)), _, ?_, rfl⟩
          have q0 := cell_later2 (HR.out.cell2) hb'
          simp [Oper.looksAt, Op.operands, Call.operands, KnownAt, List.lookup, consD] at hk
          simp [execOp, Act.eval, hk, q0, go_sem]
          all_goals rfl
        refine gw_val (.bool true) ?_ ?_
        · intro a' w' hk
          refine ⟨wanted_guard (t := 109) rfl rfl (by simpa [KnownAt, List.lookup, consD] using hk 109 (by decide)), ?_⟩
          simp [Oper.looksAt, Op.operands, Call.operands, KnownAt, List.lookup, consD] at hk
          simp [execOp, Act.eval, hk, go_sem]
          all_goals rfl
        refine gw_val (.bool true) ?_ ?_
        · intro a' w' hk
          refine ⟨wanted_none rfl, ?_⟩
          simp [Oper.looksAt, Op.operands, Call.operands, KnownAt, List.lookup, consD] at hk
          simp [execOp, Act.eval, hk, go_sem]
          all_goals rfl
        refine gw_val (.bool true) ?_ ?_
        · intro a' w' hk
          refine ⟨wanted_none rfl, ?_⟩
          simp [Oper.looksAt, Op.operands, Call.operands, KnownAt, List.lookup, consD] at hk
          simp [execOp, Act.eval, hk, go_sem]
          all_goals rfl
        apply gw_val
        · intro a' w' hk
          refine ⟨wanted_guard (t := 118) rfl rfl (by simpa [KnownAt, List.lookup, consD] using hk 118 (by decide)), ?_⟩
          simp [Oper.looksAt, Op.operands, Call.operands, KnownAt, List.lookup, consD] at hk
          simp [execOp, Act.eval, hk, go_sem]
          all_goals rfl
        apply gw_val
        · intro a' w' hk
          refine ⟨wanted_guard (t := 118) rfl rfl (by simpa [KnownAt, List.lookup, consD] using hk 118 (by decide)), ?_⟩
          simp [Oper.looksAt, Op.operands, Call.operands, KnownAt, List.lookup, consD] at hk
          simp [execOp, Act.eval, hk, go_sem]
          all_goals rfl
        apply gw_val
        · intro a' w' hk
          refine ⟨wanted_guard (t := 118) rfl rfl (by simpa [KnownAt, List.lookup, consD] using hk 118 (by decide)), ?_⟩
          simp [Oper.looksAt, Op.operands, Call.operands, KnownAt, List.lookup, consD] at hk
          simp [execOp, Act.eval, hk, go_sem]
          all_goals rfl
        refine gw_valB (fun v _ => v = .int .i64 0) (mono_eq _) ?_ ?_
        · intro a' w' hb' hk
          refine ⟨wanted_guard (t := 118) rfl rfl (by simpa [KnownAt, List.lookup, consD] using hk 118 (by decide)), _, ?_, rfl⟩
          have q0 := cell_later2 (HR.out.cell2) hb'
          simp [Oper.looksAt, Op.operands, Call.operands, KnownAt, List.lookup, consD] at hk
          simp [execOp, Act.eval, hk, q0, go_sem]
          all_goals rfl
        refine gw_val (.bool false) ?_ ?_
        · intro a' w' hk
          refine ⟨wanted_guard (t := 118) rfl rfl (by simpa [KnownAt, List.lookup, consD] using hk 118 (by decide)), ?_⟩
          simp [Oper.looksAt, Op.operands, Call.operands, KnownAt, List.lookup, consD] at hk
          simp [execOp, Act.eval, hk, go_sem]
          all_goals rfl
        refine gw_val (.bool false) ?_ ?_
        · intro a' w' hk
          refine ⟨wanted_guard (t := 118) rfl rfl (by simpa [KnownAt, List.lookup, consD] using hk 118 (by decide)), ?_⟩
          simp [Oper.looksAt, Op.operands, Call.operands, KnownAt, List.lookup, consD] at hk
          simp [execOp, Act.eval, hk, go_sem]
          all_goals rfl
        apply gw_val
        · intro a' w' hk
          refine ⟨wanted_guard (t := 124) rfl rfl (by simpa [KnownAt, List.lookup, consD] using hk 124 (by decide)), ?_⟩
          simp [Oper.looksAt, Op.operands, Call.operands, KnownAt, List.lookup, consD] at hk
          simp [execOp, Act.eval, hk, go_sem]
          all_goals rfl
        refine gw_call _ #[.pointer (some ⟨g1, 0, none⟩)] (fun v _ => v = .int .i64 (p : Int)) (mono_eq _) (fun a' w' hk => ?_) (fun w' hb => (cAt_any g1 l p 0 w' (HC.out.below (((Below.refl w9.heap.size w9).drew).trans hb))).mono ?_) ?_
        · refine ⟨wanted_guard (t := 124) rfl rfl (by simpa [KnownAt, List.lookup, consD] using hk 124 (by decide)), ?_⟩
          simp [Oper.looksAt, Op.operands, Call.operands, KnownAt, List.lookup, consD] at hk
          simp [execOp, Act.eval, hk, go_sem]
          all_goals rfl
        · rintro e w'' ⟨rfl, rfl⟩
          exact ⟨_, rfl, rfl, Below.refl _ _⟩
        apply gw_val
        · intro a' w' hk
          refine ⟨wanted_guard (t := 124) rfl rfl (by simpa [KnownAt, List.lookup, consD] using hk 124 (by decide)), ?_⟩
          simp [Oper.looksAt, Op.operands, Call.operands, KnownAt, List.lookup, consD] at hk
          simp [execOp, Act.eval, hk, go_sem]
          all_goals rfl
        apply gw_val
        · intro a' w' hk
          refine ⟨wanted_guard (t := 124) rfl rfl (by simpa [KnownAt, List.lookup, consD] using hk 124 (by decide)), ?_⟩
          simp [Oper.looksAt, Op.operands, Call.operands, KnownAt, List.lookup, consD] at hk
          simp [execOp, Act.eval, hk, go_sem]
          all_goals rfl
        apply gw_val
        · intro a' w' hk
          refine ⟨wanted_guard (t := 124) rfl rfl (by simpa [KnownAt, List.lookup, consD] using hk 124 (by decide)), ?_⟩
          simp [Oper.looksAt, Op.operands, Call.operands, KnownAt, List.lookup, consD] at hk
          simp [execOp, Act.eval, hk, go_sem]
          all_goals rfl
        refine gw_valB (fun v _ => v = .int .i64 (p : Int)) (mono_eq _) ?_ ?_
        · intro a' w' hb' hk
          refine ⟨wanted_guard (t := 124) rfl rfl (by simpa [KnownAt, List.lookup, consD] using hk 124 (by decide)), _, ?_, rfl⟩
          have q0 := cell_later2 (HR.out.cell1) hb'
          simp [Oper.looksAt, Op.operands, Call.operands, KnownAt, List.lookup, consD] at hk
          simp [execOp, Act.eval, hk, q0, go_sem]
          all_goals rfl
        refine gw_val (.bool true) ?_ ?_
        · intro a' w' hk
          refine ⟨wanted_guard (t := 124) rfl rfl (by simpa [KnownAt, List.lookup, consD] using hk 124 (by decide)), ?_⟩
          simp [Oper.looksAt, Op.operands, Call.operands, KnownAt, List.lookup, consD] at hk
          simp [execOp, Act.eval, hk, go_sem]
          all_goals rfl
        refine gw_val (.bool true) ?_ ?_
        · intro a' w' hk
          refine ⟨wanted_guard (t := 118) rfl rfl (by simpa [KnownAt, List.lookup, consD] using hk 118 (by decide)), ?_⟩
          simp [Oper.looksAt, Op.operands, Call.operands, KnownAt, List.lookup, consD] at hk
          simp [execOp, Act.eval, hk, go_sem]
          all_goals rfl
        refine gw_val (.bool true) ?_ ?_
        · intro a' w' hk
          refine ⟨wanted_none rfl, ?_⟩
          simp [Oper.looksAt, Op.operands, Call.operands, KnownAt, List.lookup, consD] at hk
          simp [execOp, Act.eval, hk, go_sem]
          all_goals rfl
        refine gw_val (.bool true) ?_ ?_
        · intro a' w' hk
          refine ⟨wanted_none rfl, ?_⟩
          simp [Oper.looksAt, Op.operands, Call.operands, KnownAt, List.lookup, consD] at hk
          simp [execOp, Act.eval, hk, go_sem]
          all_goals rfl
        intro vs w3 hb3 hall
        simp only [AllS, consD] at hall
        simp only [consD, putAllS, Act.put]
        obtain ⟨h9, -⟩ := hall
        rw [h9]
        simp only [List.setIfInBounds_toArray, List.set_cons_succ, List.set_cons_zero]
        have hb3' : Below w9.heap.size w9 w3 := ((Below.refl w9.heap.size w9).drew).trans hb3
        have HF := Lib.hid (HB.out.trans (hb3'.mono HB.out.size))
        clear hb3 hb3'
        go_wp2
        go_ret
        exact ⟨rfl, HF.out⟩
      · have her : (er == 0) = false := by simpa using her0
        refine wp_region_grow (by kernel_rfl) (by kernel_rfl) (by rfl) ?_
        refine gw_val (.bool true) ?_ ?_
        · intro a' w' hk
          refine ⟨wanted_none rfl, ?_⟩
          simp [Oper.looksAt, Op.operands, Call.operands, KnownAt, List.lookup, consD] at hk
          simp [execOp, Act.eval, hk, go_sem]
          all_goals rfl
        refine gw_val (.bool true) ?_ ?_
        · intro a' w' hk
          refine ⟨wanted_none rfl, ?_⟩
          simp [Oper.looksAt, Op.operands, Call.operands, KnownAt, List.lookup, consD] at hk
          simp [execOp, Act.eval, hk, go_sem]
          all_goals rfl
        apply gw_val
        · intro a' w' hk
          refine ⟨wanted_guard (t := 109) rfl rfl (by simpa [KnownAt, List.lookup, consD] using hk 109 (by decide)), ?_⟩
          simp [Oper.looksAt, Op.operands, Call.operands, KnownAt, List.lookup, consD] at hk
          simp [execOp, Act.eval, hk, go_sem]
          all_goals rfl
        refine gw_call _ #[.pointer (some ⟨g1, 0, none⟩)] (fun v _ => v = .int .i64 er) (mono_eq _) (fun a' w' hk => ?_) (fun w' hb => (cErr_any g1 l p er w' (HC.out.below (((Below.refl w9.heap.size w9).drew).trans hb))).mono ?_) ?_
        · refine ⟨wanted_guard (t := 109) rfl rfl (by simpa [KnownAt, List.lookup, consD] using hk 109 (by decide)), ?_⟩
          simp [Oper.looksAt, Op.operands, Call.operands, KnownAt, List.lookup, consD] at hk
          simp [execOp, Act.eval, hk, go_sem]
          all_goals rfl
        · rintro e w'' ⟨rfl, rfl⟩
          exact ⟨_, rfl, rfl, Below.refl _ _⟩
        apply gw_val
        · intro a' w' hk
          refine ⟨wanted_guard (t := 109) rfl rfl (by simpa [KnownAt, List.lookup, consD] using hk 109 (by decide)), ?_⟩
          simp [Oper.looksAt, Op.operands, Call.operands, KnownAt, List.lookup, consD] at hk
          simp [execOp, Act.eval, hk, go_sem]
          all_goals rfl
        apply gw_val
        · intro a' w' hk
          refine ⟨wanted_guard (t := 109) rfl rfl (by simpa [KnownAt, List.lookup, consD] using hk 109 (by decide)), ?_⟩
          simp [Oper.looksAt, Op.operands, Call.operands, KnownAt, List.lookup, consD] at hk
          simp [execOp, Act.eval, hk, go_sem]
          all_goals rfl
        apply gw_val
        · intro a' w' hk
          refine ⟨wanted_guard (t := 109) rfl rfl (by simpa [KnownAt, List.lookup, consD] using hk 109 (by decide)), ?_⟩
          simp [Oper.looksAt, Op.operands, Call.operands, KnownAt, List.lookup, consD] at hk
          simp [execOp, Act.eval, hk, go_sem]
          all_goals rfl
        refine gw_valB (fun v _ => v = .int .i64 er) (mono_eq _) ?_ ?_
        · intro a' w' hb' hk
          refine ⟨wanted_guard (t := 109) rfl rfl (by simpa [KnownAt, List.lookup, consD] using hk 109 (by decide)), _, ?_, rfl⟩
          have q0 := cell_later2 (HR.out.cell2) hb'
          simp [Oper.looksAt, Op.operands, Call.operands, KnownAt, List.lookup, consD] at hk
          simp [execOp, Act.eval, hk, q0, go_sem]
          all_goals rfl
        refine gw_val (.bool true) ?_ ?_
        · intro a' w' hk
          refine ⟨wanted_guard (t := 109) rfl rfl (by simpa [KnownAt, List.lookup, consD] using hk 109 (by decide)), ?_⟩
          simp [Oper.looksAt, Op.operands, Call.operands, KnownAt, List.lookup, consD] at hk
          simp [execOp, Act.eval, hk, go_sem]
          all_goals rfl
        refine gw_val (.bool true) ?_ ?_
        · intro a' w' hk
          refine ⟨wanted_none rfl, ?_⟩
          simp [Oper.looksAt, Op.operands, Call.operands, KnownAt, List.lookup, consD] at hk
          simp [execOp, Act.eval, hk, go_sem]
          all_goals rfl
        refine gw_val (.bool true) ?_ ?_
        · intro a' w' hk
          refine ⟨wanted_none rfl, ?_⟩
          simp [Oper.looksAt, Op.operands, Call.operands, KnownAt, List.lookup, consD] at hk
          simp [execOp, Act.eval, hk, go_sem]
          all_goals rfl
        apply gw_val
        · intro a' w' hk
          refine ⟨wanted_guard (t := 118) rfl rfl (by simpa [KnownAt, List.lookup, consD] using hk 118 (by decide)), ?_⟩
          simp [Oper.looksAt, Op.operands, Call.operands, KnownAt, List.lookup, consD] at hk
          simp [execOp, Act.eval, hk, go_sem]
          all_goals rfl
        apply gw_val
        · intro a' w' hk
          refine ⟨wanted_guard (t := 118) rfl rfl (by simpa [KnownAt, List.lookup, consD] using hk 118 (by decide)), ?_⟩
          simp [Oper.looksAt, Op.operands, Call.operands, KnownAt, List.lookup, consD] at hk
          simp [execOp, Act.eval, hk, go_sem]
          all_goals rfl
        apply gw_val
        · intro a' w' hk
          refine ⟨wanted_guard (t := 118) rfl rfl (by simpa [KnownAt, List.lookup, consD] using hk 118 (by decide)), ?_⟩
          simp [Oper.looksAt, Op.operands, Call.operands, KnownAt, List.lookup, consD] at hk
          simp [execOp, Act.eval, hk, go_sem]
          all_goals rfl
        refine gw_valB (fun v _ => v = .int .i64 er) (mono_eq _) ?_ ?_
        · intro a' w' hb' hk
          refine ⟨wanted_guard (t := 118) rfl rfl (by simpa [KnownAt, List.lookup, consD] using hk 118 (by decide)), _, ?_, rfl⟩
          have q0 := cell_later2 (HR.out.cell2) hb'
          simp [Oper.looksAt, Op.operands, Call.operands, KnownAt, List.lookup, consD] at hk
          simp [execOp, Act.eval, hk, q0, go_sem]
          all_goals rfl
        refine gw_val (.bool true) ?_ ?_
        · intro a' w' hk
          refine ⟨wanted_guard (t := 118) rfl rfl (by simpa [KnownAt, List.lookup, consD] using hk 118 (by decide)), ?_⟩
          simp [Oper.looksAt, Op.operands, Call.operands, KnownAt, List.lookup, consD] at hk
          simp [execOp, Act.eval, hk, go_sem, her, her0]
          all_goals rfl
        refine gw_val (.bool true) ?_ ?_
        · intro a' w' hk
          refine ⟨wanted_guard (t := 118) rfl rfl (by simpa [KnownAt, List.lookup, consD] using hk 118 (by decide)), ?_⟩
          simp [Oper.looksAt, Op.operands, Call.operands, KnownAt, List.lookup, consD] at hk
          simp [execOp, Act.eval, hk, go_sem]
          all_goals rfl
        refine gw_skip (fun a' w' hk => wanted_not (t := 124) rfl rfl (by simpa [KnownAt, List.lookup, consD] using hk 124 (by decide)) (by decide)) ?_
        refine gw_skip (fun a' w' hk => wanted_not (t := 124) rfl rfl (by simpa [KnownAt, List.lookup, consD] using hk 124 (by decide)) (by decide)) ?_
        refine gw_skip (fun a' w' hk => wanted_not (t := 124) rfl rfl (by simpa [KnownAt, List.lookup, consD] using hk 124 (by decide)) (by decide)) ?_
        refine gw_skip (fun a' w' hk => wanted_not (t := 124) rfl rfl (by simpa [KnownAt, List.lookup, consD] using hk 124 (by decide)) (by decide)) ?_
        refine gw_skip (fun a' w' hk => wanted_not (t := 124) rfl rfl (by simpa [KnownAt, List.lookup, consD] using hk 124 (by decide)) (by decide)) ?_
        refine gw_skip (fun a' w' hk => wanted_not (t := 124) rfl rfl (by simpa [KnownAt, List.lookup, consD] using hk 124 (by decide)) (by decide)) ?_
        refine gw_skip (fun a' w' hk => wanted_not (t := 124) rfl rfl (by simpa [KnownAt, List.lookup, consD] using hk 124 (by decide)) (by decide)) ?_
        refine gw_val (.bool true) ?_ ?_
        · intro a' w' hk
          refine ⟨wanted_guard (t := 118) rfl rfl (by simpa [KnownAt, List.lookup, consD] using hk 118 (by decide)), ?_⟩
          simp [Oper.looksAt, Op.operands, Call.operands, KnownAt, List.lookup, consD] at hk
          simp [execOp, Act.eval, hk, go_sem]
          all_goals rfl
        refine gw_val (.bool true) ?_ ?_
        · intro a' w' hk
          refine ⟨wanted_none rfl, ?_⟩
          simp [Oper.looksAt, Op.operands, Call.operands, KnownAt, List.lookup, consD] at hk
          simp [execOp, Act.eval, hk, go_sem]
          all_goals rfl
        refine gw_val (.bool true) ?_ ?_
        · intro a' w' hk
          refine ⟨wanted_none rfl, ?_⟩
          simp [Oper.looksAt, Op.operands, Call.operands, KnownAt, List.lookup, consD] at hk
          simp [execOp, Act.eval, hk, go_sem]
          all_goals rfl
        intro vs w3 hb3 hall
        simp only [AllS, consD] at hall
        simp only [consD, putAllS, Act.put]
        obtain ⟨h9, -⟩ := hall
        rw [h9]
        simp only [List.setIfInBounds_toArray, List.set_cons_succ, List.set_cons_zero]
        have hb3' : Below w9.heap.size w9 w3 := ((Below.refl w9.heap.size w9).drew).trans hb3
        have HF := Lib.hid (HB.out.trans (hb3'.mono HB.out.size))
        clear hb3 hb3'
        go_wp2
        go_ret
        exact ⟨rfl, HF.out⟩
    · go_wp2_with fail
      refine (cReadCentral_any g1 l (0, 0) w2 HC.out).mono ?_
      rintro e wa ⟨rfl, hcu, hgr⟩
      have HR1 := Lib.hid (HR.out.keep2 (keep_of_grown hgr HC.out.nobyte2) hgr (by have := HG.out; omega))
      have HB1 := Lib.hid (HB.out.grown hgr HB.out.size (fun j hj => by simp only [Option.some.injEq] at hj; have := HG.out; omega))
      have HC1 := Lib.hid hcu
      have HLAW := Lib.hid (centralQ_P l (0, 0))
      generalize hres : centralP l (0, 0) = R at HC1
      have HRES := Lib.hid hres
      clear hcu hgr hres HC HR HB
      obtain ⟨⟨r, bb⟩, p, er⟩ := R
      obtain ⟨me, da, cl, su, pa, si, na, of⟩ := r
      simp only [Rec.arr]
      have hb8 := below_alloc wa (.cells #[.int .i64 me, .int .u16 da, .int .u16 cl, .int .u32 su, .int .i64 pa, .int .i64 si, .string na, .int .i64 of] TR)
      have HC := Lib.hid (HC1.out.below hb8)
      have HR := Lib.hid (HR1.out.below hb8)
      have HB := Lib.hid (HB1.out.trans (hb8.mono HB1.out.size))
      have HK8 := Lib.hid (Blk.new wa TR #[.int .i64 me, .int .u16 da, .int .u16 cl, .int .u32 su, .int .i64 pa, .int .i64 si, .string na, .int .i64 of])
      have HO8 : Hid (g1 < wa.heap.size ∧ g2 < wa.heap.size) := Lib.hid ⟨HC1.out.lt2, HR1.out.lt2⟩
      clear hb8 HC1 HR1 HB1
      go_wp2_with fail
      obtain ⟨o8, ho8⟩ : ∃ o, o = wa.heap.size := ⟨_, rfl⟩
      rw [← ho8] at HK8 HO8 ⊢
      clear ho8
      generalize wa.alloc (.cells #[.int .i64 me, .int .u16 da, .int .u16 cl, .int .u32 su, .int .i64 pa, .int .i64 si, .string na, .int .i64 of] TR) = w4 at HC HR HB HK8 ⊢
      refine (rReadCentral_any g2 l (0, 0) w4 HR.out).mono ?_
      rw [HLAW.out, HRES.out]
      rintro e wb ⟨rfl, hrf, hgr⟩
      have HC1 := Lib.hid (HC.out.gs (Gs.of_grown hgr) (by intro k hk; simp only [List.mem_singleton] at hk; have := HG.out; omega))
      have HB1 := Lib.hid (HB.out.grown hgr HB.out.size (fun j hj => by simp only [Option.some.injEq] at hj; have := HG.out; omega))
      have HR1 := Lib.hid hrf
      have HK81 := Lib.hid (HK8.out.grown hgr (by have := HO8.out; intro e; simp only [Option.some.injEq] at e; omega))
      clear hrf hgr HC HR HB HK8
      simp only [Rec.arr]
      have hb10 := below_alloc wb (.cells #[.int .i64 me, .int .u16 da, .int .u16 cl, .int .u32 su, .int .i64 pa, .int .i64 si, .string na, .int .i64 of] TR)
      have HC := Lib.hid (HC1.out.below hb10)
      have HR := Lib.hid (HR1.out.below hb10)
      have HB := Lib.hid (HB1.out.trans (hb10.mono HB1.out.size))
      have HK10 := Lib.hid (Blk.new wb TR #[.int .i64 me, .int .u16 da, .int .u16 cl, .int .u32 su, .int .i64 pa, .int .i64 si, .string na, .int .i64 of])
      have HK8 := Lib.hid (HK81.out.below hb10)
      clear hb10 HC1 HR1 HB1 HK81
      go_wp2_with (first | (refine wpList_load_row rfl _ _ rfl _ rfl _ _ _ _ HK8.out Try.underlying27 rfl size_rec ?_) | (refine wpList_load_row rfl _ _ rfl _ rfl _ _ _ _ HK10.out Try.underlying27 rfl size_rec ?_))
      clear HK8 HK10
      generalize wb.alloc (.cells #[.int .i64 me, .int .u16 da, .int .u16 cl, .int .u32 su, .int .i64 pa, .int .i64 si, .string na, .int .i64 of] TR) = w9 at HC HR HB ⊢
      by_cases her0 : er = 0
      · subst her0
        refine wp_region_grow (by kernel_rfl) (by kernel_rfl) (by rfl) ?_
        refine gw_val (.bool true) ?_ ?_
        · intro a' w' hk
          refine ⟨wanted_none rfl, ?_⟩
          simp [Oper.looksAt, Op.operands, Call.operands, KnownAt, List.lookup, consD] at hk
          simp [execOp, Act.eval, hk, go_sem]
          all_goals rfl
        refine gw_val (.bool true) ?_ ?_
        · intro a' w' hk
          refine ⟨wanted_none rfl, ?_⟩
          simp [Oper.looksAt, Op.operands, Call.operands, KnownAt, List.lookup, consD] at hk
          simp [execOp, Act.eval, hk, go_sem]
          all_goals rfl
        apply gw_val
        · intro a' w' hk
          refine ⟨wanted_guard (t := 109) rfl rfl (by simpa [KnownAt, List.lookup, consD] using hk 109 (by decide)), ?_⟩
          simp [Oper.looksAt, Op.operands, Call.operands, KnownAt, List.lookup, consD] at hk
          simp [execOp, Act.eval, hk, go_sem]
          all_goals rfl
        refine gw_call _ #[.pointer (some ⟨g1, 0, none⟩)] (fun v _ => v = .int .i64 0) (mono_eq _) (fun a' w' hk => ?_) (fun w' hb => (cErr_any g1 l p 0 w' (HC.out.below (((Below.refl w9.heap.size w9).drew).trans hb))).mono ?_) ?_
        · refine ⟨wanted_guard (t := 109) rfl rfl (by simpa [KnownAt, List.lookup, consD] using hk 109 (by decide)), ?_⟩
          simp [Oper.looksAt, Op.operands, Call.operands, KnownAt, List.lookup, consD] at hk
          simp [execOp, Act.eval, hk, go_sem]
          all_goals rfl
        · rintro e w'' ⟨rfl, rfl⟩
          exact ⟨_, rfl, rfl, Below.refl _ _⟩
        apply gw_val
        · intro a' w' hk
          refine ⟨wanted_guard (t := 109) rfl rfl (by simpa [KnownAt, List.lookup, consD] using hk 109 (by decide)), ?_⟩
          simp [Oper.looksAt, Op.operands, Call.operands, KnownAt, List.lookup, consD] at hk
          simp [execOp, Act.eval, hk, go_sem]
          all_goals rfl
        apply gw_val
        · intro a' w' hk
          refine ⟨wanted_guard (t := 109) rfl rfl (by simpa [KnownAt, List.lookup, consD] using hk 109 (by decide)), ?_⟩
          simp [Oper.looksAt, Op.operands, Call.operands, KnownAt, List.lookup, consD] at hk
          simp [execOp, Act.eval, hk, go_sem]
          all_goals rfl
        apply gw_val
        · intro a' w' hk
          refine ⟨wanted_guard (t := 109) rfl rfl (by simpa [KnownAt, List.lookup, consD] using hk 109 (by decide)), ?_⟩
          simp [Oper.looksAt, Op.operands, Call.operands, KnownAt, List.lookup, consD] at hk
          simp [execOp, Act.eval, hk, go_sem]
          all_goals rfl
        refine gw_valB (fun v _ => v = .int .i64 0) (mono_eq _) ?_ ?_
        · intro a' w' hb' hk
          refine ⟨wanted_guard (t := 109) rfl rfl (by simpa [KnownAt, List.lookup, consD] using hk 109 (by decide)), _, ?_, rfl⟩
          have q0 := cell_later2 (HR.out.cell2) hb'
          simp [Oper.looksAt, Op.operands, Call.operands, KnownAt, List.lookup, consD] at hk
          simp [execOp, Act.eval, hk, q0, go_sem]
          all_goals rfl
        refine gw_val (.bool true) ?_ ?_
        · intro a' w' hk
          refine ⟨wanted_guard (t := 109) rfl rfl (by simpa [KnownAt, List.lookup, consD] using hk 109 (by decide)), ?_⟩
          simp [Oper.looksAt, Op.operands, Call.operands, KnownAt, List.lookup, consD] at hk
          simp [execOp, Act.eval, hk, go_sem]
          all_goals rfl
        refine gw_val (.bool true) ?_ ?_
        · intro a' w' hk
          refine ⟨wanted_none rfl, ?_⟩
          simp [Oper.looksAt, Op.operands, Call.operands, KnownAt, List.lookup, consD] at hk
          simp [execOp, Act.eval, hk, go_sem]
          all_goals rfl
        refine gw_val (.bool true) ?_ ?_
        · intro a' w' hk
          refine ⟨wanted_none rfl, ?_⟩
          simp [Oper.looksAt, Op.operands, Call.operands, KnownAt, List.lookup, consD] at hk
          simp [execOp, Act.eval, hk, go_sem]
          all_goals rfl
        apply gw_val
        · intro a' w' hk
          refine ⟨wanted_guard (t := 118) rfl rfl (by simpa [KnownAt, List.lookup, consD] using hk 118 (by decide)), ?_⟩
          simp [Oper.looksAt, Op.operands, Call.operands, KnownAt, List.lookup, consD] at hk
          simp [execOp, Act.eval, hk, go_sem]
          all_goals rfl
        apply gw_val
        · intro a' w' hk
          refine ⟨wanted_guard (t := 118) rfl rfl (by simpa [KnownAt, List.lookup, consD] using hk 118 (by decide)), ?_⟩
          simp [Oper.looksAt, Op.operands, Call.operands, KnownAt, List.lookup, consD] at hk
          simp [execOp, Act.eval, hk, go_sem]
          all_goals rfl
        apply gw_val
        · intro a' w' hk
          refine ⟨wanted_guard (t := 118) rfl rfl (by simpa [KnownAt, List.lookup, consD] using hk 118 (by decide)), ?_⟩
          simp [Oper.looksAt, Op.operands, Call.operands, KnownAt, List.lookup, consD] at hk
          simp [execOp, Act.eval, hk, go_sem]
          all_goals rfl
        refine gw_valB (fun v _ => v = .int .i64 0) (mono_eq _) ?_ ?_
        · intro a' w' hb' hk
          refine ⟨wanted_guard (t := 118) rfl rfl (by simpa [KnownAt, List.lookup, consD] using hk 118 (by decide)), _, ?_, rfl⟩
          have q0 := cell_later2 (HR.out.cell2) hb'
          simp [Oper.looksAt, Op.operands, Call.operands, KnownAt, List.lookup, consD] at hk
          simp [execOp, Act.eval, hk, q0, go_sem]
          all_goals rfl
        refine gw_val (.bool false) ?_ ?_
        · intro a' w' hk
          refine ⟨wanted_guard (t := 118) rfl rfl (by simpa [KnownAt, List.lookup, consD] using hk 118 (by decide)), ?_⟩
          simp [Oper.looksAt, Op.operands, Call.operands, KnownAt, List.lookup, consD] at hk
          simp [execOp, Act.eval, hk, go_sem]
          all_goals rfl
        refine gw_val (.bool false) ?_ ?_
        · intro a' w' hk
          refine ⟨wanted_guard (t := 118) rfl rfl (by simpa [KnownAt, List.lookup, consD] using hk 118 (by decide)), ?_⟩
          simp [Oper.looksAt, Op.operands, Call.operands, KnownAt, List.lookup, consD] at hk
          simp [execOp, Act.eval, hk, go_sem]
          all_goals rfl
        apply gw_val
        · intro a' w' hk
          refine ⟨wanted_guard (t := 124) rfl rfl (by simpa [KnownAt, List.lookup, consD] using hk 124 (by decide)), ?_⟩
          simp [Oper.looksAt, Op.operands, Call.operands, KnownAt, List.lookup, consD] at hk
          simp [execOp, Act.eval, hk, go_sem]
          all_goals rfl
        refine gw_call _ #[.pointer (some ⟨g1, 0, none⟩)] (fun v _ => v = .int .i64 (p : Int)) (mono_eq _) (fun a' w' hk => ?_) (fun w' hb => (cAt_any g1 l p 0 w' (HC.out.below (((Below.refl w9.heap.size w9).drew).trans hb))).mono ?_) ?_
        · refine ⟨wanted_guard (t := 124) rfl rfl (by simpa [KnownAt, List.lookup, consD] using hk 124 (by decide)), ?_⟩
          simp [Oper.looksAt, Op.operands, Call.operands, KnownAt, List.lookup, consD] at hk
          simp [execOp, Act.eval, hk, go_sem]
          all_goals rfl
        · rintro e w'' ⟨rfl, rfl⟩
          exact ⟨_, rfl, rfl, Below.refl _ _⟩
        apply gw_val
        · intro a' w' hk
          refine ⟨wanted_guard (t := 124) rfl rfl (by simpa [KnownAt, List.lookup, consD] using hk 124 (by decide)), ?_⟩
          simp [Oper.looksAt, Op.operands, Call.operands, KnownAt, List.lookup, consD] at hk
          simp [execOp, Act.eval, hk, go_sem]
          all_goals rfl
        apply gw_val
        · intro a' w' hk
          refine ⟨wanted_guard (t := 124) rfl rfl (by simpa [KnownAt, List.lookup, consD] using hk 124 (by decide)), ?_⟩
          simp [Oper.looksAt, Op.operands, Call.operands, KnownAt, List.lookup, consD] at hk
          simp [execOp, Act.eval, hk, go_sem]
          all_goals rfl
        apply gw_val
        · intro a' w' hk
          refine ⟨wanted_guard (t := 124) rfl rfl (by simpa [KnownAt, List.lookup, consD] using hk 124 (by decide)), ?_⟩
          simp [Oper.looksAt, Op.operands, Call.operands, KnownAt, List.lookup, consD] at hk
          simp [execOp, Act.eval, hk, go_sem]
          all_goals rfl
        refine gw_valB (fun v _ => v = .int .i64 (p : Int)) (mono_eq _) ?_ ?_
        · intro a' w' hb' hk
          refine ⟨wanted_guard (t := 124) rfl rfl (by simpa [KnownAt, List.lookup, consD] using hk 124 (by decide)), _, ?_, rfl⟩
          have q0 := cell_later2 (HR.out.cell1) hb'
          simp [Oper.looksAt, Op.operands, Call.operands, KnownAt, List.lookup, consD] at hk
          simp [execOp, Act.eval, hk, q0, go_sem]
          all_goals rfl
        refine gw_val (.bool true) ?_ ?_
        · intro a' w' hk
          refine ⟨wanted_guard (t := 124) rfl rfl (by simpa [KnownAt, List.lookup, consD] using hk 124 (by decide)), ?_⟩
          simp [Oper.looksAt, Op.operands, Call.operands, KnownAt, List.lookup, consD] at hk
          simp [execOp, Act.eval, hk, go_sem]
          all_goals rfl
        refine gw_val (.bool true) ?_ ?_
        · intro a' w' hk
          refine ⟨wanted_guard (t := 118) rfl rfl (by simpa [KnownAt, List.lookup, consD] using hk 118 (by decide)), ?_⟩
          simp [Oper.looksAt, Op.operands, Call.operands, KnownAt, List.lookup, consD] at hk
          simp [execOp, Act.eval, hk, go_sem]
          all_goals rfl
        refine gw_val (.bool true) ?_ ?_
        · intro a' w' hk
          refine ⟨wanted_none rfl, ?_⟩
          simp [Oper.looksAt, Op.operands, Call.operands, KnownAt, List.lookup, consD] at hk
          simp [execOp, Act.eval, hk, go_sem]
          all_goals rfl
        refine gw_val (.bool true) ?_ ?_
        · intro a' w' hk
          refine ⟨wanted_none rfl, ?_⟩
          simp [Oper.looksAt, Op.operands, Call.operands, KnownAt, List.lookup, consD] at hk
          simp [execOp, Act.eval, hk, go_sem]
          all_goals rfl
        intro vs w3 hb3 hall
        simp only [AllS, consD] at hall
        simp only [consD, putAllS, Act.put]
        obtain ⟨h9, -⟩ := hall
        rw [h9]
        simp only [List.setIfInBounds_toArray, List.set_cons_succ, List.set_cons_zero]
        have hb3' : Below w9.heap.size w9 w3 := ((Below.refl w9.heap.size w9).drew).trans hb3
        have HF := Lib.hid (HB.out.trans (hb3'.mono HB.out.size))
        clear hb3 hb3'
        go_wp2
        go_ret
        exact ⟨rfl, HF.out⟩
      · have her : (er == 0) = false := by simpa using her0
        refine wp_region_grow (by kernel_rfl) (by kernel_rfl) (by rfl) ?_
        refine gw_val (.bool true) ?_ ?_
        · intro a' w' hk
          refine ⟨wanted_none rfl, ?_⟩
          simp [Oper.looksAt, Op.operands, Call.operands, KnownAt, List.lookup, consD] at hk
          simp [execOp, Act.eval, hk, go_sem]
          all_goals rfl
        refine gw_val (.bool true) ?_ ?_
        · intro a' w' hk
          refine ⟨wanted_none rfl, ?_⟩
          simp [Oper.looksAt, Op.operands, Call.operands, KnownAt, List.lookup, consD] at hk
          simp [execOp, Act.eval, hk, go_sem]
          all_goals rfl
        apply gw_val
        · intro a' w' hk
          refine ⟨wanted_guard (t := 109) rfl rfl (by simpa [KnownAt, List.lookup, consD] using hk 109 (by decide)), ?_⟩
          simp [Oper.looksAt, Op.operands, Call.operands, KnownAt, List.lookup, consD] at hk
          simp [execOp, Act.eval, hk, go_sem]
          all_goals rfl
        refine gw_call _ #[.pointer (some ⟨g1, 0, none⟩)] (fun v _ => v = .int .i64 er) (mono_eq _) (fun a' w' hk => ?_) (fun w' hb => (cErr_any g1 l p er w' (HC.out.below (((Below.refl w9.heap.size w9).drew).trans hb))).mono ?_) ?_
        · refine ⟨wanted_guard (t := 109) rfl rfl (by simpa [KnownAt, List.lookup, consD] using hk 109 (by decide)), ?_⟩
          simp [Oper.looksAt, Op.operands, Call.operands, KnownAt, List.lookup, consD] at hk
          simp [execOp, Act.eval, hk, go_sem]
          all_goals rfl
        · rintro e w'' ⟨rfl, rfl⟩
          exact ⟨_, rfl, rfl, Below.refl _ _⟩
        apply gw_val
        · intro a' w' hk
          refine ⟨wanted_guard (t := 109) rfl rfl (by simpa [KnownAt, List.lookup, consD] using hk 109 (by decide)), ?_⟩
          simp [Oper.looksAt, Op.operands, Call.operands, KnownAt, List.lookup, consD] at hk
          simp [execOp, Act.eval, hk, go_sem]
          all_goals rfl
        apply gw_val
        · intro a' w' hk
          refine ⟨wanted_guard (t := 109) rfl rfl (by simpa [KnownAt, List.lookup, consD] using hk 109 (by decide)), ?_⟩
          simp [Oper.looksAt, Op.operands, Call.operands, KnownAt, List.lookup, consD] at hk
          simp [execOp, Act.eval, hk, go_sem]
          all_goals rfl
        apply gw_val
        · intro a' w' hk
          refine ⟨wanted_guard (t := 109) rfl rfl (by simpa [KnownAt, List.lookup, consD] using hk 109 (by decide)), ?_⟩
          simp [Oper.looksAt, Op.operands, Call.operands, KnownAt, List.lookup, consD] at hk
          simp [execOp, Act.eval, hk, go_sem]
          all_goals rfl
        refine gw_valB (fun v _ => v = .int .i64 er) (mono_eq _) ?_ ?_
        · intro a' w' hb' hk
          refine ⟨wanted_guard (t := 109) rfl rfl (by simpa [KnownAt, List.lookup, consD] using hk 109 (by decide)), _, ?_, rfl⟩
          have q0 := cell_later2 (HR.out.cell2) hb'
          simp [Oper.looksAt, Op.operands, Call.operands, KnownAt, List.lookup, consD] at hk
          simp [execOp, Act.eval, hk, q0, go_sem]
          all_goals rfl
        refine gw_val (.bool true) ?_ ?_
        · intro a' w' hk
          refine ⟨wanted_guard (t := 109) rfl rfl (by simpa [KnownAt, List.lookup, consD] using hk 109 (by decide)), ?_⟩
          simp [Oper.looksAt, Op.operands, Call.operands, KnownAt, List.lookup, consD] at hk
          simp [execOp, Act.eval, hk, go_sem]
          all_goals rfl
        refine gw_val (.bool true) ?_ ?_
        · intro a' w' hk
          refine ⟨wanted_none rfl, ?_⟩
          simp [Oper.looksAt, Op.operands, Call.operands, KnownAt, List.lookup, consD] at hk
          simp [execOp, Act.eval, hk, go_sem]
          all_goals rfl
        refine gw_val (.bool true) ?_ ?_
        · intro a' w' hk
          refine ⟨wanted_none rfl, ?_⟩
          simp [Oper.looksAt, Op.operands, Call.operands, KnownAt, List.lookup, consD] at hk
          simp [execOp, Act.eval, hk, go_sem]
          all_goals rfl
        apply gw_val
        · intro a' w' hk
          refine ⟨wanted_guard (t := 118) rfl rfl (by simpa [KnownAt, List.lookup, consD] using hk 118 (by decide)), ?_⟩
          simp [Oper.looksAt, Op.operands, Call.operands, KnownAt, List.lookup, consD] at hk
          simp [execOp, Act.eval, hk, go_sem]
          all_goals rfl
        apply gw_val
        · intro a' w' hk
          refine ⟨wanted_guard (t := 118) rfl rfl (by simpa [KnownAt, List.lookup, consD] using hk 118 (by decide)), ?_⟩
          simp [Oper.looksAt, Op.operands, Call.operands, KnownAt, List.lookup, consD] at hk
          simp [execOp, Act.eval, hk, go_sem]
          all_goals rfl
        apply gw_val
        · intro a' w' hk
          refine ⟨wanted_guard (t := 118) rfl rfl (by simpa [KnownAt, List.lookup, consD] using hk 118 (by decide)), ?_⟩
          simp [Oper.looksAt, Op.operands, Call.operands, KnownAt, List.lookup, consD] at hk
          simp [execOp, Act.eval, hk, go_sem]
          all_goals rfl
        refine gw_valB (fun v _ => v = .int .i64 er) (mono_eq _) ?_ ?_
        · intro a' w' hb' hk
          refine ⟨wanted_guard (t := 118) rfl rfl (by simpa [KnownAt, List.lookup, consD] using hk 118 (by decide)), _, ?_, rfl⟩
          have q0 := cell_later2 (HR.out.cell2) hb'
          simp [Oper.looksAt, Op.operands, Call.operands, KnownAt, List.lookup, consD] at hk
          simp [execOp, Act.eval, hk, q0, go_sem]
          all_goals rfl
        refine gw_val (.bool true) ?_ ?_
        · intro a' w' hk
          refine ⟨wanted_guard (t := 118) rfl rfl (by simpa [KnownAt, List.lookup, consD] using hk 118 (by decide)), ?_⟩
          simp [Oper.looksAt, Op.operands, Call.operands, KnownAt, List.lookup, consD] at hk
          simp [execOp, Act.eval, hk, go_sem, her, her0]
          all_goals rfl
        refine gw_val (.bool true) ?_ ?_
        · intro a' w' hk
          refine ⟨wanted_guard (t := 118) rfl rfl (by simpa [KnownAt, List.lookup, consD] using hk 118 (by decide)), ?_⟩
          simp [Oper.looksAt, Op.operands, Call.operands, KnownAt, List.lookup, consD] at hk
          simp [execOp, Act.eval, hk, go_sem]
          all_goals rfl
        refine gw_skip (fun a' w' hk => wanted_not (t := 124) rfl rfl (by simpa [KnownAt, List.lookup, consD] using hk 124 (by decide)) (by decide)) ?_
        refine gw_skip (fun a' w' hk => wanted_not (t := 124) rfl rfl (by simpa [KnownAt, List.lookup, consD] using hk 124 (by decide)) (by decide)) ?_
        refine gw_skip (fun a' w' hk => wanted_not (t := 124) rfl rfl (by simpa [KnownAt, List.lookup, consD] using hk 124 (by decide)) (by decide)) ?_
        refine gw_skip (fun a' w' hk => wanted_not (t := 124) rfl rfl (by simpa [KnownAt, List.lookup, consD] using hk 124 (by decide)) (by decide)) ?_
        refine gw_skip (fun a' w' hk => wanted_not (t := 124) rfl rfl (by simpa [KnownAt, List.lookup, consD] using hk 124 (by decide)) (by decide)) ?_
        refine gw_skip (fun a' w' hk => wanted_not (t := 124) rfl rfl (by simpa [KnownAt, List.lookup, consD] using hk 124 (by decide)) (by decide)) ?_
        refine gw_skip (fun a' w' hk => wanted_not (t := 124) rfl rfl (by simpa [KnownAt, List.lookup, consD] using hk 124 (by decide)) (by decide)) ?_
        refine gw_val (.bool true) ?_ ?_
        · intro a' w' hk
          refine ⟨wanted_guard (t := 118) rfl rfl (by simpa [KnownAt, List.lookup, consD] using hk 118 (by decide)), ?_⟩
          simp [Oper.looksAt, Op.operands, Call.operands, KnownAt, List.lookup, consD] at hk
          simp [execOp, Act.eval, hk, go_sem]
          all_goals rfl
        refine gw_val (.bool true) ?_ ?_
        · intro a' w' hk
          refine ⟨wanted_none rfl, ?_⟩
          simp [Oper.looksAt, Op.operands, Call.operands, KnownAt, List.lookup, consD] at hk
          simp [execOp, Act.eval, hk, go_sem]
          all_goals rfl
        refine gw_val (.bool true) ?_ ?_
        · intro a' w' hk
          refine ⟨wanted_none rfl, ?_⟩
          simp [Oper.looksAt, Op.operands, Call.operands, KnownAt, List.lookup, consD] at hk
          simp [execOp, Act.eval, hk, go_sem]
          all_goals rfl
        intro vs w3 hb3 hall
        simp only [AllS, consD] at hall
        simp only [consD, putAllS, Act.put]
        obtain ⟨h9, -⟩ := hall
        rw [h9]
        simp only [List.setIfInBounds_toArray, List.set_cons_succ, List.set_cons_zero]
        have hb3' : Below w9.heap.size w9 w3 := ((Below.refl w9.heap.size w9).drew).trans hb3
        have HF := Lib.hid (HB.out.trans (hb3'.mono HB.out.size))
        clear hb3 hb3'
        go_wp2
        go_ret
        exact ⟨rfl, HF.out⟩
    · go_wp2_with fail
      refine (cReadBehind_any g1 l (0, 0) w2 HC.out).mono ?_
      rintro e wa ⟨rfl, hcu, hgr⟩
      have HR1 := Lib.hid (HR.out.keep2 (keep_of_grown hgr HC.out.nobyte2) hgr (by have := HG.out; omega))
      have HB1 := Lib.hid (HB.out.grown hgr HB.out.size (fun j hj => by simp only [Option.some.injEq] at hj; have := HG.out; omega))
      have HC1 := Lib.hid hcu
      have HLAW := Lib.hid (behQ_P l (0, 0))
      generalize hres : behP l (0, 0) = R at HC1
      have HRES := Lib.hid hres
      clear hcu hgr hres HC HR HB
      obtain ⟨r, p, er⟩ := R
      obtain ⟨me, da, cl, su, pa, si, na, of⟩ := r
      simp only [Rec.arr]
      have HC := HC1
      have HR := HR1
      have HB := HB1
      clear HC1 HR1 HB1
      go_wp2_with fail
      refine (rReadBehind_any g2 l (0, 0) wa HR.out).mono ?_
      rw [HLAW.out, HRES.out]
      rintro e wb ⟨rfl, hrf, hgr⟩
      have HC1 := Lib.hid (HC.out.gs (Gs.of_grown hgr) (by intro k hk; simp only [List.mem_singleton] at hk; have := HG.out; omega))
      have HB1 := Lib.hid (HB.out.grown hgr HB.out.size (fun j hj => by simp only [Option.some.injEq] at hj; have := HG.out; omega))
      have HR1 := Lib.hid hrf
      clear hrf hgr HC HR HB
      simp only [Rec.arr]
      have HC := HC1
      have HR := HR1
      have HB := HB1
      clear HC1 HR1 HB1
      go_wp2_with fail
      generalize wb = w9 at HC HR HB ⊢
      by_cases her0 : er = 0
      · subst her0
        refine wp_region_grow (by kernel_rfl) (by kernel_rfl) (by rfl) ?_
        refine gw_val (.bool true) ?_ ?_
        · intro a' w' hk
          refine ⟨wanted_none rfl, ?_⟩
          simp [Oper.looksAt, Op.operands, Call.operands, KnownAt, List.lookup, consD] at hk
          simp [execOp, Act.eval, hk, go_sem]
          all_goals rfl
        refine gw_val (.bool true) ?_ ?_
        · intro a' w' hk
          refine ⟨wanted_none rfl, ?_⟩
          simp [Oper.looksAt, Op.operands, Call.operands, KnownAt, List.lookup, consD] at hk
          simp [execOp, Act.eval, hk, go_sem]
          all_goals rfl
        apply gw_val
        · intro a' w' hk
          refine ⟨wanted_guard (t := 109) rfl rfl (by simpa [KnownAt, List.lookup, consD] using hk 109 (by decide)), ?_⟩
          simp [Oper.looksAt, Op.operands, Call.operands, KnownAt, List.lookup, consD] at hk
          simp [execOp, Act.eval, hk, go_sem]
          all_goals rfl
        refine gw_call _ #[.pointer (some ⟨g1, 0, none⟩)] (fun v _ => v = .int .i64 0) (mono_eq _) (fun a' w' hk => ?_) (fun w' hb => (cErr_any g1 l p 0 w' (HC.out.below (((Below.refl w9.heap.size w9).drew).trans hb))).mono ?_) ?_
        · refine ⟨wanted_guard (t := 109) rfl rfl (by simpa [KnownAt, List.lookup, consD] using hk 109 (by decide)), ?_⟩
          simp [Oper.looksAt, Op.operands, Call.operands, KnownAt, List.lookup, consD] at hk
          simp [execOp, Act.eval, hk, go_sem]
          all_goals rfl
        · rintro e w'' ⟨rfl, rfl⟩
          exact ⟨_, rfl, rfl, Below.refl _ _⟩
        apply gw_val
        · intro a' w' hk
          refine ⟨wanted_guard (t := 109) rfl rfl (by simpa [KnownAt, List.lookup, consD] using hk 109 (by decide)), ?_⟩
          simp [Oper.looksAt, Op.operands, Call.operands, KnownAt, List.lookup, consD] at hk
          simp [execOp, Act.eval, hk, go_sem]
          all_goals rfl
        apply gw_val
        · intro a' w' hk
          refine ⟨wanted_guard (t := 109) rfl rfl (by simpa [KnownAt, List.lookup, consD] using hk 109 (by decide)), ?_⟩
          simp [Oper.looksAt, Op.operands, Call.operands, KnownAt, List.lookup, consD] at hk
          simp [execOp, Act.eval, hk, go_sem]
          all_goals rfl
        apply gw_val
        · intro a' w' hk
          refine ⟨wanted_guard (t := 109) rfl rfl (by simpa [KnownAt, List.lookup, consD] using hk 109 (by decide)), ?_⟩
          simp [Oper.looksAt, Op.operands, Call.operands, KnownAt, List.lookup, consD] at hk
          simp [execOp, Act.eval, hk, go_sem]
          all_goals rfl
        refine gw_valB (fun v _ => v = .int .i64 0) (mono_eq _) ?_ ?_
        · intro a' w' hb' hk
          refine ⟨wanted_guard (t := 109) rfl rfl (by simpa [KnownAt, List.lookup, consD] using hk 109 (by decide)), _, ?_, rfl⟩
          have q0 := cell_later2 (HR.out.cell2) hb'
          simp [Oper.looksAt, Op.operands, Call.operands, KnownAt, List.lookup, consD] at hk
          simp [execOp, Act.eval, hk, q0, go_sem]
          all_goals rfl
        refine gw_val (.bool true) ?_ ?_
        · intro a' w' hk
          refine ⟨wanted_guard (t := 109) rfl rfl (by simpa [KnownAt, List.lookup, consD] using hk 109 (by decide)), ?_⟩
          simp [Oper.looksAt, Op.operands, Call.operands, KnownAt, List.lookup, consD] at hk
          simp [execOp, Act.eval, hk, go_sem]
          all_goals rfl
        refine gw_val (.bool true) ?_ ?_
        · intro a' w' hk
          refine ⟨wanted_none rfl, ?_⟩
          simp [Oper.looksAt, Op.operands, Call.operands, KnownAt, List.lookup, consD] at hk
          simp [execOp, Act.eval, hk, go_sem]
          all_goals rfl
        refine gw_val (.bool true) ?_ ?_
        · intro a' w' hk
          refine ⟨wanted_none rfl, ?_⟩
          simp [Oper.looksAt, Op.operands, Call.operands, KnownAt, List.lookup, consD] at hk
          simp [execOp, Act.eval, hk, go_sem]
          all_goals rfl
        apply gw_val
        · intro a' w' hk
          refine ⟨wanted_guard (t := 118) rfl rfl (by simpa [KnownAt, List.lookup, consD] using hk 118 (by decide)), ?_⟩
          simp [Oper.looksAt, Op.operands, Call.operands, KnownAt, List.lookup, consD] at hk
          simp [execOp, Act.eval, hk, go_sem]
          all_goals rfl
        apply gw_val
        · intro a' w' hk
          refine ⟨wanted_guard (t := 118) rfl rfl (by simpa [KnownAt, List.lookup, consD] using hk 118 (by decide)), ?_⟩
          simp [Oper.looksAt, Op.operands, Call.operands, KnownAt, List.lookup, consD] at hk
          simp [execOp, Act.eval, hk, go_sem]
          all_goals rfl
        apply gw_val
        · intro a' w' hk
          refine ⟨wanted_guard (t := 118) rfl rfl (by simpa [KnownAt, List.lookup, consD] using hk 118 (by decide)), ?_⟩
          simp [Oper.looksAt, Op.operands, Call.operands, KnownAt, List.lookup, consD] at hk
          simp [execOp, Act.eval, hk, go_sem]
          all_goals rfl
        refine gw_valB (fun v _ => v = .int .i64 0) (mono_eq _) ?_ ?_
        · intro a' w' hb' hk
          refine ⟨wanted_guard (t := 118) rfl rfl (by simpa [KnownAt, List.lookup, consD] using hk 118 (by decide)), _, ?_, rfl⟩
          have q0 := cell_later2 (HR.out.cell2) hb'
          simp [Oper.looksAt, Op.operands, Call.operands, KnownAt, List.lookup, consD] at hk
          simp [execOp, Act.eval, hk, q0, go_sem]
          all_goals rfl
        refine gw_val (.bool false) ?_ ?_
        · intro a' w' hk
          refine ⟨wanted_guard (t := 118) rfl rfl (by simpa [KnownAt, List.lookup, consD] using hk 118 (by decide)), ?_⟩
          simp [Oper.looksAt, Op.operands, Call.operands, KnownAt, List.lookup, consD] at hk
          simp [execOp, Act.eval, hk, go_sem]
          all_goals rfl
        refine gw_val (.bool false) ?_ ?_
        · intro a' w' hk
          refine ⟨wanted_guard (t := 118) rfl rfl (by simpa [KnownAt, List.lookup, consD] using hk 118 (by decide)), ?_⟩
          simp [Oper.looksAt, Op.operands, Call.operands, KnownAt, List.lookup, consD] at hk
          simp [execOp, Act.eval, hk, go_sem]
          all_goals rfl
        apply gw_val
        · intro a' w' hk
          refine ⟨wanted_guard (t := 124) rfl rfl (by simpa [KnownAt, List.lookup, consD] using hk 124 (by decide)), ?_⟩
          simp [Oper.looksAt, Op.operands, Call.operands, KnownAt, List.lookup, consD] at hk
          simp [execOp, Act.eval, hk, go_sem]
          all_goals rfl
        refine gw_call _ #[.pointer (some ⟨g1, 0, none⟩)] (fun v _ => v = .int .i64 (p : Int)) (mono_eq _) (fun a' w' hk => ?_) (fun w' hb => (cAt_any g1 l p 0 w' (HC.out.below (((Below.refl w9.heap.size w9).drew).trans hb))).mono ?_) ?_
        · refine ⟨wanted_guard (t := 124) rfl rfl (by simpa [KnownAt, List.lookup, consD] using hk 124 (by decide)), ?_⟩
          simp [Oper.looksAt, Op.operands, Call.operands, KnownAt, List.lookup, consD] at hk
          simp [execOp, Act.eval, hk, go_sem]
          all_goals rfl
        · rintro e w'' ⟨rfl, rfl⟩
          exact ⟨_, rfl, rfl, Below.refl _ _⟩
        apply gw_val
        · intro a' w' hk
          refine ⟨wanted_guard (t := 124) rfl rfl (by simpa [KnownAt, List.lookup, consD] using hk 124 (by decide)), ?_⟩
          simp [Oper.looksAt, Op.operands, Call.operands, KnownAt, List.lookup, consD] at hk
          simp [execOp, Act.eval, hk, go_sem]
          all_goals rfl
        apply gw_val
        · intro a' w' hk
          refine ⟨wanted_guard (t := 124) rfl rfl (by simpa [KnownAt, List.lookup, consD] using hk 124 (by decide)), ?_⟩
          simp [Oper.looksAt, Op.operands, Call.operands, KnownAt, List.lookup, consD] at hk
          simp [execOp, Act.eval, hk, go_sem]
          all_goals rfl
        apply gw_val
        · intro a' w' hk
          refine ⟨wanted_guard (t := 124) rfl rfl (by simpa [KnownAt, List.lookup, consD] using hk 124 (by decide)), ?_⟩
          simp [Oper.looksAt, Op.operands, Call.operands, KnownAt, List.lookup, consD] at hk
          simp [execOp, Act.eval, hk, go_sem]
          all_goals rfl
        refine gw_valB (fun v _ => v = .int .i64 (p : Int)) (mono_eq _) ?_ ?_
        · intro a' w' hb' hk
          refine ⟨wanted_guard (t := 124) rfl rfl (by simpa [KnownAt, List.lookup, consD] using hk 124 (by decide)), _, ?_, rfl⟩
          have q0 := cell_later2 (HR.out.cell1) hb'
          simp [Oper.looksAt, Op.operands, Call.operands, KnownAt, List.lookup, consD] at hk
          simp [execOp, Act.eval, hk, q0, go_sem]
          all_goals rfl
        refine gw_val (.bool true) ?_ ?_
        · intro a' w' hk
          refine ⟨wanted_guard (t := 124) rfl rfl (by simpa [KnownAt, List.lookup, consD] using hk 124 (by decide)), ?_⟩
          simp [Oper.looksAt, Op.operands, Call.operands, KnownAt, List.lookup, consD] at hk
          simp [execOp, Act.eval, hk, go_sem]
          all_goals rfl
        refine gw_val (.bool true) ?_ ?_
        · intro a' w' hk
          refine ⟨wanted_guard (t := 118) rfl rfl (by simpa [KnownAt, List.lookup, consD] using hk 118 (by decide)), ?_⟩
          simp [Oper.looksAt, Op.operands, Call.operands, KnownAt, List.lookup, consD] at hk
          simp [execOp, Act.eval, hk, go_sem]
          all_goals rfl
        refine gw_val (.bool true) ?_ ?_
        · intro a' w' hk
          refine ⟨wanted_none rfl, ?_⟩
          simp [Oper.looksAt, Op.operands, Call.operands, KnownAt, List.lookup, consD] at hk
          simp [execOp, Act.eval, hk, go_sem]
          all_goals rfl
        refine gw_val (.bool true) ?_ ?_
        · intro a' w' hk
          refine ⟨wanted_none rfl, ?_⟩
          simp [Oper.looksAt, Op.operands, Call.operands, KnownAt, List.lookup, consD] at hk
          simp [execOp, Act.eval, hk, go_sem]
          all_goals rfl
        intro vs w3 hb3 hall
        simp only [AllS, consD] at hall
        simp only [consD, putAllS, Act.put]
        obtain ⟨h9, -⟩ := hall
        rw [h9]
        simp only [List.setIfInBounds_toArray, List.set_cons_succ, List.set_cons_zero]
        have hb3' : Below w9.heap.size w9 w3 := ((Below.refl w9.heap.size w9).drew).trans hb3
        have HF := Lib.hid (HB.out.trans (hb3'.mono HB.out.size))
        clear hb3 hb3'
        go_wp2
        go_ret
        exact ⟨rfl, HF.out⟩
      · have her : (er == 0) = false := by simpa using her0
        refine wp_region_grow (by kernel_rfl) (by kernel_rfl) (by rfl) ?_
        refine gw_val (.bool true) ?_ ?_
        · intro a' w' hk
          refine ⟨wanted_none rfl, ?_⟩
          simp [Oper.looksAt, Op.operands, Call.operands, KnownAt, List.lookup, consD] at hk
          simp [execOp, Act.eval, hk, go_sem]
          all_goals rfl
        refine gw_val (.bool true) ?_ ?_
        · intro a' w' hk
          refine ⟨wanted_none rfl, ?_⟩
          simp [Oper.looksAt, Op.operands, Call.operands, KnownAt, List.lookup, consD] at hk
          simp [execOp, Act.eval, hk, go_sem]
          all_goals rfl
        apply gw_val
        · intro a' w' hk
          refine ⟨wanted_guard (t := 109) rfl rfl (by simpa [KnownAt, List.lookup, consD] using hk 109 (by decide)), ?_⟩
          simp [Oper.looksAt, Op.operands, Call.operands, KnownAt, List.lookup, consD] at hk
          simp [execOp, Act.eval, hk, go_sem]
          all_goals rfl
        refine gw_call _ #[.pointer (some ⟨g1, 0, none⟩)] (fun v _ => v = .int .i64 er) (mono_eq _) (fun a' w' hk => ?_) (fun w' hb => (cErr_any g1 l p er w' (HC.out.below (((Below.refl w9.heap.size w9).drew).trans hb))).mono ?_) ?_
        · refine ⟨wanted_guard (t := 109) rfl rfl (by simpa [KnownAt, List.lookup, consD] using hk 109 (by decide)), ?_⟩
          simp [Oper.looksAt, Op.operands, Call.operands, KnownAt, List.lookup, consD] at hk
          simp [execOp, Act.eval, hk, go_sem]
          all_goals rfl
        · rintro e w'' ⟨rfl, rfl⟩
          exact ⟨_, rfl, rfl, Below.refl _ _⟩
        apply gw_val
        · intro a' w' hk
          refine ⟨wanted_guard (t := 109) rfl rfl (by simpa [KnownAt, List.lookup, consD] using hk 109 (by decide)), ?_⟩
          simp [Oper.looksAt, Op.operands, Call.operands, KnownAt, List.lookup, consD] at hk
          simp [execOp, Act.eval, hk, go_sem]
          all_goals rfl
        apply gw_val
        · intro a' w' hk
          refine ⟨wanted_guard (t := 109) rfl rfl (by simpa [KnownAt, List.lookup, consD] using hk 109 (by decide)), ?_⟩
          simp [Oper.looksAt, Op.operands, Call.operands, KnownAt, List.lookup, consD] at hk
          simp [execOp, Act.eval, hk, go_sem]
          all_goals rfl
        apply gw_val
        · intro a' w' hk
          refine ⟨wanted_guard (t := 109) rfl rfl (by simpa [KnownAt, List.lookup, consD] using hk 109 (by decide)), ?_⟩
          simp [Oper.looksAt, Op.operands, Call.operands, KnownAt, List.lookup, consD] at hk
          simp [execOp, Act.eval, hk, go_sem]
          all_goals rfl
        refine gw_valB (fun v _ => v = .int .i64 er) (mono_eq _) ?_ ?_
        · intro a' w' hb' hk
          refine ⟨wanted_guard (t := 109) rfl rfl (by simpa [KnownAt, List.lookup, consD] using hk 109 (by decide)), _, ?_, rfl⟩
          have q0 := cell_later2 (HR.out.cell2) hb'
          simp [Oper.looksAt, Op.operands, Call.operands, KnownAt, List.lookup, consD] at hk
          simp [execOp, Act.eval, hk, q0, go_sem]
          all_goals rfl
        refine gw_val (.bool true) ?_ ?_
        · intro a' w' hk
          refine ⟨wanted_guard (t := 109) rfl rfl (by simpa [KnownAt, List.lookup, consD] using hk 109 (by decide)), ?_⟩
          simp [Oper.looksAt, Op.operands, Call.operands, KnownAt, List.lookup, consD] at hk
          simp [execOp, Act.eval, hk, go_sem]
          all_goals rfl
        refine gw_val (.bool true) ?_ ?_
        · intro a' w' hk
          refine ⟨wanted_none rfl, ?_⟩
          simp [Oper.looksAt, Op.operands, Call.operands, KnownAt, List.lookup, consD] at hk
          simp [execOp, Act.eval, hk, go_sem]
          all_goals rfl
        refine gw_val (.bool true) ?_ ?_
        · intro a' w' hk
          refine ⟨wanted_none rfl, ?_⟩
          simp [Oper.looksAt, Op.operands, Call.operands, KnownAt, List.lookup, consD] at hk
          simp [execOp, Act.eval, hk, go_sem]
          all_goals rfl
        apply gw_val
        · intro a' w' hk
          refine ⟨wanted_guard (t := 118) rfl rfl (by simpa [KnownAt, List.lookup, consD] using hk 118 (by decide)), ?_⟩
          simp [Oper.looksAt, Op.operands, Call.operands, KnownAt, List.lookup, consD] at hk
          simp [execOp, Act.eval, hk, go_sem]
          all_goals rfl
        apply gw_val
        · intro a' w' hk
          refine ⟨wanted_guard (t := 118) rfl rfl (by simpa [KnownAt, List.lookup, consD] using hk 118 (by decide)), ?_⟩
          simp [Oper.looksAt, Op.operands, Call.operands, KnownAt, List.lookup, consD] at hk
          simp [execOp, Act.eval, hk, go_sem]
          all_goals rfl
        apply gw_val
        · intro a' w' hk
          refine ⟨wanted_guard (t := 118) rfl rfl (by simpa [KnownAt, List.lookup, consD] using hk 118 (by decide)), ?_⟩
          simp [Oper.looksAt, Op.operands, Call.operands, KnownAt, List.lookup, consD] at hk
          simp [execOp, Act.eval, hk, go_sem]
          all_goals rfl
        refine gw_valB (fun v _ => v = .int .i64 er) (mono_eq _) ?_ ?_
        · intro a' w' hb' hk
          refine ⟨wanted_guard (t := 118) rfl rfl (by simpa [KnownAt, List.lookup, consD] using hk 118 (by decide)), _, ?_, rfl⟩
          have q0 := cell_later2 (HR.out.cell2) hb'
          simp [Oper.looksAt, Op.operands, Call.operands, KnownAt, List.lookup, consD] at hk
          simp [execOp, Act.eval, hk, q0, go_sem]
          all_goals rfl
        refine gw_val (.bool true) ?_ ?_
        · intro a' w' hk
          refine ⟨wanted_guard (t := 118) rfl rfl (by simpa [KnownAt, List.lookup, consD] using hk 118 (by decide)), ?_⟩
          simp [Oper.looksAt, Op.operands, Call.operands, KnownAt, List.lookup, consD] at hk
          simp [execOp, Act.eval, hk, go_sem, her, her0]
          all_goals rfl
        refine gw_val (.bool true) ?_ ?_
        · intro a' w' hk
          refine ⟨wanted_guard (t := 118) rfl rfl (by simpa [KnownAt, List.lookup, consD] using hk 118 (by decide)), ?_⟩
          simp [Oper.looksAt, Op.operands, Call.operands, KnownAt, List.lookup, consD] at hk
          simp [execOp, Act.eval, hk, go_sem]
          all_goals rfl
        refine gw_skip (fun a' w' hk => wanted_not (t := 124) rfl rfl (by simpa [KnownAt, List.lookup, consD] using hk 124 (by decide)) (by decide)) ?_
        refine gw_skip (fun a' w' hk => wanted_not (t := 124) rfl rfl (by simpa [KnownAt, List.lookup, consD] using hk 124 (by decide)) (by decide)) ?_
        refine gw_skip (fun a' w' hk => wanted_not (t := 124) rfl rfl (by simpa [KnownAt, List.lookup, consD] using hk 124 (by decide)) (by decide)) ?_
        refine gw_skip (fun a' w' hk => wanted_not (t := 124) rfl rfl (by simpa [KnownAt, List.lookup, consD] using hk 124 (by decide)) (by decide)) ?_
        refine gw_skip (fun a' w' hk => wanted_not (t := 124) rfl rfl (by simpa [KnownAt, List.lookup, consD] using hk 124 (by decide)) (by decide)) ?_
        refine gw_skip (fun a' w' hk => wanted_not (t := 124) rfl rfl (by simpa [KnownAt, List.lookup, consD] using hk 124 (by decide)) (by decide)) ?_
        refine gw_skip (fun a' w' hk => wanted_not (t := 124) rfl rfl (by simpa [KnownAt, List.lookup, consD] using hk 124 (by decide)) (by decide)) ?_
        refine gw_val (.bool true) ?_ ?_
        · intro a' w' hk
          refine ⟨wanted_guard (t := 118) rfl rfl (by simpa [KnownAt, List.lookup, consD] using hk 118 (by decide)), ?_⟩
          simp [Oper.looksAt, Op.operands, Call.operands, KnownAt, List.lookup, consD] at hk
          simp [execOp, Act.eval, hk, go_sem]
          all_goals rfl
        refine gw_val (.bool true) ?_ ?_
        · intro a' w' hk
          refine ⟨wanted_none rfl, ?_⟩
          simp [Oper.looksAt, Op.operands, Call.operands, KnownAt, List.lookup, consD] at hk
          simp [execOp, Act.eval, hk, go_sem]
          all_goals rfl
        refine gw_val (.bool true) ?_ ?_
        · intro a' w' hk
          refine ⟨wanted_none rfl, ?_⟩
          simp [Oper.looksAt, Op.operands, Call.operands, KnownAt, List.lookup, consD] at hk
          simp [execOp, Act.eval, hk, go_sem]
          all_goals rfl
        intro vs w3 hb3 hall
        simp only [AllS, consD] at hall
        simp only [consD, putAllS, Act.put]
        obtain ⟨h9, -⟩ := hall
        rw [h9]
        simp only [List.setIfInBounds_toArray, List.set_cons_succ, List.set_cons_zero]
        have hb3' : Below w9.heap.size w9 w3 := ((Below.refl w9.heap.size w9).drew).trans hb3
        have HF := Lib.hid (HB.out.trans (hb3'.mono HB.out.size))
        clear hb3 hb3'
        go_wp2
        go_ret
        exact ⟨rfl, HF.out⟩
    · go_wp2_with fail
      refine (cReadEnd_any g1 l (0, 0) w2 HC.out).mono ?_
      rintro e wa ⟨rfl, hcu, hgr⟩
      have HR1 := Lib.hid (HR.out.keep2 (keep_of_grown hgr HC.out.nobyte2) hgr (by have := HG.out; omega))
      have HB1 := Lib.hid (HB.out.grown hgr HB.out.size (fun j hj => by simp only [Option.some.injEq] at hj; have := HG.out; omega))
      have HC1 := Lib.hid hcu
      have HLAW := Lib.hid (endQ_P l (0, 0))
      generalize hres : endP l (0, 0) = R at HC1
      have HRES := Lib.hid hres
      clear hcu hgr hres HC HR HB
      obtain ⟨⟨x, y, z⟩, p, er⟩ := R
      have HC := HC1
      have HR := HR1
      have HB := HB1
      clear HC1 HR1 HB1
      go_wp2_with fail
      refine (rReadEnd_any g2 l (0, 0) wa HR.out).mono ?_
      rw [HLAW.out, HRES.out]
      rintro e wb ⟨rfl, hrf, hgr⟩
      have HC1 := Lib.hid (HC.out.gs (Gs.of_grown hgr) (by intro k hk; simp only [List.mem_singleton] at hk; have := HG.out; omega))
      have HB1 := Lib.hid (HB.out.grown hgr HB.out.size (fun j hj => by simp only [Option.some.injEq] at hj; have := HG.out; omega))
      have HR1 := Lib.hid hrf
      clear hrf hgr HC HR HB
      have HC := HC1
      have HR := HR1
      have HB := HB1
      clear HC1 HR1 HB1
      go_wp2_with fail
      generalize wb = w9 at HC HR HB ⊢
      by_cases her0 : er = 0
      · subst her0
        refine wp_region_grow (by kernel_rfl) (by kernel_rfl) (by rfl) ?_
        refine gw_val (.bool true) ?_ ?_
        · intro a' w' hk
          refine ⟨wanted_none rfl, ?_⟩
          simp [Oper.looksAt, Op.operands, Call.operands, KnownAt, List.lookup, consD] at hk
          simp [execOp, Act.eval, hk, go_sem]
          all_goals rfl
        refine gw_val (.bool true) ?_ ?_
        · intro a' w' hk
          refine ⟨wanted_none rfl, ?_⟩
          simp [Oper.looksAt, Op.operands, Call.operands, KnownAt, List.lookup, consD] at hk
          simp [execOp, Act.eval, hk, go_sem]
          all_goals rfl
        apply gw_val
        · intro a' w' hk
          refine ⟨wanted_guard (t := 109) rfl rfl (by simpa [KnownAt, List.lookup, consD] using hk 109 (by decide)), ?_⟩
          simp [Oper.looksAt, Op.operands, Call.operands, KnownAt, List.lookup, consD] at hk
          simp [execOp, Act.eval, hk, go_sem]
          all_goals rfl
        refine gw_call _ #[.pointer (some ⟨g1, 0, none⟩)] (fun v _ => v = .int .i64 0) (mono_eq _) (fun a' w' hk => ?_) (fun w' hb => (cErr_any g1 l p 0 w' (HC.out.below (((Below.refl w9.heap.size w9).drew).trans hb))).mono ?_) ?_
        · refine ⟨wanted_guard (t := 109) rfl rfl (by simpa [KnownAt, List.lookup, consD] using hk 109 (by decide)), ?_⟩
          simp [Oper.looksAt, Op.operands, Call.operands, KnownAt, List.lookup, consD] at hk
          simp [execOp, Act.eval, hk, go_sem]
          all_goals rfl
        · rintro e w'' ⟨rfl, rfl⟩
          exact ⟨_, rfl, rfl, Below.refl _ _⟩
        apply gw_val
        · intro a' w' hk
          refine ⟨wanted_guard (t := 109) rfl rfl (by simpa [KnownAt, List.lookup, consD] using hk 109 (by decide)), ?_⟩
          simp [Oper.looksAt, Op.operands, Call.operands, KnownAt, List.lookup, consD] at hk
          simp [execOp, Act.eval, hk, go_sem]
          all_goals rfl
        apply gw_val
        · intro a' w' hk
          refine ⟨wanted_guard (t := 109) rfl rfl (by simpa [KnownAt, List.lookup, consD] using hk 109 (by decide)), ?_⟩
          simp [Oper.looksAt, Op.operands, Call.operands, KnownAt, List.lookup, consD] at hk
          simp [execOp, Act.eval, hk, go_sem]
          all_goals rfl
        apply gw_val
        · intro a' w' hk
          refine ⟨wanted_guard (t := 109) rfl rfl (by simpa [KnownAt, List.lookup, consD] using hk 109 (by decide)), ?_⟩
          simp [Oper.looksAt, Op.operands, Call.operands, KnownAt, List.lookup, consD] at hk
          simp [execOp, Act.eval, hk, go_sem]
          all_goals rfl
        refine gw_valB (fun v _ => v = .int .i64 0) (mono_eq _) ?_ ?_
        · intro a' w' hb' hk
          refine ⟨wanted_guard (t := 109) rfl rfl (by simpa [KnownAt, List.lookup, consD] using hk 109 (by decide)), _, ?_, rfl⟩
          have q0 := cell_later2 (HR.out.cell2) hb'
          simp [Oper.looksAt, Op.operands, Call.operands, KnownAt, List.lookup, consD] at hk
          simp [execOp, Act.eval, hk, q0, go_sem]
          all_goals rfl
        refine gw_val (.bool true) ?_ ?_
        · intro a' w' hk
          refine ⟨wanted_guard (t := 109) rfl rfl (by simpa [KnownAt, List.lookup, consD] using hk 109 (by decide)), ?_⟩
          simp [Oper.looksAt, Op.operands, Call.operands, KnownAt, List.lookup, consD] at hk
          simp [execOp, Act.eval, hk, go_sem]
          all_goals rfl
        refine gw_val (.bool true) ?_ ?_
        · intro a' w' hk
          refine ⟨wanted_none rfl, ?_⟩
          simp [Oper.looksAt, Op.operands, Call.operands, KnownAt, List.lookup, consD] at hk
          simp [execOp, Act.eval, hk, go_sem]
          all_goals rfl
        refine gw_val (.bool true) ?_ ?_
        · intro a' w' hk
          refine ⟨wanted_none rfl, ?_⟩
          simp [Oper.looksAt, Op.operands, Call.operands, KnownAt, List.lookup, consD] at hk
          simp [execOp, Act.eval, hk, go_sem]
          all_goals rfl
        apply gw_val
        · intro a' w' hk
          refine ⟨wanted_guard (t := 118) rfl rfl (by simpa [KnownAt, List.lookup, consD] using hk 118 (by decide)), ?_⟩
          simp [Oper.looksAt, Op.operands, Call.operands, KnownAt, List.lookup, consD] at hk
          simp [execOp, Act.eval, hk, go_sem]
          all_goals rfl
        apply gw_val
        · intro a' w' hk
          refine ⟨wanted_guard (t := 118) rfl rfl (by simpa [KnownAt, List.lookup, consD] using hk 118 (by decide)), ?_⟩
          simp [Oper.looksAt, Op.operands, Call.operands, KnownAt, List.lookup, consD] at hk
          simp [execOp, Act.eval, hk, go_sem]
          all_goals rfl
        apply gw_val
        · intro a' w' hk
          refine ⟨wanted_guard (t := 118) rfl rfl (by simpa [KnownAt, List.lookup, consD] using hk 118 (by decide)), ?_⟩
          simp [Oper.looksAt, Op.operands, Call.operands, KnownAt, List.lookup, consD] at hk
          simp [execOp, Act.eval, hk, go_sem]
          all_goals rfl
        refine gw_valB (fun v _ => v = .int .i64 0) (mono_eq _) ?_ ?_
        · intro a' w' hb' hk
          refine ⟨wanted_guard (t := 118) rfl rfl (by simpa [KnownAt, List.lookup, consD] using hk 118 (by decide)), _, ?_, rfl⟩
          have q0 := cell_later2 (HR.out.cell2) hb'
          simp [Oper.looksAt, Op.operands, Call.operands, KnownAt, List.lookup, consD] at hk
          simp [execOp, Act.eval, hk, q0, go_sem]
          all_goals rfl
        refine gw_val (.bool false) ?_ ?_
        · intro a' w' hk
          refine ⟨wanted_guard (t := 118) rfl rfl (by simpa [KnownAt, List.lookup, consD] using hk 118 (by decide)), ?_⟩
          simp [Oper.looksAt, Op.operands, Call.operands, KnownAt, List.lookup, consD] at hk
          simp [execOp, Act.eval, hk, go_sem]
          all_goals rfl
        refine gw_val (.bool false) ?_ ?_
        · intro a' w' hk
          refine ⟨wanted_guard (t := 118) rfl rfl (by simpa [KnownAt, List.lookup, consD] using hk 118 (by decide)), ?_⟩
          simp [Oper.looksAt, Op.operands, Call.operands, KnownAt, List.lookup, consD] at hk
          simp [execOp, Act.eval, hk, go_sem]
          all_goals rfl
        apply gw_val
        · intro a' w' hk
          refine ⟨wanted_guard (t := 124) rfl rfl (by simpa [KnownAt, List.lookup, consD] using hk 124 (by decide)), ?_⟩
          simp [Oper.looksAt, Op.operands, Call.operands, KnownAt, List.lookup, consD] at hk
          simp [execOp, Act.eval, hk, go_sem]
          all_goals rfl
        refine gw_call _ #[.pointer (some ⟨g1, 0, none⟩)] (fun v _ => v = .int .i64 (p : Int)) (mono_eq _) (fun a' w' hk => ?_) (fun w' hb => (cAt_any g1 l p 0 w' (HC.out.below (((Below.refl w9.heap.size w9).drew).trans hb))).mono ?_) ?_
        · refine ⟨wanted_guard (t := 124) rfl rfl (by simpa [KnownAt, List.lookup, consD] using hk 124 (by decide)), ?_⟩
          simp [Oper.looksAt, Op.operands, Call.operands, KnownAt, List.lookup, consD] at hk
          simp [execOp, Act.eval, hk, go_sem]
          all_goals rfl
        · rintro e w'' ⟨rfl, rfl⟩
          exact ⟨_, rfl, rfl, Below.refl _ _⟩
        apply gw_val
        · intro a' w' hk
          refine ⟨wanted_guard (t := 124) rfl rfl (by simpa [KnownAt, List.lookup, consD] using hk 124 (by decide)), ?_⟩
          simp [Oper.looksAt, Op.operands, Call.operands, KnownAt, List.lookup, consD] at hk
          simp [execOp, Act.eval, hk, go_sem]
          all_goals rfl
        apply gw_val
        · intro a' w' hk
          refine ⟨wanted_guard (t := 124) rfl rfl (by simpa [KnownAt, List.lookup, consD] using hk 124 (by decide)), ?_⟩
          simp [Oper.looksAt, Op.operands, Call.operands, KnownAt, List.lookup, consD] at hk
          simp [execOp, Act.eval, hk, go_sem]
          all_goals rfl
        apply gw_val
        · intro a' w' hk
          refine ⟨wanted_guard (t := 124) rfl rfl (by simpa [KnownAt, List.lookup, consD] using hk 124 (by decide)), ?_⟩
          simp [Oper.looksAt, Op.operands, Call.operands, KnownAt, List.lookup, consD] at hk
          simp [execOp, Act.eval, hk, go_sem]
          all_goals rfl
        refine gw_valB (fun v _ => v = .int .i64 (p : Int)) (mono_eq _) ?_ ?_
        · intro a' w' hb' hk
          refine ⟨wanted_guard (t := 124) rfl rfl (by simpa [KnownAt, List.lookup, consD] using hk 124 (by decide)), _, ?_, rfl⟩
          have q0 := cell_later2 (HR.out.cell1) hb'
          simp [Oper.looksAt, Op.operands, Call.operands, KnownAt, List.lookup, consD] at hk
          simp [execOp, Act.eval, hk, q0, go_sem]
          all_goals rfl
        refine gw_val (.bool true) ?_ ?_
        · intro a' w' hk
          refine ⟨wanted_guard (t := 124) rfl rfl (by simpa [KnownAt, List.lookup, consD] using hk 124 (by decide)), ?_⟩
          simp [Oper.looksAt, Op.operands, Call.operands, KnownAt, List.lookup, consD] at hk
          simp [execOp, Act.eval, hk, go_sem]
          all_goals rfl
        refine gw_val (.bool true) ?_ ?_
        · intro a' w' hk
          refine ⟨wanted_guard (t := 118) rfl rfl (by simpa [KnownAt, List.lookup, consD] using hk 118 (by decide)), ?_⟩
          simp [Oper.looksAt, Op.operands, Call.operands, KnownAt, List.lookup, consD] at hk
          simp [execOp, Act.eval, hk, go_sem]
          all_goals rfl
        refine gw_val (.bool true) ?_ ?_
        · intro a' w' hk
          refine ⟨wanted_none rfl, ?_⟩
          simp [Oper.looksAt, Op.operands, Call.operands, KnownAt, List.lookup, consD] at hk
          simp [execOp, Act.eval, hk, go_sem]
          all_goals rfl
        refine gw_val (.bool true) ?_ ?_
        · intro a' w' hk
          refine ⟨wanted_none rfl, ?_⟩
          simp [Oper.looksAt, Op.operands, Call.operands, KnownAt, List.lookup, consD] at hk
          simp [execOp, Act.eval, hk, go_sem]
          all_goals rfl
        intro vs w3 hb3 hall
        simp only [AllS, consD] at hall
        simp only [consD, putAllS, Act.put]
        obtain ⟨h9, -⟩ := hall
        rw [h9]
        simp only [List.setIfInBounds_toArray, List.set_cons_succ, List.set_cons_zero]
        have hb3' : Below w9.heap.size w9 w3 := ((Below.refl w9.heap.size w9).drew).trans hb3
        have HF := Lib.hid (HB.out.trans (hb3'.mono HB.out.size))
        clear hb3 hb3'
        go_wp2
        go_ret
        exact ⟨rfl, HF.out⟩
      · have her : (er == 0) = false := by simpa using her0
        refine wp_region_grow (by kernel_rfl) (by kernel_rfl) (by rfl) ?_
        refine gw_val (.bool true) ?_ ?_
        · intro a' w' hk
          refine ⟨wanted_none rfl, ?_⟩
          simp [Oper.looksAt, Op.operands, Call.operands, KnownAt, List.lookup, consD] at hk
          simp [execOp, Act.eval, hk, go_sem]
          all_goals rfl
        refine gw_val (.bool true) ?_ ?_
        · intro a' w' hk
          refine ⟨wanted_none rfl, ?_⟩
          simp [Oper.looksAt, Op.operands, Call.operands, KnownAt, List.lookup, consD] at hk
          simp [execOp, Act.eval, hk, go_sem]
          all_goals rfl
        apply gw_val
        · intro a' w' hk
          refine ⟨wanted_guard (t := 109) rfl rfl (by simpa [KnownAt, List.lookup, consD] using hk 109 (by decide)), ?_⟩
          simp [Oper.looksAt, Op.operands, Call.operands, KnownAt, List.lookup, consD] at hk
          simp [execOp, Act.eval, hk, go_sem]
          all_goals rfl
        refine gw_call _ #[.pointer (some ⟨g1, 0, none⟩)] (fun v _ => v = .int .i64 er) (mono_eq _) (fun a' w' hk => ?_) (fun w' hb => (cErr_any g1 l p er w' (HC.out.below (((Below.refl w9.heap.size w9).drew).trans hb))).mono ?_) ?_
        · refine ⟨wanted_guard (t := 109) rfl rfl (by simpa [KnownAt, List.lookup, consD] using hk 109 (by decide)), ?_⟩
          simp [Oper.looksAt, Op.operands, Call.operands, KnownAt, List.lookup, consD] at hk
          simp [execOp, Act.eval, hk, go_sem]
          all_goals rfl
        · rintro e w'' ⟨rfl, rfl⟩
          exact ⟨_, rfl, rfl, Below.refl _ _⟩
        apply gw_val
        · intro a' w' hk
          refine ⟨wanted_guard (t := 109) rfl rfl (by simpa [KnownAt, List.lookup, consD] using hk 109 (by decide)), ?_⟩
          simp [Oper.looksAt, Op.operands, Call.operands, KnownAt, List.lookup, consD] at hk
          simp [execOp, Act.eval, hk, go_sem]
          all_goals rfl
        apply gw_val
        · intro a' w' hk
          refine ⟨wanted_guard (t := 109) rfl rfl (by simpa [KnownAt, List.lookup, consD] using hk 109 (by decide)), ?_⟩
          simp [Oper.looksAt, Op.operands, Call.operands, KnownAt, List.lookup, consD] at hk
          simp [execOp, Act.eval, hk, go_sem]
          all_goals rfl
        apply gw_val
        · intro a' w' hk
          refine ⟨wanted_guard (t := 109) rfl rfl (by simpa [KnownAt, List.lookup, consD] using hk 109 (by decide)), ?_⟩
          simp [Oper.looksAt, Op.operands, Call.operands, KnownAt, List.lookup, consD] at hk
          simp [execOp, Act.eval, hk, go_sem]
          all_goals rfl
        refine gw_valB (fun v _ => v = .int .i64 er) (mono_eq _) ?_ ?_
        · intro a' w' hb' hk
          refine ⟨wanted_guard (t := 109) rfl rfl (by simpa [KnownAt, List.lookup, consD] using hk 109 (by decide)), _, ?_, rfl⟩
          have q0 := cell_later2 (HR.out.cell2) hb'
          simp [Oper.looksAt, Op.operands, Call.operands, KnownAt, List.lookup, consD] at hk
          simp [execOp, Act.eval, hk, q0, go_sem]
          all_goals rfl
        refine gw_val (.bool true) ?_ ?_
        · intro a' w' hk
          refine ⟨wanted_guard (t := 109) rfl rfl (by simpa [KnownAt, List.lookup, consD] using hk 109 (by decide)), ?_⟩
          simp [Oper.looksAt, Op.operands, Call.operands, KnownAt, List.lookup, consD] at hk
          simp [execOp, Act.eval, hk, go_sem]
          all_goals rfl
        refine gw_val (.bool true) ?_ ?_
        · intro a' w' hk
          refine ⟨wanted_none rfl, ?_⟩
          simp [Oper.looksAt, Op.operands, Call.operands, KnownAt, List.lookup, consD] at hk
          simp [execOp, Act.eval, hk, go_sem]
          all_goals rfl
        refine gw_val (.bool true) ?_ ?_
        · intro a' w' hk
          refine ⟨wanted_none rfl, ?_⟩
          simp [Oper.looksAt, Op.operands, Call.operands, KnownAt, List.lookup, consD] at hk
          simp [execOp, Act.eval, hk, go_sem]
          all_goals rfl
        apply gw_val
        · intro a' w' hk
          refine ⟨wanted_guard (t := 118) rfl rfl (by simpa [KnownAt, List.lookup, consD] using hk 118 (by decide)), ?_⟩
          simp [Oper.looksAt, Op.operands, Call.operands, KnownAt, List.lookup, consD] at hk
          simp [execOp, Act.eval, hk, go_sem]
          all_goals rfl
        apply gw_val
        · intro a' w' hk
          refine ⟨wanted_guard (t := 118) rfl rfl (by simpa [KnownAt, List.lookup, consD] using hk 118 (by decide)), ?_⟩
          simp [Oper.looksAt, Op.operands, Call.operands, KnownAt, List.lookup, consD] at hk
          simp [execOp, Act.eval, hk, go_sem]
          all_goals rfl
        apply gw_val
        · intro a' w' hk
          refine ⟨wanted_guard (t := 118) rfl rfl (by simpa [KnownAt, List.lookup, consD] using hk 118 (by decide)), ?_⟩
          simp [Oper.looksAt, Op.operands, Call.operands, KnownAt, List.lookup, consD] at hk
          simp [execOp, Act.eval, hk, go_sem]
          all_goals rfl
        refine gw_valB (fun v _ => v = .int .i64 er) (mono_eq _) ?_ ?_
        · intro a' w' hb' hk
          refine ⟨wanted_guard (t := 118) rfl rfl (by simpa [KnownAt, List.lookup, consD] using hk 118 (by decide)), _, ?_, rfl⟩
          have q0 := cell_later2 (HR.out.cell2) hb'
          simp [Oper.looksAt, Op.operands, Call.operands, KnownAt, List.lookup, consD] at hk
          simp [execOp, Act.eval, hk, q0, go_sem]
          all_goals rfl
        refine gw_val (.bool true) ?_ ?_
        · intro a' w' hk
          refine ⟨wanted_guard (t := 118) rfl rfl (by simpa [KnownAt, List.lookup, consD] using hk 118 (by decide)), ?_⟩
          simp [Oper.looksAt, Op.operands, Call.operands, KnownAt, List.lookup, consD] at hk
          simp [execOp, Act.eval, hk, go_sem, her, her0]
          all_goals rfl
        refine gw_val (.bool true) ?_ ?_
        · intro a' w' hk
          refine ⟨wanted_guard (t := 118) rfl rfl (by simpa [KnownAt, List.lookup, consD] using hk 118 (by decide)), ?_⟩
          simp [Oper.looksAt, Op.operands, Call.operands, KnownAt, List.lookup, consD] at hk
          simp [execOp, Act.eval, hk, go_sem]
          all_goals rfl
        refine gw_skip (fun a' w' hk => wanted_not (t := 124) rfl rfl (by simpa [KnownAt, List.lookup, consD] using hk 124 (by decide)) (by decide)) ?_
        refine gw_skip (fun a' w' hk => wanted_not (t := 124) rfl rfl (by simpa [KnownAt, List.lookup, consD] using hk 124 (by decide)) (by decide)) ?_
        refine gw_skip (fun a' w' hk => wanted_not (t := 124) rfl rfl (by simpa [KnownAt, List.lookup, consD] using hk 124 (by decide)) (by decide)) ?_
        refine gw_skip (fun a' w' hk => wanted_not (t := 124) rfl rfl (by simpa [KnownAt, List.lookup, consD] using hk 124 (by decide)) (by decide)) ?_
        refine gw_skip (fun a' w' hk => wanted_not (t := 124) rfl rfl (by simpa [KnownAt, List.lookup, consD] using hk 124 (by decide)) (by decide)) ?_
        refine gw_skip (fun a' w' hk => wanted_not (t := 124) rfl rfl (by simpa [KnownAt, List.lookup, consD] using hk 124 (by decide)) (by decide)) ?_
        refine gw_skip (fun a' w' hk => wanted_not (t := 124) rfl rfl (by simpa [KnownAt, List.lookup, consD] using hk 124 (by decide)) (by decide)) ?_
        refine gw_val (.bool true) ?_ ?_
        · intro a' w' hk
          refine ⟨wanted_guard (t := 118) rfl rfl (by simpa [KnownAt, List.lookup, consD] using hk 118 (by decide)), ?_⟩
          simp [Oper.looksAt, Op.operands, Call.operands, KnownAt, List.lookup, consD] at hk
          simp [execOp, Act.eval, hk, go_sem]
          all_goals rfl
        refine gw_val (.bool true) ?_ ?_
        · intro a' w' hk
          refine ⟨wanted_none rfl, ?_⟩
          simp [Oper.looksAt, Op.operands, Call.operands, KnownAt, List.lookup, consD] at hk
          simp [execOp, Act.eval, hk, go_sem]
          all_goals rfl
        refine gw_val (.bool true) ?_ ?_
        · intro a' w' hk
          refine ⟨wanted_none rfl, ?_⟩
          simp [Oper.looksAt, Op.operands, Call.operands, KnownAt, List.lookup, consD] at hk
          simp [execOp, Act.eval, hk, go_sem]
          all_goals rfl
        intro vs w3 hb3 hall
        simp only [AllS, consD] at hall
        simp only [consD, putAllS, Act.put]
        obtain ⟨h9, -⟩ := hall
        rw [h9]
        simp only [List.setIfInBounds_toArray, List.set_cons_succ, List.set_cons_zero]
        have hb3' : Below w9.heap.size w9 w3 := ((Below.refl w9.heap.size w9).drew).trans hb3
        have HF := Lib.hid (HB.out.trans (hb3'.mono HB.out.size))
        clear hb3 hb3'
        go_wp2
        go_ret
        exact ⟨rfl, HF.out⟩
end Go.Proofs.Ytbknkahakmfhkaa
