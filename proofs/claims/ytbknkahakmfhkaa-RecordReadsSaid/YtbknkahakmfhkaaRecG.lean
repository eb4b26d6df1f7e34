/- packsaddleref12: Behind, End, Local, Central. -/
import Derived.Test.YtbknkahakmfhkaaRecF
import Derived.Deep.QuietTactic
import Derived.BigQuiet
namespace Go.Proofs.Ytbknkahakmfhkaa
open Go.RowKit
set_option linter.unusedVariables false
set_option linter.unusedSimpArgs false

set_option maxRecDepth 100000 in
set_option maxHeartbeats 16000000 in
theorem rBehind_any (r : Rec) (w : World) (hok : r.Ok) :
  Calls Try.prog 16 #[.agg r.arr] w fun e w' => ∃ v, e = .returned v ∧ OwnB w.heap.size (behindL r) v w' ∧ Below w.heap.size w w' := by
  obtain ⟨me, da, cl, su, pa, si, na, of⟩ := r
  have hsu := hok.su
  have hda := hok.da
  have hcl := hok.cl
  simp only at hsu hda hcl
  have WCL := Lib.hid (wrap64 cl (by omega) (by omega))
  have WDA := Lib.hid (wrap64 da (by omega) (by omega))
  have WSU := Lib.hid (wrap64 su (by omega) (by omega))
  simp only [Rec.arr]
  clear hok
  have hb1 := below_alloc w (.cells #[.int .i64 me, .int .u16 da, .int .u16 cl, .int .u32 su, .int .i64 pa, .int .i64 si, .string na, .int .i64 of] TR)
  have hk := Blk.new w TR #[.int .i64 me, .int .u16 da, .int .u16 cl, .int .u32 su, .int .i64 pa, .int .i64 si, .string na, .int .i64 of]
  have HB1 := Lib.hid hb1
  have HK := Lib.hid hk
  clear hb1 hk
  go_enter Try.func16, Try.ntmps16
  go_wp2_with fail
  refine (put_any _ 8 8 [(4, 134695760), (4, su), (4, pa), (4, si)] _ rfl (by simp) (rd_new2 w _ _ _ _ rfl)).mono ?_
  rintro e w2 ⟨v, rfl, hv, hb2⟩
  have hA := HB1.out.alloc HB1.out.size (.cells #[.int .i64 4, .int .i64 134695760, .int .i64 4, .int .i64 su, .int .i64 4, .int .i64 pa, .int .i64 4, .int .i64 si] 3)
  have HV := Lib.hid (And.intro (hv.mono hA.size) (hA.trans (hb2.mono hA.size)))
  clear hv hb2 hA
  go_wp2
  go_ret
  refine ⟨_, rfl, ?_, HV.out.2⟩
  have : behindL ⟨me, da, cl, su, pa, si, na, of⟩ = encP [(4, 134695760), (4, su), (4, pa), (4, si)] := by simp [behindL, encP, encs]
  rw [this]
  exact HV.out.1
set_option maxRecDepth 100000 in
set_option maxHeartbeats 16000000 in
theorem rEnd12_any (m x y : Int) (w : World) :
  Calls Try.prog 20 #[.int .i64 m, .int .i64 x, .int .i64 y] w fun e w' => ∃ v, e = .returned v ∧ OwnB w.heap.size (endL m x y) v w' ∧ Below w.heap.size w w' := by
  go_enter Try.func20, Try.ntmps20
  go_wp2_with fail
  refine (put_any _ 16 16 [(4, 101010256), (2, 0), (2, 0), (2, m), (2, m), (4, x), (4, y), (2, 0)] _ rfl (by simp) (rd_new w _ _ _ _ rfl)).mono ?_
  rintro e w2 ⟨v, rfl, hv, hb2⟩
  have hA := below_alloc w (.cells #[.int .i64 4, .int .i64 101010256, .int .i64 2, .int .i64 0, .int .i64 2, .int .i64 0, .int .i64 2, .int .i64 m, .int .i64 2, .int .i64 m, .int .i64 4, .int .i64 x, .int .i64 4, .int .i64 y, .int .i64 2, .int .i64 0] 3)
  have HV := Lib.hid (And.intro (hv.mono hA.size) (hA.trans (hb2.mono hA.size)))
  clear hv hb2 hA
  go_wp2
  go_ret
  refine ⟨_, rfl, ?_, HV.out.2⟩
  have : endL m x y = encP [(4, 101010256), (2, 0), (2, 0), (2, m), (2, m), (4, x), (4, y), (2, 0)] := by simp [endL, encP, encs]
  rw [this]
  exact HV.out.1
set_option maxRecDepth 100000 in
set_option maxHeartbeats 16000000 in
theorem rLocal_any (r : Rec) (bh : Bool) (w : World) (hok : r.Ok) (hna : r.na.size ≤ 1000) :
  Calls Try.prog 14 #[.agg r.arr, .bool bh] w fun e w' => ∃ v, e = .returned v ∧ OwnB w.heap.size (localL r bh) v w' ∧ Below w.heap.size w w' := by
  obtain ⟨me, da, cl, su, pa, si, na, of⟩ := r
  have hsu := hok.su
  have hda := hok.da
  have hcl := hok.cl
  simp only at hsu hda hcl
  have WCL := Lib.hid (wrap64 cl (by omega) (by omega))
  have WDA := Lib.hid (wrap64 da (by omega) (by omega))
  have WSU := Lib.hid (wrap64 su (by omega) (by omega))
  simp only [Rec.arr]
  clear hok
  have hb1 := below_alloc w (.cells #[.int .i64 me, .int .u16 da, .int .u16 cl, .int .u32 su, .int .i64 pa, .int .i64 si, .string na, .int .i64 of] TR)
  have hk := Blk.new w TR #[.int .i64 me, .int .u16 da, .int .u16 cl, .int .u32 su, .int .i64 pa, .int .i64 si, .string na, .int .i64 of]
  have HB1 := Lib.hid hb1
  have HK := Lib.hid hk
  clear hb1 hk
  simp only at hna
  go_enter Try.func14, Try.ntmps14
  go_wp2_with fail
  obtain ⟨o, ho⟩ : ∃ o, o = w.heap.size := ⟨_, rfl⟩
  rw [← ho] at HK ⊢
  generalize hw1 : w.alloc (.cells #[.int .i64 me, .int .u16 da, .int .u16 cl, .int .u32 su, .int .i64 pa, .int .i64 si, .string na, .int .i64 of] TR) = w0 at HB1 HK ⊢
  clear hw1 ho
  have k3 := HK.out.cell (i := 3) rfl
  have k4 := HK.out.cell (i := 4) rfl
  have k5 := HK.out.cell (i := 5) rfl
  have HD : Hid (∀ kd, Below w.heap.size w (w0.drewN kd) ∧ Blk (w0.drewN kd) o TR #[.int .i64 me, .int .u16 da, .int .u16 cl, .int .u32 su, .int .i64 pa, .int .i64 si, .string na, .int .i64 of]) := Lib.hid (fun kd => ⟨HB1.out.trans ⟨rfl, rfl, rfl, Nat.le_refl _, fun _ _ => rfl⟩, HK.out⟩)
  go_quiet (fail)
  generalize hwd : w0.drewN nq = w1
  have HB1 : Hid (Below w.heap.size w w1) := Lib.hid (hwd ▸ (HD.out nq).1)
  have HK : Hid (Blk w1 o TR #[.int .i64 me, .int .u16 da, .int .u16 cl, .int .u32 su, .int .i64 pa, .int .i64 si, .string na, .int .i64 of]) := Lib.hid (hwd ▸ (HD.out nq).2)
  clear hwd HD k3 k4 k5
  cases bh with
  | true =>
    go_wp2_with fail
    refine wp_region_growT 23 (by kernel_rfl) (by kernel_rfl) (by rfl) (by kernel_rfl) ?_
    refine gw_val (.bool true) ?_ ?_
    · intro a' w' hk
      refine ⟨wanted_none rfl, ?_⟩
      simp [Oper.looksAt, Op.operands, Call.operands, KnownAt, List.lookup, consD] at hk
      simp [execOp, Act.eval, hk, go_sem]
      all_goals rfl
    refine gw_call 56 #[.bool true] (fun v _ => v = .int .i64 (flagI true)) (mono_eq _) (fun a' w' hk => ?_) (fun w' hb => (rflags_any true w').mono ?_) ?_
    · refine ⟨wanted_none rfl, ?_⟩
      simp [Oper.looksAt, Op.operands, Call.operands, KnownAt, List.lookup, consD] at hk
      simp [execOp, Act.eval, hk, go_sem]
      all_goals rfl
    · rintro e w'' ⟨rfl, rfl⟩
      exact ⟨_, rfl, rfl, Below.refl _ _⟩
    apply gw_val
    · intro a' w' hk
      refine ⟨wanted_none rfl, ?_⟩
      simp [Oper.looksAt, Op.operands, Call.operands, KnownAt, List.lookup, consD] at hk
      simp [execOp, Act.eval, hk, go_sem]
      all_goals rfl
    refine gw_valB (fun v _ => v = .int .i64 me) (mono_eq _) ?_ ?_
    · intro a' w' hb' hk
      refine ⟨wanted_none rfl, _, ?_, rfl⟩
      have q0 := cell_later2 (HK.out.cell (i := 0) rfl) hb'
      simp [Oper.looksAt, Op.operands, Call.operands, KnownAt, List.lookup, consD] at hk
      simp [execOp, Act.eval, hk, q0, go_sem]
      all_goals rfl
    apply gw_val
    · intro a' w' hk
      refine ⟨wanted_none rfl, ?_⟩
      simp [Oper.looksAt, Op.operands, Call.operands, KnownAt, List.lookup, consD] at hk
      simp [execOp, Act.eval, hk, go_sem]
      all_goals rfl
    apply gw_val
    · intro a' w' hk
      refine ⟨wanted_none rfl, ?_⟩
      simp [Oper.looksAt, Op.operands, Call.operands, KnownAt, List.lookup, consD] at hk
      simp [execOp, Act.eval, hk, go_sem]
      all_goals rfl
    refine gw_valB (fun v _ => v = .int .u16 cl) (mono_eq _) ?_ ?_
    · intro a' w' hb' hk
      refine ⟨wanted_none rfl, _, ?_, rfl⟩
      have q0 := cell_later2 (HK.out.cell (i := 2) rfl) hb'
      simp [Oper.looksAt, Op.operands, Call.operands, KnownAt, List.lookup, consD] at hk
      simp [execOp, Act.eval, hk, q0, go_sem]
      all_goals rfl
    refine gw_val (.int .i64 cl) ?_ ?_
    · intro a' w' hk
      refine ⟨wanted_none rfl, ?_⟩
      simp [Oper.looksAt, Op.operands, Call.operands, KnownAt, List.lookup, consD] at hk
      simp [execOp, Act.eval, hk, go_sem, WCL.out]
      all_goals rfl
    apply gw_val
    · intro a' w' hk
      refine ⟨wanted_none rfl, ?_⟩
      simp [Oper.looksAt, Op.operands, Call.operands, KnownAt, List.lookup, consD] at hk
      simp [execOp, Act.eval, hk, go_sem]
      all_goals rfl
    apply gw_val
    · intro a' w' hk
      refine ⟨wanted_none rfl, ?_⟩
      simp [Oper.looksAt, Op.operands, Call.operands, KnownAt, List.lookup, consD] at hk
      simp [execOp, Act.eval, hk, go_sem]
      all_goals rfl
    refine gw_valB (fun v _ => v = .int .u16 da) (mono_eq _) ?_ ?_
    · intro a' w' hb' hk
      refine ⟨wanted_none rfl, _, ?_, rfl⟩
      have q0 := cell_later2 (HK.out.cell (i := 1) rfl) hb'
      simp [Oper.looksAt, Op.operands, Call.operands, KnownAt, List.lookup, consD] at hk
      simp [execOp, Act.eval, hk, q0, go_sem]
      all_goals rfl
    refine gw_val (.int .i64 da) ?_ ?_
    · intro a' w' hk
      refine ⟨wanted_none rfl, ?_⟩
      simp [Oper.looksAt, Op.operands, Call.operands, KnownAt, List.lookup, consD] at hk
      simp [execOp, Act.eval, hk, go_sem, WDA.out]
      all_goals rfl
    apply gw_val
    · intro a' w' hk
      refine ⟨wanted_none rfl, ?_⟩
      simp [Oper.looksAt, Op.operands, Call.operands, KnownAt, List.lookup, consD] at hk
      simp [execOp, Act.eval, hk, go_sem]
      all_goals rfl
    apply gw_val
    · intro a' w' hk
      refine ⟨wanted_none rfl, ?_⟩
      simp [Oper.looksAt, Op.operands, Call.operands, KnownAt, List.lookup, consD] at hk
      simp [execOp, Act.eval, hk, go_sem]
      all_goals rfl
    apply gw_val
    · intro a' w' hk
      refine ⟨wanted_none rfl, ?_⟩
      simp [Oper.looksAt, Op.operands, Call.operands, KnownAt, List.lookup, consD] at hk
      simp [execOp, Act.eval, hk, go_sem]
      all_goals rfl
    apply gw_val
    · intro a' w' hk
      refine ⟨wanted_none rfl, ?_⟩
      simp [Oper.looksAt, Op.operands, Call.operands, KnownAt, List.lookup, consD] at hk
      simp [execOp, Act.eval, hk, go_sem]
      all_goals rfl
    refine gw_valB (fun v _ => v = .string na) (mono_eq _) ?_ ?_
    · intro a' w' hb' hk
      refine ⟨wanted_none rfl, _, ?_, rfl⟩
      have q0 := cell_later2 (HK.out.cell (i := 6) rfl) hb'
      simp [Oper.looksAt, Op.operands, Call.operands, KnownAt, List.lookup, consD] at hk
      simp [execOp, Act.eval, hk, q0, go_sem]
      all_goals rfl
    refine gw_val (.int .i64 na.size) ?_ ?_
    · intro a' w' hk
      refine ⟨wanted_none rfl, ?_⟩
      simp [Oper.looksAt, Op.operands, Call.operands, KnownAt, List.lookup, consD] at hk
      simp [execOp, Act.eval, hk, go_sem]
      all_goals rfl
    refine gw_lit (E := iR) [4, 67324752, 2, 20, 2, flagI true, 2, me, 2, cl, 2, da, 4, 0, 4, 0, 4, 0, 2, (na.size : Int), 2, 0] ?_ ?_
    · intro a' w' hk
      refine ⟨wanted_none rfl, (List.map iR [4, 67324752, 2, 20, 2, flagI true, 2, me, 2, cl, 2, da, 4, 0, 4, 0, 4, 0, 2, (na.size : Int), 2, 0]).toArray, 3, by simp, ?_⟩
      simp [Oper.looksAt, Op.operands, Call.operands, KnownAt, List.lookup, consD] at hk
      simp [execOp, Act.eval, hk, go_sem]
      all_goals rfl
    refine gw_callE 55 (fun args w => ∃ v0 : Value, args = #[v0] ∧ (SliceG iR [4, 67324752, 2, 20, 2, flagI true, 2, me, 2, cl, 2, da, 4, 0, 4, 0, 4, 0, 2, (na.size : Int), 2, 0]) v0 w) (OwnB w1.heap.size (encP [(4, 67324752), (2, 20), (2, flagI true), (2, me), (2, cl), (2, da), (4, 0), (4, 0), (4, 0), (2, (na.size : Int)), (2, 0)])) (mono_own _ _) (fun a' w' hk => ?_) (fun w' args hb hA => ?_) ?_
    · refine ⟨wanted_none rfl, #[a'.tmps.getD 34 undef], ⟨_, rfl, hk 34 (by decide)⟩, ?_⟩
      simp [execOp, Act.eval, go_sem]
      all_goals rfl
    · obtain ⟨v0, rfl, u0⟩ := hA
      have hb' : Below w1.heap.size w1 w' := ((Below.refl w1.heap.size w1).drew).trans hb
      obtain ⟨q, m, d, rfl, hm, hq⟩ := u0
      refine (put_any q m d [(4, 67324752), (2, 20), (2, flagI true), (2, me), (2, cl), (2, da), (4, 0), (4, 0), (4, 0), (2, (na.size : Int)), (2, 0)] w' (by rw [← hm]; simp) (by simp) hq).mono ?_
      rintro e w'' ⟨v, rfl, hv, hb2⟩
      exact ⟨v, rfl, hv.mono hb'.size, hb2⟩
    apply gw_val
    · intro a' w' hk
      refine ⟨wanted_none rfl, ?_⟩
      simp [Oper.looksAt, Op.operands, Call.operands, KnownAt, List.lookup, consD] at hk
      simp [execOp, Act.eval, hk, go_sem]
      all_goals rfl
    refine gw_valB (fun v _ => v = .string na) (mono_eq _) ?_ ?_
    · intro a' w' hb' hk
      refine ⟨wanted_none rfl, _, ?_, rfl⟩
      have q0 := cell_later2 (HK.out.cell (i := 6) rfl) hb'
      simp [Oper.looksAt, Op.operands, Call.operands, KnownAt, List.lookup, consD] at hk
      simp [execOp, Act.eval, hk, q0, go_sem]
      all_goals rfl
    refine gw_bytes 37 na rfl (fun a' w' hk => ⟨wanted_none rfl, hk 37 (by decide)⟩) ?_
    intro vs w3 hb3 hall _
    simp only [AllS, consD] at hall
    simp only [consD, putAllS, Act.put]
    obtain ⟨h38, -, -, h35, -, -, -, -, -, -, -, -, -, -, -, -, -, -, -, -, -, -, -, -⟩ := hall
    obtain ⟨a24, n24, c24, h24e, hown24⟩ := h35
    obtain ⟨a38, n38, c38, h38e, hl38, hr38⟩ := h38
    rw [h24e, h38e]
    clear h24e h38e
    simp only [List.drop_succ_cons, List.drop_zero, List.setIfInBounds_toArray, List.set_cons_succ, List.set_cons_zero]
    have hb3' : Below w1.heap.size w1 w3 := ((Below.refl w1.heap.size w1).drew).trans hb3
    have hl24 : n24 ≤ 1000 := by rw [← hown24.len]; have := encP_le [(4, 67324752), (2, 20), (2, flagI true), (2, me), (2, cl), (2, da), (4, 0), (4, 0), (4, 0), (2, (na.size : Int)), (2, 0)]; simp only [List.length_cons, List.length_nil] at this; omega
    have hl39 : n38 ≤ 1000 := by rw [← hl38, nameL_len]; exact hna
    have HB7 := Lib.hid (HB1.out.trans (hb3'.mono HB1.out.size))
    have HO24 := Lib.hid (hown24.mono HB1.out.size)
    have HR38 := Lib.hid hr38
    have HL38 := Lib.hid hl38
    clear hown24 hb3 hb3' hr38 hl38
    go_wp2_with (at_builtin; refine wpList_cat (k := nameL na) slByte rfl _ _ rfl rfl HO24.out rfl HL38.out HR38.out (byteOne _) (by omega) (by unfold maxLen; omega) HB7.out.size ?_; intro p7 c7 w7 hown7 hg7 hx7 hy7; have HO7 := Lib.hid (And.intro hown7 (HO24.out.step HB7.out hg7 HB7.out.size)); clear hown7 hg7 hx7 hy7)
    go_ret
    refine ⟨_, rfl, ⟨_, _, _, rfl, ?_⟩, HO7.out.2⟩
    have : localL ⟨me, da, cl, su, pa, si, na, of⟩ true = encP [(4, 67324752), (2, 20), (2, flagI true), (2, me), (2, cl), (2, da), (4, 0), (4, 0), (4, 0), (2, (na.size : Int)), (2, 0)] ++ nameL na := by simp [localL, centralL, encP, encs]
    rw [this]
    exact HO7.out.1
  | false =>
    go_wp2_with fail
    refine wp_region_growT 23 (by kernel_rfl) (by kernel_rfl) (by rfl) (by kernel_rfl) ?_
    refine gw_val (.bool false) ?_ ?_
    · intro a' w' hk
      refine ⟨wanted_none rfl, ?_⟩
      simp [Oper.looksAt, Op.operands, Call.operands, KnownAt, List.lookup, consD] at hk
      simp [execOp, Act.eval, hk, go_sem]
      all_goals rfl
    refine gw_call 56 #[.bool false] (fun v _ => v = .int .i64 (flagI false)) (mono_eq _) (fun a' w' hk => ?_) (fun w' hb => (rflags_any false w').mono ?_) ?_
    · refine ⟨wanted_none rfl, ?_⟩
      simp [Oper.looksAt, Op.operands, Call.operands, KnownAt, List.lookup, consD] at hk
      simp [execOp, Act.eval, hk, go_sem]
      all_goals rfl
    · rintro e w'' ⟨rfl, rfl⟩
      exact ⟨_, rfl, rfl, Below.refl _ _⟩
    apply gw_val
    · intro a' w' hk
      refine ⟨wanted_none rfl, ?_⟩
      simp [Oper.looksAt, Op.operands, Call.operands, KnownAt, List.lookup, consD] at hk
      simp [execOp, Act.eval, hk, go_sem]
      all_goals rfl
    refine gw_valB (fun v _ => v = .int .i64 me) (mono_eq _) ?_ ?_
    · intro a' w' hb' hk
      refine ⟨wanted_none rfl, _, ?_, rfl⟩
      have q0 := cell_later2 (HK.out.cell (i := 0) rfl) hb'
      simp [Oper.looksAt, Op.operands, Call.operands, KnownAt, List.lookup, consD] at hk
      simp [execOp, Act.eval, hk, q0, go_sem]
      all_goals rfl
    apply gw_val
    · intro a' w' hk
      refine ⟨wanted_none rfl, ?_⟩
      simp [Oper.looksAt, Op.operands, Call.operands, KnownAt, List.lookup, consD] at hk
      simp [execOp, Act.eval, hk, go_sem]
      all_goals rfl
    apply gw_val
    · intro a' w' hk
      refine ⟨wanted_none rfl, ?_⟩
      simp [Oper.looksAt, Op.operands, Call.operands, KnownAt, List.lookup, consD] at hk
      simp [execOp, Act.eval, hk, go_sem]
      all_goals rfl
    refine gw_valB (fun v _ => v = .int .u16 cl) (mono_eq _) ?_ ?_
    · intro a' w' hb' hk
      refine ⟨wanted_none rfl, _, ?_, rfl⟩
      have q0 := cell_later2 (HK.out.cell (i := 2) rfl) hb'
      simp [Oper.looksAt, Op.operands, Call.operands, KnownAt, List.lookup, consD] at hk
      simp [execOp, Act.eval, hk, q0, go_sem]
      all_goals rfl
    refine gw_val (.int .i64 cl) ?_ ?_
    · intro a' w' hk
      refine ⟨wanted_none rfl, ?_⟩
      simp [Oper.looksAt, Op.operands, Call.operands, KnownAt, List.lookup, consD] at hk
      simp [execOp, Act.eval, hk, go_sem, WCL.out]
      all_goals rfl
    apply gw_val
    · intro a' w' hk
      refine ⟨wanted_none rfl, ?_⟩
      simp [Oper.looksAt, Op.operands, Call.operands, KnownAt, List.lookup, consD] at hk
      simp [execOp, Act.eval, hk, go_sem]
      all_goals rfl
    apply gw_val
    · intro a' w' hk
      refine ⟨wanted_none rfl, ?_⟩
      simp [Oper.looksAt, Op.operands, Call.operands, KnownAt, List.lookup, consD] at hk
      simp [execOp, Act.eval, hk, go_sem]
      all_goals rfl
    refine gw_valB (fun v _ => v = .int .u16 da) (mono_eq _) ?_ ?_
    · intro a' w' hb' hk
      refine ⟨wanted_none rfl, _, ?_, rfl⟩
      have q0 := cell_later2 (HK.out.cell (i := 1) rfl) hb'
      simp [Oper.looksAt, Op.operands, Call.operands, KnownAt, List.lookup, consD] at hk
      simp [execOp, Act.eval, hk, q0, go_sem]
      all_goals rfl
    refine gw_val (.int .i64 da) ?_ ?_
    · intro a' w' hk
      refine ⟨wanted_none rfl, ?_⟩
      simp [Oper.looksAt, Op.operands, Call.operands, KnownAt, List.lookup, consD] at hk
      simp [execOp, Act.eval, hk, go_sem, WDA.out]
      all_goals rfl
    apply gw_val
    · intro a' w' hk
      refine ⟨wanted_none rfl, ?_⟩
      simp [Oper.looksAt, Op.operands, Call.operands, KnownAt, List.lookup, consD] at hk
      simp [execOp, Act.eval, hk, go_sem]
      all_goals rfl
    apply gw_val
    · intro a' w' hk
      refine ⟨wanted_none rfl, ?_⟩
      simp [Oper.looksAt, Op.operands, Call.operands, KnownAt, List.lookup, consD] at hk
      simp [execOp, Act.eval, hk, go_sem]
      all_goals rfl
    apply gw_val
    · intro a' w' hk
      refine ⟨wanted_none rfl, ?_⟩
      simp [Oper.looksAt, Op.operands, Call.operands, KnownAt, List.lookup, consD] at hk
      simp [execOp, Act.eval, hk, go_sem]
      all_goals rfl
    apply gw_val
    · intro a' w' hk
      refine ⟨wanted_none rfl, ?_⟩
      simp [Oper.looksAt, Op.operands, Call.operands, KnownAt, List.lookup, consD] at hk
      simp [execOp, Act.eval, hk, go_sem]
      all_goals rfl
    refine gw_valB (fun v _ => v = .string na) (mono_eq _) ?_ ?_
    · intro a' w' hb' hk
      refine ⟨wanted_none rfl, _, ?_, rfl⟩
      have q0 := cell_later2 (HK.out.cell (i := 6) rfl) hb'
      simp [Oper.looksAt, Op.operands, Call.operands, KnownAt, List.lookup, consD] at hk
      simp [execOp, Act.eval, hk, q0, go_sem]
      all_goals rfl
    refine gw_val (.int .i64 na.size) ?_ ?_
    · intro a' w' hk
      refine ⟨wanted_none rfl, ?_⟩
      simp [Oper.looksAt, Op.operands, Call.operands, KnownAt, List.lookup, consD] at hk
      simp [execOp, Act.eval, hk, go_sem]
      all_goals rfl
    refine gw_lit (E := iR) [4, 67324752, 2, 20, 2, flagI false, 2, me, 2, cl, 2, da, 4, su, 4, pa, 4, si, 2, (na.size : Int), 2, 0] ?_ ?_
    · intro a' w' hk
      refine ⟨wanted_none rfl, (List.map iR [4, 67324752, 2, 20, 2, flagI false, 2, me, 2, cl, 2, da, 4, su, 4, pa, 4, si, 2, (na.size : Int), 2, 0]).toArray, 3, by simp, ?_⟩
      simp [Oper.looksAt, Op.operands, Call.operands, KnownAt, List.lookup, consD] at hk
      simp [execOp, Act.eval, hk, go_sem]
      all_goals rfl
    refine gw_callE 55 (fun args w => ∃ v0 : Value, args = #[v0] ∧ (SliceG iR [4, 67324752, 2, 20, 2, flagI false, 2, me, 2, cl, 2, da, 4, su, 4, pa, 4, si, 2, (na.size : Int), 2, 0]) v0 w) (OwnB w1.heap.size (encP [(4, 67324752), (2, 20), (2, flagI false), (2, me), (2, cl), (2, da), (4, su), (4, pa), (4, si), (2, (na.size : Int)), (2, 0)])) (mono_own _ _) (fun a' w' hk => ?_) (fun w' args hb hA => ?_) ?_
    · refine ⟨wanted_none rfl, #[a'.tmps.getD 34 undef], ⟨_, rfl, hk 34 (by decide)⟩, ?_⟩
      simp [execOp, Act.eval, go_sem]
      all_goals rfl
    · obtain ⟨v0, rfl, u0⟩ := hA
      have hb' : Below w1.heap.size w1 w' := ((Below.refl w1.heap.size w1).drew).trans hb
      obtain ⟨q, m, d, rfl, hm, hq⟩ := u0
      refine (put_any q m d [(4, 67324752), (2, 20), (2, flagI false), (2, me), (2, cl), (2, da), (4, su), (4, pa), (4, si), (2, (na.size : Int)), (2, 0)] w' (by rw [← hm]; simp) (by simp) hq).mono ?_
      rintro e w'' ⟨v, rfl, hv, hb2⟩
      exact ⟨v, rfl, hv.mono hb'.size, hb2⟩
    apply gw_val
    · intro a' w' hk
      refine ⟨wanted_none rfl, ?_⟩
      simp [Oper.looksAt, Op.operands, Call.operands, KnownAt, List.lookup, consD] at hk
      simp [execOp, Act.eval, hk, go_sem]
      all_goals rfl
    refine gw_valB (fun v _ => v = .string na) (mono_eq _) ?_ ?_
    · intro a' w' hb' hk
      refine ⟨wanted_none rfl, _, ?_, rfl⟩
      have q0 := cell_later2 (HK.out.cell (i := 6) rfl) hb'
      simp [Oper.looksAt, Op.operands, Call.operands, KnownAt, List.lookup, consD] at hk
      simp [execOp, Act.eval, hk, q0, go_sem]
      all_goals rfl
    refine gw_bytes 37 na rfl (fun a' w' hk => ⟨wanted_none rfl, hk 37 (by decide)⟩) ?_
    intro vs w3 hb3 hall _
    simp only [AllS, consD] at hall
    simp only [consD, putAllS, Act.put]
    obtain ⟨h38, -, -, h35, -, -, -, -, -, -, -, -, -, -, -, -, -, -, -, -, -, -, -, -⟩ := hall
    obtain ⟨a24, n24, c24, h24e, hown24⟩ := h35
    obtain ⟨a38, n38, c38, h38e, hl38, hr38⟩ := h38
    rw [h24e, h38e]
    clear h24e h38e
    simp only [List.drop_succ_cons, List.drop_zero, List.setIfInBounds_toArray, List.set_cons_succ, List.set_cons_zero]
    have hb3' : Below w1.heap.size w1 w3 := ((Below.refl w1.heap.size w1).drew).trans hb3
    have hl24 : n24 ≤ 1000 := by rw [← hown24.len]; have := encP_le [(4, 67324752), (2, 20), (2, flagI false), (2, me), (2, cl), (2, da), (4, su), (4, pa), (4, si), (2, (na.size : Int)), (2, 0)]; simp only [List.length_cons, List.length_nil] at this; omega
    have hl39 : n38 ≤ 1000 := by rw [← hl38, nameL_len]; exact hna
    have HB7 := Lib.hid (HB1.out.trans (hb3'.mono HB1.out.size))
    have HO24 := Lib.hid (hown24.mono HB1.out.size)
    have HR38 := Lib.hid hr38
    have HL38 := Lib.hid hl38
    clear hown24 hb3 hb3' hr38 hl38
    go_wp2_with (at_builtin; refine wpList_cat (k := nameL na) slByte rfl _ _ rfl rfl HO24.out rfl HL38.out HR38.out (byteOne _) (by omega) (by unfold maxLen; omega) HB7.out.size ?_; intro p7 c7 w7 hown7 hg7 hx7 hy7; have HO7 := Lib.hid (And.intro hown7 (HO24.out.step HB7.out hg7 HB7.out.size)); clear hown7 hg7 hx7 hy7)
    go_ret
    refine ⟨_, rfl, ⟨_, _, _, rfl, ?_⟩, HO7.out.2⟩
    have : localL ⟨me, da, cl, su, pa, si, na, of⟩ false = encP [(4, 67324752), (2, 20), (2, flagI false), (2, me), (2, cl), (2, da), (4, su), (4, pa), (4, si), (2, (na.size : Int)), (2, 0)] ++ nameL na := by simp [localL, centralL, encP, encs]
    rw [this]
    exact HO7.out.1
set_option maxRecDepth 100000 in
set_option maxHeartbeats 16000000 in
theorem rCentral_any (r : Rec) (bh : Bool) (w : World) (hok : r.Ok) (hna : r.na.size ≤ 1000) :
  Calls Try.prog 18 #[.agg r.arr, .bool bh] w fun e w' => ∃ v, e = .returned v ∧ OwnB w.heap.size (centralL r bh) v w' ∧ Below w.heap.size w w' := by
  obtain ⟨me, da, cl, su, pa, si, na, of⟩ := r
  have hsu := hok.su
  have hda := hok.da
  have hcl := hok.cl
  simp only at hsu hda hcl
  have WCL := Lib.hid (wrap64 cl (by omega) (by omega))
  have WDA := Lib.hid (wrap64 da (by omega) (by omega))
  have WSU := Lib.hid (wrap64 su (by omega) (by omega))
  simp only [Rec.arr]
  clear hok
  have hb1 := below_alloc w (.cells #[.int .i64 me, .int .u16 da, .int .u16 cl, .int .u32 su, .int .i64 pa, .int .i64 si, .string na, .int .i64 of] TR)
  have hk := Blk.new w TR #[.int .i64 me, .int .u16 da, .int .u16 cl, .int .u32 su, .int .i64 pa, .int .i64 si, .string na, .int .i64 of]
  have HB1 := Lib.hid hb1
  have HK := Lib.hid hk
  clear hb1 hk
  simp only at hna
  go_enter Try.func18, Try.ntmps18
  go_wp2_with fail
  obtain ⟨o, ho⟩ : ∃ o, o = w.heap.size := ⟨_, rfl⟩
  rw [← ho] at HK ⊢
  generalize hw1 : w.alloc (.cells #[.int .i64 me, .int .u16 da, .int .u16 cl, .int .u32 su, .int .i64 pa, .int .i64 si, .string na, .int .i64 of] TR) = w1 at HB1 HK ⊢
  clear hw1 ho
  refine wp_region_growT 29 (by kernel_rfl) (by kernel_rfl) (by rfl) (by kernel_rfl) ?_
  refine gw_val (.bool bh) ?_ ?_
  · intro a' w' hk
    refine ⟨wanted_none rfl, ?_⟩
    simp [Oper.looksAt, Op.operands, Call.operands, KnownAt, List.lookup, consD] at hk
    simp [execOp, Act.eval, hk, go_sem]
    all_goals rfl
  refine gw_call 56 #[.bool bh] (fun v _ => v = .int .i64 (flagI bh)) (mono_eq _) (fun a' w' hk => ?_) (fun w' hb => (rflags_any bh w').mono ?_) ?_
  · refine ⟨wanted_none rfl, ?_⟩
    simp [Oper.looksAt, Op.operands, Call.operands, KnownAt, List.lookup, consD] at hk
    simp [execOp, Act.eval, hk, go_sem]
    all_goals rfl
  · rintro e w'' ⟨rfl, rfl⟩
    exact ⟨_, rfl, rfl, Below.refl _ _⟩
  apply gw_val
  · intro a' w' hk
    refine ⟨wanted_none rfl, ?_⟩
    simp [Oper.looksAt, Op.operands, Call.operands, KnownAt, List.lookup, consD] at hk
    simp [execOp, Act.eval, hk, go_sem]
    all_goals rfl
  refine gw_valB (fun v _ => v = .int .i64 me) (mono_eq _) ?_ ?_
  · intro a' w' hb' hk
    refine ⟨wanted_none rfl, _, ?_, rfl⟩
    have q0 := cell_later2 (HK.out.cell (i := 0) rfl) hb'
    simp [Oper.looksAt, Op.operands, Call.operands, KnownAt, List.lookup, consD] at hk
    simp [execOp, Act.eval, hk, q0, go_sem]
    all_goals rfl
  apply gw_val
  · intro a' w' hk
    refine ⟨wanted_none rfl, ?_⟩
    simp [Oper.looksAt, Op.operands, Call.operands, KnownAt, List.lookup, consD] at hk
    simp [execOp, Act.eval, hk, go_sem]
    all_goals rfl
  apply gw_val
  · intro a' w' hk
    refine ⟨wanted_none rfl, ?_⟩
    simp [Oper.looksAt, Op.operands, Call.operands, KnownAt, List.lookup, consD] at hk
    simp [execOp, Act.eval, hk, go_sem]
    all_goals rfl
  refine gw_valB (fun v _ => v = .int .u16 cl) (mono_eq _) ?_ ?_
  · intro a' w' hb' hk
    refine ⟨wanted_none rfl, _, ?_, rfl⟩
    have q0 := cell_later2 (HK.out.cell (i := 2) rfl) hb'
    simp [Oper.looksAt, Op.operands, Call.operands, KnownAt, List.lookup, consD] at hk
    simp [execOp, Act.eval, hk, q0, go_sem]
    all_goals rfl
  refine gw_val (.int .i64 cl) ?_ ?_
  · intro a' w' hk
    refine ⟨wanted_none rfl, ?_⟩
    simp [Oper.looksAt, Op.operands, Call.operands, KnownAt, List.lookup, consD] at hk
    simp [execOp, Act.eval, hk, go_sem, WCL.out]
    all_goals rfl
  apply gw_val
  · intro a' w' hk
    refine ⟨wanted_none rfl, ?_⟩
    simp [Oper.looksAt, Op.operands, Call.operands, KnownAt, List.lookup, consD] at hk
    simp [execOp, Act.eval, hk, go_sem]
    all_goals rfl
  apply gw_val
  · intro a' w' hk
    refine ⟨wanted_none rfl, ?_⟩
    simp [Oper.looksAt, Op.operands, Call.operands, KnownAt, List.lookup, consD] at hk
    simp [execOp, Act.eval, hk, go_sem]
    all_goals rfl
  refine gw_valB (fun v _ => v = .int .u16 da) (mono_eq _) ?_ ?_
  · intro a' w' hb' hk
    refine ⟨wanted_none rfl, _, ?_, rfl⟩
    have q0 := cell_later2 (HK.out.cell (i := 1) rfl) hb'
    simp [Oper.looksAt, Op.operands, Call.operands, KnownAt, List.lookup, consD] at hk
    simp [execOp, Act.eval, hk, q0, go_sem]
    all_goals rfl
  refine gw_val (.int .i64 da) ?_ ?_
  · intro a' w' hk
    refine ⟨wanted_none rfl, ?_⟩
    simp [Oper.looksAt, Op.operands, Call.operands, KnownAt, List.lookup, consD] at hk
    simp [execOp, Act.eval, hk, go_sem, WDA.out]
    all_goals rfl
  apply gw_val
  · intro a' w' hk
    refine ⟨wanted_none rfl, ?_⟩
    simp [Oper.looksAt, Op.operands, Call.operands, KnownAt, List.lookup, consD] at hk
    simp [execOp, Act.eval, hk, go_sem]
    all_goals rfl
  refine gw_valB (fun v _ => v = .int .u32 su) (mono_eq _) ?_ ?_
  · intro a' w' hb' hk
    refine ⟨wanted_none rfl, _, ?_, rfl⟩
    have q0 := cell_later2 (HK.out.cell (i := 3) rfl) hb'
    simp [Oper.looksAt, Op.operands, Call.operands, KnownAt, List.lookup, consD] at hk
    simp [execOp, Act.eval, hk, q0, go_sem]
    all_goals rfl
  refine gw_val (.int .i64 su) ?_ ?_
  · intro a' w' hk
    refine ⟨wanted_none rfl, ?_⟩
    simp [Oper.looksAt, Op.operands, Call.operands, KnownAt, List.lookup, consD] at hk
    simp [execOp, Act.eval, hk, go_sem, WSU.out]
    all_goals rfl
  apply gw_val
  · intro a' w' hk
    refine ⟨wanted_none rfl, ?_⟩
    simp [Oper.looksAt, Op.operands, Call.operands, KnownAt, List.lookup, consD] at hk
    simp [execOp, Act.eval, hk, go_sem]
    all_goals rfl
  refine gw_valB (fun v _ => v = .int .i64 pa) (mono_eq _) ?_ ?_
  · intro a' w' hb' hk
    refine ⟨wanted_none rfl, _, ?_, rfl⟩
    have q0 := cell_later2 (HK.out.cell (i := 4) rfl) hb'
    simp [Oper.looksAt, Op.operands, Call.operands, KnownAt, List.lookup, consD] at hk
    simp [execOp, Act.eval, hk, q0, go_sem]
    all_goals rfl
  apply gw_val
  · intro a' w' hk
    refine ⟨wanted_none rfl, ?_⟩
    simp [Oper.looksAt, Op.operands, Call.operands, KnownAt, List.lookup, consD] at hk
    simp [execOp, Act.eval, hk, go_sem]
    all_goals rfl
  refine gw_valB (fun v _ => v = .int .i64 si) (mono_eq _) ?_ ?_
  · intro a' w' hb' hk
    refine ⟨wanted_none rfl, _, ?_, rfl⟩
    have q0 := cell_later2 (HK.out.cell (i := 5) rfl) hb'
    simp [Oper.looksAt, Op.operands, Call.operands, KnownAt, List.lookup, consD] at hk
    simp [execOp, Act.eval, hk, q0, go_sem]
    all_goals rfl
  apply gw_val
  · intro a' w' hk
    refine ⟨wanted_none rfl, ?_⟩
    simp [Oper.looksAt, Op.operands, Call.operands, KnownAt, List.lookup, consD] at hk
    simp [execOp, Act.eval, hk, go_sem]
    all_goals rfl
  refine gw_valB (fun v _ => v = .string na) (mono_eq _) ?_ ?_
  · intro a' w' hb' hk
    refine ⟨wanted_none rfl, _, ?_, rfl⟩
    have q0 := cell_later2 (HK.out.cell (i := 6) rfl) hb'
    simp [Oper.looksAt, Op.operands, Call.operands, KnownAt, List.lookup, consD] at hk
    simp [execOp, Act.eval, hk, q0, go_sem]
    all_goals rfl
  refine gw_val (.int .i64 na.size) ?_ ?_
  · intro a' w' hk
    refine ⟨wanted_none rfl, ?_⟩
    simp [Oper.looksAt, Op.operands, Call.operands, KnownAt, List.lookup, consD] at hk
    simp [execOp, Act.eval, hk, go_sem]
    all_goals rfl
  apply gw_val
  · intro a' w' hk
    refine ⟨wanted_none rfl, ?_⟩
    simp [Oper.looksAt, Op.operands, Call.operands, KnownAt, List.lookup, consD] at hk
    simp [execOp, Act.eval, hk, go_sem]
    all_goals rfl
  refine gw_valB (fun v _ => v = .int .i64 of) (mono_eq _) ?_ ?_
  · intro a' w' hb' hk
    refine ⟨wanted_none rfl, _, ?_, rfl⟩
    have q0 := cell_later2 (HK.out.cell (i := 7) rfl) hb'
    simp [Oper.looksAt, Op.operands, Call.operands, KnownAt, List.lookup, consD] at hk
    simp [execOp, Act.eval, hk, q0, go_sem]
    all_goals rfl
  refine gw_lit (E := iR) [4, 33639248, 2, 20, 2, 20, 2, flagI bh, 2, me, 2, cl, 2, da, 4, su, 4, pa, 4, si, 2, (na.size : Int), 2, 0, 2, 0, 2, 0, 2, 0, 4, 0, 4, of] ?_ ?_
  · intro a' w' hk
    refine ⟨wanted_none rfl, (List.map iR [4, 33639248, 2, 20, 2, 20, 2, flagI bh, 2, me, 2, cl, 2, da, 4, su, 4, pa, 4, si, 2, (na.size : Int), 2, 0, 2, 0, 2, 0, 2, 0, 4, 0, 4, of]).toArray, 3, by simp, ?_⟩
    simp [Oper.looksAt, Op.operands, Call.operands, KnownAt, List.lookup, consD] at hk
    simp [execOp, Act.eval, hk, go_sem]
    all_goals rfl
  refine gw_callE 55 (fun args w => ∃ v0 : Value, args = #[v0] ∧ (SliceG iR [4, 33639248, 2, 20, 2, 20, 2, flagI bh, 2, me, 2, cl, 2, da, 4, su, 4, pa, 4, si, 2, (na.size : Int), 2, 0, 2, 0, 2, 0, 2, 0, 4, 0, 4, of]) v0 w) (OwnB w1.heap.size (encP [(4, 33639248), (2, 20), (2, 20), (2, flagI bh), (2, me), (2, cl), (2, da), (4, su), (4, pa), (4, si), (2, (na.size : Int)), (2, 0), (2, 0), (2, 0), (2, 0), (4, 0), (4, of)])) (mono_own _ _) (fun a' w' hk => ?_) (fun w' args hb hA => ?_) ?_
  · refine ⟨wanted_none rfl, #[a'.tmps.getD 29 undef], ⟨_, rfl, hk 29 (by decide)⟩, ?_⟩
    simp [execOp, Act.eval, go_sem]
    all_goals rfl
  · obtain ⟨v0, rfl, u0⟩ := hA
    have hb' : Below w1.heap.size w1 w' := ((Below.refl w1.heap.size w1).drew).trans hb
    obtain ⟨q, m, d, rfl, hm, hq⟩ := u0
    refine (put_any q m d [(4, 33639248), (2, 20), (2, 20), (2, flagI bh), (2, me), (2, cl), (2, da), (4, su), (4, pa), (4, si), (2, (na.size : Int)), (2, 0), (2, 0), (2, 0), (2, 0), (4, 0), (4, of)] w' (by rw [← hm]; simp) (by simp) hq).mono ?_
    rintro e w'' ⟨v, rfl, hv, hb2⟩
    exact ⟨v, rfl, hv.mono hb'.size, hb2⟩
  apply gw_val
  · intro a' w' hk
    refine ⟨wanted_none rfl, ?_⟩
    simp [Oper.looksAt, Op.operands, Call.operands, KnownAt, List.lookup, consD] at hk
    simp [execOp, Act.eval, hk, go_sem]
    all_goals rfl
  refine gw_valB (fun v _ => v = .string na) (mono_eq _) ?_ ?_
  · intro a' w' hb' hk
    refine ⟨wanted_none rfl, _, ?_, rfl⟩
    have q0 := cell_later2 (HK.out.cell (i := 6) rfl) hb'
    simp [Oper.looksAt, Op.operands, Call.operands, KnownAt, List.lookup, consD] at hk
    simp [execOp, Act.eval, hk, q0, go_sem]
    all_goals rfl
  refine gw_bytes 32 na rfl (fun a' w' hk => ⟨wanted_none rfl, hk 32 (by decide)⟩) ?_
  intro vs w3 hb3 hall _
  simp only [AllS, consD] at hall
  simp only [consD, putAllS, Act.put]
  obtain ⟨h33, -, -, h30, -, -, -, -, -, -, -, -, -, -, -, -, -, -, -, -, -, -, -, -, -, -, -, -, -, -⟩ := hall
  obtain ⟨a24, n24, c24, h24e, hown24⟩ := h30
  obtain ⟨a38, n38, c38, h38e, hl38, hr38⟩ := h33
  rw [h24e, h38e]
  clear h24e h38e
  simp only [List.drop_succ_cons, List.drop_zero, List.setIfInBounds_toArray, List.set_cons_succ, List.set_cons_zero]
  have hb3' : Below w1.heap.size w1 w3 := ((Below.refl w1.heap.size w1).drew).trans hb3
  have hl24 : n24 ≤ 1000 := by rw [← hown24.len]; have := encP_le [(4, 33639248), (2, 20), (2, 20), (2, flagI bh), (2, me), (2, cl), (2, da), (4, su), (4, pa), (4, si), (2, (na.size : Int)), (2, 0), (2, 0), (2, 0), (2, 0), (4, 0), (4, of)]; simp only [List.length_cons, List.length_nil] at this; omega
  have hl39 : n38 ≤ 1000 := by rw [← hl38, nameL_len]; exact hna
  have HB7 := Lib.hid (HB1.out.trans (hb3'.mono HB1.out.size))
  have HO24 := Lib.hid (hown24.mono HB1.out.size)
  have HR38 := Lib.hid hr38
  have HL38 := Lib.hid hl38
  clear hown24 hb3 hb3' hr38 hl38
  go_wp2_with (at_builtin; refine wpList_cat (k := nameL na) slByte rfl _ _ rfl rfl HO24.out rfl HL38.out HR38.out (byteOne _) (by omega) (by unfold maxLen; omega) HB7.out.size ?_; intro p7 c7 w7 hown7 hg7 hx7 hy7; have HO7 := Lib.hid (And.intro hown7 (HO24.out.step HB7.out hg7 HB7.out.size)); clear hown7 hg7 hx7 hy7)
  go_ret
  refine ⟨_, rfl, ⟨_, _, _, rfl, ?_⟩, HO7.out.2⟩
  have : centralL ⟨me, da, cl, su, pa, si, na, of⟩ bh = encP [(4, 33639248), (2, 20), (2, 20), (2, flagI bh), (2, me), (2, cl), (2, da), (4, su), (4, pa), (4, si), (2, (na.size : Int)), (2, 0), (2, 0), (2, 0), (2, 0), (4, 0), (4, of)] ++ nameL na := by simp [localL, centralL, encP, encs]
  rw [this]
  exact HO7.out.1
end Go.Proofs.Ytbknkahakmfhkaa
