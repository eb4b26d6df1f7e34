/- Package record: Local. -/
import Derived.Test.YtbknkahakmfhkaaRecC
namespace Go.Proofs.Ytbknkahakmfhkaa
open Go.RowKit
set_option linter.unusedVariables false
set_option linter.unusedSimpArgs false

set_option maxRecDepth 100000 in
set_option maxHeartbeats 16000000 in
theorem cLocal_any (r : Rec) (bh : Bool) (w : World) (hok : r.Ok) (hna : r.na.size ≤ 1000) :
  Calls Try.prog 13 #[.agg r.arr, .bool bh] w fun e w' => ∃ v, e = .returned v ∧ OwnB w.heap.size (localL r bh) v w' ∧ Below w.heap.size w w' := by
  have HOK := Lib.hid hok
  obtain ⟨me, da, cl, su, pa, si, na, of⟩ := r
  simp only [Rec.arr]
  clear hok
  have hb1 := below_alloc w (.cells #[.int .i64 me, .int .u16 da, .int .u16 cl, .int .u32 su, .int .i64 pa, .int .i64 si, .string na, .int .i64 of] TR)
  have hk := Blk.new w TR #[.int .i64 me, .int .u16 da, .int .u16 cl, .int .u32 su, .int .i64 pa, .int .i64 si, .string na, .int .i64 of]
  have HB1 := Lib.hid hb1
  have HK := Lib.hid hk
  have k0 := hk.cell (i := 0) rfl
  have k1 := hk.cell (i := 1) rfl
  have k2 := hk.cell (i := 2) rfl
  have k3 := hk.cell (i := 3) rfl
  have k4 := hk.cell (i := 4) rfl
  have k5 := hk.cell (i := 5) rfl
  have k6 := hk.cell (i := 6) rfl
  have k7 := hk.cell (i := 7) rfl
  clear hb1 hk
  go_enter Try.func13, Try.ntmps13
  have hk0 := HK.out
  have HOK2 : Hid (Rec.Ok ⟨me, da, cl, 0, 0, 0, na, of⟩) := Lib.hid ⟨HOK.out.da, HOK.out.cl, (show (0 : Int) ≤ 0 ∧ (0 : Int) < 4294967296 by decide)⟩
  simp only at hna
  cases bh with
  | true =>
    have hW1 := hk0.alloc (.cells #[.int .i64 me, .int .u16 da, .int .u16 cl, .int .u32 0, .int .i64 0, .int .i64 0, .string na, .int .i64 of] TR)
    have hW2 : Blk ((w.alloc (.cells #[.int .i64 me, .int .u16 da, .int .u16 cl, .int .u32 su, .int .i64 pa, .int .i64 si, .string na, .int .i64 of] TR)).alloc (.cells #[.int .i64 me, .int .u16 da, .int .u16 cl, .int .u32 0, .int .i64 0, .int .i64 0, .string na, .int .i64 of] TR)) (w.heap.size + 1) TR #[.int .i64 me, .int .u16 da, .int .u16 cl, .int .u32 0, .int .i64 0, .int .i64 0, .string na, .int .i64 of] := by
      have := Blk.new (w.alloc (.cells #[.int .i64 me, .int .u16 da, .int .u16 cl, .int .u32 su, .int .i64 pa, .int .i64 si, .string na, .int .i64 of] TR)) TR #[.int .i64 me, .int .u16 da, .int .u16 cl, .int .u32 0, .int .i64 0, .int .i64 0, .string na, .int .i64 of]
      rw [show (w.alloc (.cells #[.int .i64 me, .int .u16 da, .int .u16 cl, .int .u32 su, .int .i64 pa, .int .i64 si, .string na, .int .i64 of] TR)).heap.size = w.heap.size + 1 by simp] at this
      exact this
    have hWB := HB1.out.alloc HB1.out.size (.cells #[.int .i64 me, .int .u16 da, .int .u16 cl, .int .u32 0, .int .i64 0, .int .i64 0, .string na, .int .i64 of] TR)
    have HW := Lib.hid (And.intro hW1 (And.intro hW2 hWB))
    clear hW1 hW2 hWB HK HB1
    go_wp2_with fail
    generalize (w.alloc (.cells #[.int .i64 me, .int .u16 da, .int .u16 cl, .int .u32 su, .int .i64 pa, .int .i64 si, .string na, .int .i64 of] TR)).alloc (.cells #[.int .i64 me, .int .u16 da, .int .u16 cl, .int .u32 0, .int .i64 0, .int .i64 0, .string na, .int .i64 of] TR) = w1 at HW ⊢
    obtain ⟨o, ho⟩ : ∃ o, o = w.heap.size := ⟨_, rfl⟩
    obtain ⟨o2, ho2⟩ : ∃ o2, o2 = w.heap.size + 1 := ⟨_, rfl⟩
    rw [← ho2] at HW ⊢
    have HK : Hid (Blk w1 o TR #[.int .i64 me, .int .u16 da, .int .u16 cl, .int .u32 su, .int .i64 pa, .int .i64 si, .string na, .int .i64 of] ∧ Blk w1 o2 TR #[.int .i64 me, .int .u16 da, .int .u16 cl, .int .u32 0, .int .i64 0, .int .i64 0, .string na, .int .i64 of]) := Lib.hid (by rw [ho]; exact ⟨HW.out.1, HW.out.2.1⟩)
    have HB1 := Lib.hid HW.out.2.2
    rw [← ho]
    clear ho ho2 HW
    refine wp_region_grow (by kernel_rfl) (by kernel_rfl) (by rfl) ?_
    refine gw_lit (E := iR) [67324752] ?_ ?_
    · intro a' w' hk
      refine ⟨wanted_none rfl, (List.map iR [67324752]).toArray, 3, by simp, ?_⟩
      simp [Oper.looksAt, Op.operands, Call.operands, KnownAt, List.lookup, consD] at hk
      simp [execOp, Act.eval, hk, go_sem]
      all_goals rfl
    refine gw_callE 53 (fun args w => ∃ v1 : Value, args = #[.slice none 0 0, v1] ∧ (SliceG iR [67324752]) v1 w) (OwnB w1.heap.size (encs 4 [67324752])) (mono_own _ _) (fun a' w' hk => ?_) (fun w' args hb hA => ?_) ?_
    · refine ⟨wanted_none rfl, #[.slice none 0 0, a'.tmps.getD 12 undef], ⟨_, rfl, hk 12 (by decide)⟩, ?_⟩
      simp [execOp, Act.eval, go_sem]
      all_goals rfl
    · obtain ⟨v1, rfl, u1⟩ := hA
      have hb' : Below w1.heap.size w1 w' := ((Below.refl w1.heap.size w1).drew).trans hb
      obtain ⟨q, m, d, rfl, hm, hq⟩ := u1
      refine (fours_any none 0 0 [] q m d [67324752] w' rfl (by decide) Rd.nil hm (by rw [← hm]; simp) (by rw [← hm]; simp) hq).mono ?_
      rintro e w'' ⟨v, rfl, hv, hb2⟩
      exact ⟨v, rfl, hv.mono hb'.size, hb2⟩
    refine gw_valB (fun v _ => v = .agg #[.int .i64 me, .int .u16 da, .int .u16 cl, .int .u32 su, .int .i64 pa, .int .i64 si, .string na, .int .i64 of]) (mono_eq _) ?_ ?_
    · intro a' w' hb' hk
      refine ⟨wanted_none rfl, _, ?_, rfl⟩
      have q0 := cell_later2 (HK.out.1.cell (i := 0) rfl) hb'
      have q1 := cell_later2 (HK.out.1.cell (i := 1) rfl) hb'
      have q2 := cell_later2 (HK.out.1.cell (i := 2) rfl) hb'
      have q3 := cell_later2 (HK.out.1.cell (i := 3) rfl) hb'
      have q4 := cell_later2 (HK.out.1.cell (i := 4) rfl) hb'
      have q5 := cell_later2 (HK.out.1.cell (i := 5) rfl) hb'
      have q6 := cell_later2 (HK.out.1.cell (i := 6) rfl) hb'
      have q7 := cell_later2 (HK.out.1.cell (i := 7) rfl) hb'
      simp [Oper.looksAt, Op.operands, Call.operands, KnownAt, List.lookup, consD] at hk
      simp [execOp, Act.eval, hk, q0, q1, q2, q3, q4, q5, q6, q7, go_sem]
      all_goals rfl
    refine gw_val (.bool true) ?_ ?_
    · intro a' w' hk
      refine ⟨wanted_none rfl, ?_⟩
      simp [Oper.looksAt, Op.operands, Call.operands, KnownAt, List.lookup, consD] at hk
      simp [execOp, Act.eval, hk, go_sem]
      all_goals rfl
    refine gw_callE 52 (fun args w => ∃ v0 v1 v2 : Value, args = #[v0, v1, v2] ∧ (OwnB w1.heap.size (encs 4 [67324752])) v0 w ∧ v1 = .agg #[.int .i64 me, .int .u16 da, .int .u16 cl, .int .u32 su, .int .i64 pa, .int .i64 si, .string na, .int .i64 of] ∧ v2 = .bool true) (OwnB w1.heap.size (encs 4 [67324752] ++ encs 2 [20, flagI true, me, cl, da])) (mono_own _ _) (fun a' w' hk => ?_) (fun w' args hb hA => ?_) ?_
    · refine ⟨wanted_none rfl, #[a'.tmps.getD 13 undef, a'.tmps.getD 14 undef, a'.tmps.getD 15 undef], ⟨_, _, _, rfl, hk 13 (by decide), hk 14 (by decide), hk 15 (by decide)⟩, ?_⟩
      simp [execOp, Act.eval, go_sem]
      all_goals rfl
    · obtain ⟨v0, v1, v2, rfl, u0, rfl, rfl⟩ := hA
      have hb' : Below w1.heap.size w1 w' := ((Below.refl w1.heap.size w1).drew).trans hb
      obtain ⟨p, n, c, rfl, hown⟩ := u0
      have hlen := hown.len
      refine (shared_any p n c _ ⟨me, da, cl, su, pa, si, na, of⟩ true w' hlen (by rw [← hlen]; (try simp only [List.length_append]); have e0 := encs_le 4 [67324752]; simp only [List.length_cons, List.length_nil] at e0; omega) hown.rd HOK.out).mono ?_
      rintro e w'' ⟨v, rfl, hv, hb2⟩
      exact ⟨v, rfl, hv.mono hb'.size, hb2⟩
    refine gw_valB (fun v _ => v = .agg #[.int .i64 me, .int .u16 da, .int .u16 cl, .int .u32 0, .int .i64 0, .int .i64 0, .string na, .int .i64 of]) (mono_eq _) ?_ ?_
    · intro a' w' hb' hk
      refine ⟨wanted_none rfl, _, ?_, rfl⟩
      have q0 := cell_later2 (HK.out.2.cell (i := 0) rfl) hb'
      have q1 := cell_later2 (HK.out.2.cell (i := 1) rfl) hb'
      have q2 := cell_later2 (HK.out.2.cell (i := 2) rfl) hb'
      have q3 := cell_later2 (HK.out.2.cell (i := 3) rfl) hb'
      have q4 := cell_later2 (HK.out.2.cell (i := 4) rfl) hb'
      have q5 := cell_later2 (HK.out.2.cell (i := 5) rfl) hb'
      have q6 := cell_later2 (HK.out.2.cell (i := 6) rfl) hb'
      have q7 := cell_later2 (HK.out.2.cell (i := 7) rfl) hb'
      simp [Oper.looksAt, Op.operands, Call.operands, KnownAt, List.lookup, consD] at hk
      simp [execOp, Act.eval, hk, q0, q1, q2, q3, q4, q5, q6, q7, go_sem]
      all_goals rfl
    refine gw_callE 51 (fun args w => ∃ v0 v1 : Value, args = #[v0, v1] ∧ (OwnB w1.heap.size (encs 4 [67324752] ++ encs 2 [20, flagI true, me, cl, da])) v0 w ∧ v1 = .agg #[.int .i64 me, .int .u16 da, .int .u16 cl, .int .u32 0, .int .i64 0, .int .i64 0, .string na, .int .i64 of]) (OwnB w1.heap.size (encs 4 [67324752] ++ encs 2 [20, flagI true, me, cl, da] ++ encs 4 [0, 0, 0])) (mono_own _ _) (fun a' w' hk => ?_) (fun w' args hb hA => ?_) ?_
    · refine ⟨wanted_none rfl, #[a'.tmps.getD 16 undef, a'.tmps.getD 17 undef], ⟨_, _, rfl, hk 16 (by decide), hk 17 (by decide)⟩, ?_⟩
      simp [execOp, Act.eval, go_sem]
      all_goals rfl
    · obtain ⟨v0, v1, rfl, u0, rfl⟩ := hA
      have hb' : Below w1.heap.size w1 w' := ((Below.refl w1.heap.size w1).drew).trans hb
      obtain ⟨p, n, c, rfl, hown⟩ := u0
      have hlen := hown.len
      refine (data_any p n c _ ⟨me, da, cl, 0, 0, 0, na, of⟩ w' hlen (by rw [← hlen]; (try simp only [List.length_append]); have e0 := encs_le 4 [67324752]; have e1 := encs_le 2 [20, flagI true, me, cl, da]; simp only [List.length_cons, List.length_nil] at e0 e1; omega) hown.rd HOK2.out).mono ?_
      rintro e w'' ⟨v, rfl, hv, hb2⟩
      exact ⟨v, rfl, hv.mono hb'.size, hb2⟩
    refine gw_valB (OwnB w1.heap.size (encs 4 [67324752] ++ encs 2 [20, flagI true, me, cl, da] ++ encs 4 [0, 0, 0])) (mono_own _ _) ?_ ?_
    · intro a' w' hb' hk
      refine ⟨wanted_none rfl, a'.tmps.getD 18 undef, ?_, hk 18 (by decide)⟩
      simp [execOp, Act.eval, go_sem]
    intro vs w3 hb3 hall
    simp only [AllS, consD] at hall
    simp only [consD, putAllS, Act.put]
    obtain ⟨h9, -⟩ := hall
    generalize vs 6 = v6 at h9 ⊢
    simp only [List.setIfInBounds_toArray, List.set_cons_succ, List.set_cons_zero]
    have hb3' : Below w1.heap.size w1 w3 := ((Below.refl w1.heap.size w1).drew).trans hb3
    have HW := Lib.hid (And.intro h9 (And.intro hb3' (HK.out.1.below hb3')))
    clear h9 hb3 hb3'
    obtain ⟨a6, n6, c6, rfl, hown6⟩ := HW.out.1
    have HV6 := Lib.hid (And.intro hown6 (HB1.out.trans (HW.out.2.1.mono HB1.out.size)))
    have HB6 := Lib.hid HW.out.2.1.size
    have HB16 := Lib.hid HB1.out.size
    have HK2 := Lib.hid HW.out.2.2
    clear hown6 HW HK HB1
    go_wp2_with fail
    generalize w3 = w2 at HV6 HB6 HK2 ⊢
    refine wp_region_growT 8 (by kernel_rfl) (by kernel_rfl) (by rfl) (by kernel_rfl) ?_
    apply gw_val
    · intro a' w' hk
      refine ⟨wanted_none rfl, ?_⟩
      simp [Oper.looksAt, Op.operands, Call.operands, KnownAt, List.lookup, consD] at hk
      simp [execOp, Act.eval, hk, go_sem]
      all_goals rfl
    apply gw_val
    · intro a' w' hk
      refine ⟨wanted_none rfl, ?_⟩
      simp [Oper.looksAt, Op.operands, Call.operands, KnownAt, List.lookup, consD] at hk
      simp [execOp, Act.eval, hk, go_sem]
      all_goals rfl
    refine gw_valB (fun v _ => v = .string na) (mono_eq _) ?_ ?_
    · intro a' w' hb' hk
      refine ⟨wanted_none rfl, _, ?_, rfl⟩
      have q0 := cell_later2 (HK2.out.cell (i := 6) rfl) hb'
      simp [Oper.looksAt, Op.operands, Call.operands, KnownAt, List.lookup, consD] at hk
      simp [execOp, Act.eval, hk, q0, go_sem]
      all_goals rfl
    refine gw_val (.int .i64 na.size) ?_ ?_
    · intro a' w' hk
      refine ⟨wanted_none rfl, ?_⟩
      simp [Oper.looksAt, Op.operands, Call.operands, KnownAt, List.lookup, consD] at hk
      simp [execOp, Act.eval, hk, go_sem]
      all_goals rfl
    refine gw_lit (E := iR) [(na.size : Int), 0] ?_ ?_
    · intro a' w' hk
      refine ⟨wanted_none rfl, (List.map iR [(na.size : Int), 0]).toArray, 3, by simp, ?_⟩
      simp [Oper.looksAt, Op.operands, Call.operands, KnownAt, List.lookup, consD] at hk
      simp [execOp, Act.eval, hk, go_sem]
      all_goals rfl
    refine gw_callE 54 (fun args w => ∃ v0 v1 : Value, args = #[v0, v1] ∧ v0 = .slice a6 n6 c6 ∧ (SliceG iR [(na.size : Int), 0]) v1 w) (OwnB w1.heap.size (encs 4 [67324752] ++ encs 2 [20, flagI true, me, cl, da] ++ encs 4 [0, 0, 0] ++ encs 2 [(na.size : Int), 0])) (mono_own _ _) (fun a' w' hk => ?_) (fun w' args hb hA => ?_) ?_
    · refine ⟨wanted_none rfl, #[a'.tmps.getD 19 undef, a'.tmps.getD 23 undef], ⟨_, _, rfl, hk 19 (by decide), hk 23 (by decide)⟩, ?_⟩
      simp [execOp, Act.eval, go_sem]
      all_goals rfl
    · obtain ⟨v0, v1, rfl, rfl, u1⟩ := hA
      have hb' : Below w2.heap.size w2 w' := ((Below.refl w2.heap.size w2).drew).trans hb
      obtain ⟨q, m, d, rfl, hm, hq⟩ := u1
      have hlen := HV6.out.1.len
      refine (twos_any a6 n6 c6 _ q m d [(na.size : Int), 0] w' hlen (by rw [← hlen]; (try simp only [List.length_append]); have e0 := encs_le 4 [67324752]; have e1 := encs_le 2 [20, flagI true, me, cl, da]; have e2 := encs_le 4 [0, 0, 0]; simp only [List.length_cons, List.length_nil] at e0 e1 e2; omega) (HV6.out.1.rd.below hb') hm (by rw [← hm]; simp) (by rw [← hm]; simp) hq).mono ?_
      rintro e w'' ⟨v, rfl, hv, hb2⟩
      exact ⟨v, rfl, hv.mono (Nat.le_trans HB6.out hb'.size), hb2⟩
    apply gw_val
    · intro a' w' hk
      refine ⟨wanted_none rfl, ?_⟩
      simp [Oper.looksAt, Op.operands, Call.operands, KnownAt, List.lookup, consD] at hk
      simp [execOp, Act.eval, hk, go_sem]
      all_goals rfl
    refine gw_valB (fun v _ => v = .string na) (mono_eq _) ?_ ?_
    · intro a' w' hb' hk
      refine ⟨wanted_none rfl, _, ?_, rfl⟩
      have q0 := cell_later2 (HK2.out.cell (i := 6) rfl) hb'
      simp [Oper.looksAt, Op.operands, Call.operands, KnownAt, List.lookup, consD] at hk
      simp [execOp, Act.eval, hk, q0, go_sem]
      all_goals rfl
    intro vs w3 hb3 hall _
    simp only [AllS, consD] at hall
    simp only [consD, putAllS, Act.put]
    obtain ⟨h26, -, h24, -⟩ := hall
    rw [h26]
    clear h26
    obtain ⟨a24, n24, c24, h24e, hown24⟩ := h24
    rw [h24e]
    clear h24e
    simp only [List.drop_succ_cons, List.drop_zero, List.setIfInBounds_toArray, List.set_cons_succ, List.set_cons_zero]
    have hb3' : Below w2.heap.size w2 w3 := ((Below.refl w2.heap.size w2).drew).trans hb3
    have hl24 : n24 ≤ 1000000 := by rw [← hown24.len]; ((try simp only [List.length_append]); have e0 := encs_le 4 [67324752]; have e1 := encs_le 2 [20, flagI true, me, cl, da]; have e2 := encs_le 4 [0, 0, 0]; have e3 := encs_le 2 [(na.size : Int), 0]; simp only [List.length_cons, List.length_nil] at e0 e1 e2 e3; omega)
    have HB7 := Lib.hid (HV6.out.2.trans (hb3'.mono HV6.out.2.size))
    have HO24 := Lib.hid (hown24.mono HB16.out)
    clear hown24 hb3 hb3'
    go_wp2_with (at_builtin; refine wpList_catS rfl _ _ rfl rfl HO24.out na rfl (by omega) HB7.out.size ?_; intro p7 n7 c7 w7 hown7 hg7; have HO7 := Lib.hid (And.intro hown7 (HO24.out.step HB7.out hg7 HB7.out.size)); clear hown7 hg7)
    go_ret
    exact ⟨_, rfl, ⟨_, _, _, rfl, HO7.out.1⟩, HO7.out.2⟩
  | false =>
    have HOK2 := HOK
    have hW1 := hk0.alloc (.cells #[.int .i64 me, .int .u16 da, .int .u16 cl, .int .u32 su, .int .i64 pa, .int .i64 si, .string na, .int .i64 of] TR)
    have hW2 : Blk ((w.alloc (.cells #[.int .i64 me, .int .u16 da, .int .u16 cl, .int .u32 su, .int .i64 pa, .int .i64 si, .string na, .int .i64 of] TR)).alloc (.cells #[.int .i64 me, .int .u16 da, .int .u16 cl, .int .u32 su, .int .i64 pa, .int .i64 si, .string na, .int .i64 of] TR)) (w.heap.size + 1) TR #[.int .i64 me, .int .u16 da, .int .u16 cl, .int .u32 su, .int .i64 pa, .int .i64 si, .string na, .int .i64 of] := by
      have := Blk.new (w.alloc (.cells #[.int .i64 me, .int .u16 da, .int .u16 cl, .int .u32 su, .int .i64 pa, .int .i64 si, .string na, .int .i64 of] TR)) TR #[.int .i64 me, .int .u16 da, .int .u16 cl, .int .u32 su, .int .i64 pa, .int .i64 si, .string na, .int .i64 of]
      rw [show (w.alloc (.cells #[.int .i64 me, .int .u16 da, .int .u16 cl, .int .u32 su, .int .i64 pa, .int .i64 si, .string na, .int .i64 of] TR)).heap.size = w.heap.size + 1 by simp] at this
      exact this
    have hWB := HB1.out.alloc HB1.out.size (.cells #[.int .i64 me, .int .u16 da, .int .u16 cl, .int .u32 su, .int .i64 pa, .int .i64 si, .string na, .int .i64 of] TR)
    have HW := Lib.hid (And.intro hW1 (And.intro hW2 hWB))
    clear hW1 hW2 hWB HK HB1
    go_wp2_with fail
    generalize (w.alloc (.cells #[.int .i64 me, .int .u16 da, .int .u16 cl, .int .u32 su, .int .i64 pa, .int .i64 si, .string na, .int .i64 of] TR)).alloc (.cells #[.int .i64 me, .int .u16 da, .int .u16 cl, .int .u32 su, .int .i64 pa, .int .i64 si, .string na, .int .i64 of] TR) = w1 at HW ⊢
    obtain ⟨o, ho⟩ : ∃ o, o = w.heap.size := ⟨_, rfl⟩
    obtain ⟨o2, ho2⟩ : ∃ o2, o2 = w.heap.size + 1 := ⟨_, rfl⟩
    rw [← ho2] at HW ⊢
    have HK : Hid (Blk w1 o TR #[.int .i64 me, .int .u16 da, .int .u16 cl, .int .u32 su, .int .i64 pa, .int .i64 si, .string na, .int .i64 of] ∧ Blk w1 o2 TR #[.int .i64 me, .int .u16 da, .int .u16 cl, .int .u32 su, .int .i64 pa, .int .i64 si, .string na, .int .i64 of]) := Lib.hid (by rw [ho]; exact ⟨HW.out.1, HW.out.2.1⟩)
    have HB1 := Lib.hid HW.out.2.2
    rw [← ho]
    clear ho ho2 HW
    refine wp_region_grow (by kernel_rfl) (by kernel_rfl) (by rfl) ?_
    refine gw_lit (E := iR) [67324752] ?_ ?_
    · intro a' w' hk
      refine ⟨wanted_none rfl, (List.map iR [67324752]).toArray, 3, by simp, ?_⟩
      simp [Oper.looksAt, Op.operands, Call.operands, KnownAt, List.lookup, consD] at hk
      simp [execOp, Act.eval, hk, go_sem]
      all_goals rfl
    refine gw_callE 53 (fun args w => ∃ v1 : Value, args = #[.slice none 0 0, v1] ∧ (SliceG iR [67324752]) v1 w) (OwnB w1.heap.size (encs 4 [67324752])) (mono_own _ _) (fun a' w' hk => ?_) (fun w' args hb hA => ?_) ?_
    · refine ⟨wanted_none rfl, #[.slice none 0 0, a'.tmps.getD 12 undef], ⟨_, rfl, hk 12 (by decide)⟩, ?_⟩
      simp [execOp, Act.eval, go_sem]
      all_goals rfl
    · obtain ⟨v1, rfl, u1⟩ := hA
      have hb' : Below w1.heap.size w1 w' := ((Below.refl w1.heap.size w1).drew).trans hb
      obtain ⟨q, m, d, rfl, hm, hq⟩ := u1
      refine (fours_any none 0 0 [] q m d [67324752] w' rfl (by decide) Rd.nil hm (by rw [← hm]; simp) (by rw [← hm]; simp) hq).mono ?_
      rintro e w'' ⟨v, rfl, hv, hb2⟩
      exact ⟨v, rfl, hv.mono hb'.size, hb2⟩
    refine gw_valB (fun v _ => v = .agg #[.int .i64 me, .int .u16 da, .int .u16 cl, .int .u32 su, .int .i64 pa, .int .i64 si, .string na, .int .i64 of]) (mono_eq _) ?_ ?_
    · intro a' w' hb' hk
      refine ⟨wanted_none rfl, _, ?_, rfl⟩
      have q0 := cell_later2 (HK.out.1.cell (i := 0) rfl) hb'
      have q1 := cell_later2 (HK.out.1.cell (i := 1) rfl) hb'
      have q2 := cell_later2 (HK.out.1.cell (i := 2) rfl) hb'
      have q3 := cell_later2 (HK.out.1.cell (i := 3) rfl) hb'
      have q4 := cell_later2 (HK.out.1.cell (i := 4) rfl) hb'
      have q5 := cell_later2 (HK.out.1.cell (i := 5) rfl) hb'
      have q6 := cell_later2 (HK.out.1.cell (i := 6) rfl) hb'
      have q7 := cell_later2 (HK.out.1.cell (i := 7) rfl) hb'
      simp [Oper.looksAt, Op.operands, Call.operands, KnownAt, List.lookup, consD] at hk
      simp [execOp, Act.eval, hk, q0, q1, q2, q3, q4, q5, q6, q7, go_sem]
      all_goals rfl
    refine gw_val (.bool false) ?_ ?_
    · intro a' w' hk
      refine ⟨wanted_none rfl, ?_⟩
      simp [Oper.looksAt, Op.operands, Call.operands, KnownAt, List.lookup, consD] at hk
      simp [execOp, Act.eval, hk, go_sem]
      all_goals rfl
    refine gw_callE 52 (fun args w => ∃ v0 v1 v2 : Value, args = #[v0, v1, v2] ∧ (OwnB w1.heap.size (encs 4 [67324752])) v0 w ∧ v1 = .agg #[.int .i64 me, .int .u16 da, .int .u16 cl, .int .u32 su, .int .i64 pa, .int .i64 si, .string na, .int .i64 of] ∧ v2 = .bool false) (OwnB w1.heap.size (encs 4 [67324752] ++ encs 2 [20, flagI false, me, cl, da])) (mono_own _ _) (fun a' w' hk => ?_) (fun w' args hb hA => ?_) ?_
    · refine ⟨wanted_none rfl, #[a'.tmps.getD 13 undef, a'.tmps.getD 14 undef, a'.tmps.getD 15 undef], ⟨_, _, _, rfl, hk 13 (by decide), hk 14 (by decide), hk 15 (by decide)⟩, ?_⟩
      simp [execOp, Act.eval, go_sem]
      all_goals rfl
    · obtain ⟨v0, v1, v2, rfl, u0, rfl, rfl⟩ := hA
      have hb' : Below w1.heap.size w1 w' := ((Below.refl w1.heap.size w1).drew).trans hb
      obtain ⟨p, n, c, rfl, hown⟩ := u0
      have hlen := hown.len
      refine (shared_any p n c _ ⟨me, da, cl, su, pa, si, na, of⟩ false w' hlen (by rw [← hlen]; (try simp only [List.length_append]); have e0 := encs_le 4 [67324752]; simp only [List.length_cons, List.length_nil] at e0; omega) hown.rd HOK.out).mono ?_
      rintro e w'' ⟨v, rfl, hv, hb2⟩
      exact ⟨v, rfl, hv.mono hb'.size, hb2⟩
    refine gw_valB (fun v _ => v = .agg #[.int .i64 me, .int .u16 da, .int .u16 cl, .int .u32 su, .int .i64 pa, .int .i64 si, .string na, .int .i64 of]) (mono_eq _) ?_ ?_
    · intro a' w' hb' hk
      refine ⟨wanted_none rfl, _, ?_, rfl⟩
      have q0 := cell_later2 (HK.out.2.cell (i := 0) rfl) hb'
      have q1 := cell_later2 (HK.out.2.cell (i := 1) rfl) hb'
      have q2 := cell_later2 (HK.out.2.cell (i := 2) rfl) hb'
      have q3 := cell_later2 (HK.out.2.cell (i := 3) rfl) hb'
      have q4 := cell_later2 (HK.out.2.cell (i := 4) rfl) hb'
      have q5 := cell_later2 (HK.out.2.cell (i := 5) rfl) hb'
      have q6 := cell_later2 (HK.out.2.cell (i := 6) rfl) hb'
      have q7 := cell_later2 (HK.out.2.cell (i := 7) rfl) hb'
      simp [Oper.looksAt, Op.operands, Call.operands, KnownAt, List.lookup, consD] at hk
      simp [execOp, Act.eval, hk, q0, q1, q2, q3, q4, q5, q6, q7, go_sem]
      all_goals rfl
    refine gw_callE 51 (fun args w => ∃ v0 v1 : Value, args = #[v0, v1] ∧ (OwnB w1.heap.size (encs 4 [67324752] ++ encs 2 [20, flagI false, me, cl, da])) v0 w ∧ v1 = .agg #[.int .i64 me, .int .u16 da, .int .u16 cl, .int .u32 su, .int .i64 pa, .int .i64 si, .string na, .int .i64 of]) (OwnB w1.heap.size (encs 4 [67324752] ++ encs 2 [20, flagI false, me, cl, da] ++ encs 4 [su, pa, si])) (mono_own _ _) (fun a' w' hk => ?_) (fun w' args hb hA => ?_) ?_
    · refine ⟨wanted_none rfl, #[a'.tmps.getD 16 undef, a'.tmps.getD 17 undef], ⟨_, _, rfl, hk 16 (by decide), hk 17 (by decide)⟩, ?_⟩
      simp [execOp, Act.eval, go_sem]
      all_goals rfl
    · obtain ⟨v0, v1, rfl, u0, rfl⟩ := hA
      have hb' : Below w1.heap.size w1 w' := ((Below.refl w1.heap.size w1).drew).trans hb
      obtain ⟨p, n, c, rfl, hown⟩ := u0
      have hlen := hown.len
      refine (data_any p n c _ ⟨me, da, cl, su, pa, si, na, of⟩ w' hlen (by rw [← hlen]; (try simp only [List.length_append]); have e0 := encs_le 4 [67324752]; have e1 := encs_le 2 [20, flagI false, me, cl, da]; simp only [List.length_cons, List.length_nil] at e0 e1; omega) hown.rd HOK2.out).mono ?_
      rintro e w'' ⟨v, rfl, hv, hb2⟩
      exact ⟨v, rfl, hv.mono hb'.size, hb2⟩
    refine gw_valB (OwnB w1.heap.size (encs 4 [67324752] ++ encs 2 [20, flagI false, me, cl, da] ++ encs 4 [su, pa, si])) (mono_own _ _) ?_ ?_
    · intro a' w' hb' hk
      refine ⟨wanted_none rfl, a'.tmps.getD 18 undef, ?_, hk 18 (by decide)⟩
      simp [execOp, Act.eval, go_sem]
    intro vs w3 hb3 hall
    simp only [AllS, consD] at hall
    simp only [consD, putAllS, Act.put]
    obtain ⟨h9, -⟩ := hall
    generalize vs 6 = v6 at h9 ⊢
    simp only [List.setIfInBounds_toArray, List.set_cons_succ, List.set_cons_zero]
    have hb3' : Below w1.heap.size w1 w3 := ((Below.refl w1.heap.size w1).drew).trans hb3
    have HW := Lib.hid (And.intro h9 (And.intro hb3' (HK.out.1.below hb3')))
    clear h9 hb3 hb3'
    obtain ⟨a6, n6, c6, rfl, hown6⟩ := HW.out.1
    have HV6 := Lib.hid (And.intro hown6 (HB1.out.trans (HW.out.2.1.mono HB1.out.size)))
    have HB6 := Lib.hid HW.out.2.1.size
    have HB16 := Lib.hid HB1.out.size
    have HK2 := Lib.hid HW.out.2.2
    clear hown6 HW HK HB1
    go_wp2_with fail
    generalize w3 = w2 at HV6 HB6 HK2 ⊢
    refine wp_region_growT 8 (by kernel_rfl) (by kernel_rfl) (by rfl) (by kernel_rfl) ?_
    apply gw_val
    · intro a' w' hk
      refine ⟨wanted_none rfl, ?_⟩
      simp [Oper.looksAt, Op.operands, Call.operands, KnownAt, List.lookup, consD] at hk
      simp [execOp, Act.eval, hk, go_sem]
      all_goals rfl
    apply gw_val
    · intro a' w' hk
      refine ⟨wanted_none rfl, ?_⟩
      simp [Oper.looksAt, Op.operands, Call.operands, KnownAt, List.lookup, consD] at hk
      simp [execOp, Act.eval, hk, go_sem]
      all_goals rfl
    refine gw_valB (fun v _ => v = .string na) (mono_eq _) ?_ ?_
    · intro a' w' hb' hk
      refine ⟨wanted_none rfl, _, ?_, rfl⟩
      have q0 := cell_later2 (HK2.out.cell (i := 6) rfl) hb'
      simp [Oper.looksAt, Op.operands, Call.operands, KnownAt, List.lookup, consD] at hk
      simp [execOp, Act.eval, hk, q0, go_sem]
      all_goals rfl
    refine gw_val (.int .i64 na.size) ?_ ?_
    · intro a' w' hk
      refine ⟨wanted_none rfl, ?_⟩
      simp [Oper.looksAt, Op.operands, Call.operands, KnownAt, List.lookup, consD] at hk
      simp [execOp, Act.eval, hk, go_sem]
      all_goals rfl
    refine gw_lit (E := iR) [(na.size : Int), 0] ?_ ?_
    · intro a' w' hk
      refine ⟨wanted_none rfl, (List.map iR [(na.size : Int), 0]).toArray, 3, by simp, ?_⟩
      simp [Oper.looksAt, Op.operands, Call.operands, KnownAt, List.lookup, consD] at hk
      simp [execOp, Act.eval, hk, go_sem]
      all_goals rfl
    refine gw_callE 54 (fun args w => ∃ v0 v1 : Value, args = #[v0, v1] ∧ v0 = .slice a6 n6 c6 ∧ (SliceG iR [(na.size : Int), 0]) v1 w) (OwnB w1.heap.size (encs 4 [67324752] ++ encs 2 [20, flagI false, me, cl, da] ++ encs 4 [su, pa, si] ++ encs 2 [(na.size : Int), 0])) (mono_own _ _) (fun a' w' hk => ?_) (fun w' args hb hA => ?_) ?_
    · refine ⟨wanted_none rfl, #[a'.tmps.getD 19 undef, a'.tmps.getD 23 undef], ⟨_, _, rfl, hk 19 (by decide), hk 23 (by decide)⟩, ?_⟩
      simp [execOp, Act.eval, go_sem]
      all_goals rfl
    · obtain ⟨v0, v1, rfl, rfl, u1⟩ := hA
      have hb' : Below w2.heap.size w2 w' := ((Below.refl w2.heap.size w2).drew).trans hb
      obtain ⟨q, m, d, rfl, hm, hq⟩ := u1
      have hlen := HV6.out.1.len
      refine (twos_any a6 n6 c6 _ q m d [(na.size : Int), 0] w' hlen (by rw [← hlen]; (try simp only [List.length_append]); have e0 := encs_le 4 [67324752]; have e1 := encs_le 2 [20, flagI false, me, cl, da]; have e2 := encs_le 4 [su, pa, si]; simp only [List.length_cons, List.length_nil] at e0 e1 e2; omega) (HV6.out.1.rd.below hb') hm (by rw [← hm]; simp) (by rw [← hm]; simp) hq).mono ?_
      rintro e w'' ⟨v, rfl, hv, hb2⟩
      exact ⟨v, rfl, hv.mono (Nat.le_trans HB6.out hb'.size), hb2⟩
    apply gw_val
    · intro a' w' hk
      refine ⟨wanted_none rfl, ?_⟩
      simp [Oper.looksAt, Op.operands, Call.operands, KnownAt, List.lookup, consD] at hk
      simp [execOp, Act.eval, hk, go_sem]
      all_goals rfl
    refine gw_valB (fun v _ => v = .string na) (mono_eq _) ?_ ?_
    · intro a' w' hb' hk
      refine ⟨wanted_none rfl, _, ?_, rfl⟩
      have q0 := cell_later2 (HK2.out.cell (i := 6) rfl) hb'
      simp [Oper.looksAt, Op.operands, Call.operands, KnownAt, List.lookup, consD] at hk
      simp [execOp, Act.eval, hk, q0, go_sem]
      all_goals rfl
    intro vs w3 hb3 hall _
    simp only [AllS, consD] at hall
    simp only [consD, putAllS, Act.put]
    obtain ⟨h26, -, h24, -⟩ := hall
    rw [h26]
    clear h26
    obtain ⟨a24, n24, c24, h24e, hown24⟩ := h24
    rw [h24e]
    clear h24e
    simp only [List.drop_succ_cons, List.drop_zero, List.setIfInBounds_toArray, List.set_cons_succ, List.set_cons_zero]
    have hb3' : Below w2.heap.size w2 w3 := ((Below.refl w2.heap.size w2).drew).trans hb3
    have hl24 : n24 ≤ 1000000 := by rw [← hown24.len]; ((try simp only [List.length_append]); have e0 := encs_le 4 [67324752]; have e1 := encs_le 2 [20, flagI false, me, cl, da]; have e2 := encs_le 4 [su, pa, si]; have e3 := encs_le 2 [(na.size : Int), 0]; simp only [List.length_cons, List.length_nil] at e0 e1 e2 e3; omega)
    have HB7 := Lib.hid (HV6.out.2.trans (hb3'.mono HV6.out.2.size))
    have HO24 := Lib.hid (hown24.mono HB16.out)
    clear hown24 hb3 hb3'
    go_wp2_with (at_builtin; refine wpList_catS rfl _ _ rfl rfl HO24.out na rfl (by omega) HB7.out.size ?_; intro p7 n7 c7 w7 hown7 hg7; have HO7 := Lib.hid (And.intro hown7 (HO24.out.step HB7.out hg7 HB7.out.size)); clear hown7 hg7)
    go_ret
    exact ⟨_, rfl, ⟨_, _, _, rfl, HO7.out.1⟩, HO7.out.2⟩
end Go.Proofs.Ytbknkahakmfhkaa
