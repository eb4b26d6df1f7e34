/- Package record: Central, End. -/
import Derived.Test.YtbknkahakmfhkaaRecC
namespace Go.Proofs.Ytbknkahakmfhkaa
open Go.RowKit
set_option linter.unusedVariables false
set_option linter.unusedSimpArgs false

set_option maxRecDepth 100000 in
set_option maxHeartbeats 16000000 in
theorem cCentral_any (r : Rec) (bh : Bool) (w : World) (hok : r.Ok) (hna : r.na.size ≤ 1000) :
  Calls Try.prog 17 #[.agg r.arr, .bool bh] w fun e w' => ∃ v, e = .returned v ∧ OwnB w.heap.size (centralL r bh) v w' ∧ Below w.heap.size w w' := by
  have HOK := Lib.hid hok
  obtain ⟨me, da, cl, su, pa, si, na, of⟩ := r
  simp only [Rec.arr]
  clear hok
  have hb1 := below_alloc w (.cells #[.int .i64 me, .int .u16 da, .int .u16 cl, .int .u32 su, .int .i64 pa, .int .i64 si, .string na, .int .i64 of] TR)
  have hk := Blk.new w TR #[.int .i64 me, .int .u16 da, .int .u16 cl, .int .u32 su, .int .i64 pa, .int .i64 si, .string na, .int .i64 of]
  have HB1 := Lib.hid hb1
  have HK := Lib.hid hk
  have k0 := hk.cell (i := 0) rfl
  have k1 := hk.cell (i := 1) rfl
  have k2 := hk.cell (i := 2) rfl
  have k3 := hk.cell (i := 3) rfl
  have k4 := hk.cell (i := 4) rfl
  have k5 := hk.cell (i := 5) rfl
  have k6 := hk.cell (i := 6) rfl
  have k7 := hk.cell (i := 7) rfl
  clear hb1 hk
  go_enter Try.func17, Try.ntmps17
  simp only at hna
  go_wp2_with fail
  obtain ⟨o, ho⟩ : ∃ o, o = w.heap.size := ⟨_, rfl⟩
  have HO : Hid (w.heap.size ≤ o) := Lib.hid (by omega)
  clear k0 k1 k2 k3 k4 k5 k6 k7
  rw [← ho] at HK ⊢
  generalize hw1 : w.alloc (.cells #[.int .i64 me, .int .u16 da, .int .u16 cl, .int .u32 su, .int .i64 pa, .int .i64 si, .string na, .int .i64 of] TR) = w1 at HB1 HK ⊢
  clear hw1 ho
  refine wp_region_grow (by kernel_rfl) (by kernel_rfl) (by rfl) ?_
  refine gw_lit (E := iR) [33639248] ?_ ?_
  · intro a' w' hk
    refine ⟨wanted_none rfl, (List.map iR [33639248]).toArray, 3, by simp, ?_⟩
    simp [Oper.looksAt, Op.operands, Call.operands, KnownAt, List.lookup, consD] at hk
    simp [execOp, Act.eval, hk, go_sem]
    all_goals rfl
  refine gw_callE 53 (fun args w => ∃ v1 : Value, args = #[.slice none 0 0, v1] ∧ (SliceG iR [33639248]) v1 w) (OwnB w1.heap.size (encs 4 [33639248])) (mono_own _ _) (fun a' w' hk => ?_) (fun w' args hb hA => ?_) ?_
  · refine ⟨wanted_none rfl, #[.slice none 0 0, a'.tmps.getD 6 undef], ⟨_, rfl, hk 6 (by decide)⟩, ?_⟩
    simp [execOp, Act.eval, go_sem]
    all_goals rfl
  · obtain ⟨v1, rfl, u1⟩ := hA
    have hb' : Below w1.heap.size w1 w' := ((Below.refl w1.heap.size w1).drew).trans hb
    obtain ⟨q, m, d, rfl, hm, hq⟩ := u1
    refine (fours_any none 0 0 [] q m d [33639248] w' rfl (by decide) Rd.nil hm (by rw [← hm]; simp) (by rw [← hm]; simp) hq).mono ?_
    rintro e w'' ⟨v, rfl, hv, hb2⟩
    exact ⟨v, rfl, hv.mono hb'.size, hb2⟩
  refine gw_lit (E := iR) [20] ?_ ?_
  · intro a' w' hk
    refine ⟨wanted_none rfl, (List.map iR [20]).toArray, 3, by simp, ?_⟩
    simp [Oper.looksAt, Op.operands, Call.operands, KnownAt, List.lookup, consD] at hk
    simp [execOp, Act.eval, hk, go_sem]
    all_goals rfl
  refine gw_callE 54 (fun args w => ∃ v0 v1 : Value, args = #[v0, v1] ∧ (OwnB w1.heap.size (encs 4 [33639248])) v0 w ∧ (SliceG iR [20]) v1 w) (OwnB w1.heap.size (encs 4 [33639248] ++ encs 2 [20])) (mono_own _ _) (fun a' w' hk => ?_) (fun w' args hb hA => ?_) ?_
  · refine ⟨wanted_none rfl, #[a'.tmps.getD 7 undef, a'.tmps.getD 8 undef], ⟨_, _, rfl, hk 7 (by decide), hk 8 (by decide)⟩, ?_⟩
    simp [execOp, Act.eval, go_sem]
    all_goals rfl
  · obtain ⟨v0, v1, rfl, u0, u1⟩ := hA
    have hb' : Below w1.heap.size w1 w' := ((Below.refl w1.heap.size w1).drew).trans hb
    obtain ⟨p, n, c, rfl, hown⟩ := u0
    obtain ⟨q, m, d, rfl, hm, hq⟩ := u1
    have hlen := hown.len
    refine (twos_any p n c _ q m d [20] w' hlen (by rw [← hlen]; (try simp only [List.length_append]); have e0 := encs_le 4 [33639248]; simp only [List.length_cons, List.length_nil] at e0; omega) hown.rd hm (by rw [← hm]; simp) (by rw [← hm]; simp) hq).mono ?_
    rintro e w'' ⟨v, rfl, hv, hb2⟩
    exact ⟨v, rfl, hv.mono hb'.size, hb2⟩
  refine gw_valB (fun v _ => v = .agg #[.int .i64 me, .int .u16 da, .int .u16 cl, .int .u32 su, .int .i64 pa, .int .i64 si, .string na, .int .i64 of]) (mono_eq _) ?_ ?_
  · intro a' w' hb' hk
    refine ⟨wanted_none rfl, _, ?_, rfl⟩
    have q0 := cell_later2 (HK.out.cell (i := 0) rfl) hb'
    have q1 := cell_later2 (HK.out.cell (i := 1) rfl) hb'
    have q2 := cell_later2 (HK.out.cell (i := 2) rfl) hb'
    have q3 := cell_later2 (HK.out.cell (i := 3) rfl) hb'
    have q4 := cell_later2 (HK.out.cell (i := 4) rfl) hb'
    have q5 := cell_later2 (HK.out.cell (i := 5) rfl) hb'
    have q6 := cell_later2 (HK.out.cell (i := 6) rfl) hb'
    have q7 := cell_later2 (HK.out.cell (i := 7) rfl) hb'
    simp [Oper.looksAt, Op.operands, Call.operands, KnownAt, List.lookup, consD] at hk
    simp [execOp, Act.eval, hk, q0, q1, q2, q3, q4, q5, q6, q7, go_sem]
    all_goals rfl
  refine gw_val (.bool bh) ?_ ?_
  · intro a' w' hk
    refine ⟨wanted_none rfl, ?_⟩
    simp [Oper.looksAt, Op.operands, Call.operands, KnownAt, List.lookup, consD] at hk
    simp [execOp, Act.eval, hk, go_sem]
    all_goals rfl
  refine gw_callE 52 (fun args w => ∃ v0 v1 v2 : Value, args = #[v0, v1, v2] ∧ (OwnB w1.heap.size (encs 4 [33639248] ++ encs 2 [20])) v0 w ∧ v1 = .agg #[.int .i64 me, .int .u16 da, .int .u16 cl, .int .u32 su, .int .i64 pa, .int .i64 si, .string na, .int .i64 of] ∧ v2 = .bool bh) (OwnB w1.heap.size (encs 4 [33639248] ++ encs 2 [20] ++ encs 2 [20, flagI bh, me, cl, da])) (mono_own _ _) (fun a' w' hk => ?_) (fun w' args hb hA => ?_) ?_
  · refine ⟨wanted_none rfl, #[a'.tmps.getD 9 undef, a'.tmps.getD 10 undef, a'.tmps.getD 11 undef], ⟨_, _, _, rfl, hk 9 (by decide), hk 10 (by decide), hk 11 (by decide)⟩, ?_⟩
    simp [execOp, Act.eval, go_sem]
    all_goals rfl
  · obtain ⟨v0, v1, v2, rfl, u0, rfl, rfl⟩ := hA
    have hb' : Below w1.heap.size w1 w' := ((Below.refl w1.heap.size w1).drew).trans hb
    obtain ⟨p, n, c, rfl, hown⟩ := u0
    have hlen := hown.len
    refine (shared_any p n c _ ⟨me, da, cl, su, pa, si, na, of⟩ bh w' hlen (by rw [← hlen]; (try simp only [List.length_append]); have e0 := encs_le 4 [33639248]; have e1 := encs_le 2 [20]; simp only [List.length_cons, List.length_nil] at e0 e1; omega) hown.rd HOK.out).mono ?_
    rintro e w'' ⟨v, rfl, hv, hb2⟩
    exact ⟨v, rfl, hv.mono hb'.size, hb2⟩
  refine gw_valB (fun v _ => v = .agg #[.int .i64 me, .int .u16 da, .int .u16 cl, .int .u32 su, .int .i64 pa, .int .i64 si, .string na, .int .i64 of]) (mono_eq _) ?_ ?_
  · intro a' w' hb' hk
    refine ⟨wanted_none rfl, _, ?_, rfl⟩
    have q0 := cell_later2 (HK.out.cell (i := 0) rfl) hb'
    have q1 := cell_later2 (HK.out.cell (i := 1) rfl) hb'
    have q2 := cell_later2 (HK.out.cell (i := 2) rfl) hb'
    have q3 := cell_later2 (HK.out.cell (i := 3) rfl) hb'
    have q4 := cell_later2 (HK.out.cell (i := 4) rfl) hb'
    have q5 := cell_later2 (HK.out.cell (i := 5) rfl) hb'
    have q6 := cell_later2 (HK.out.cell (i := 6) rfl) hb'
    have q7 := cell_later2 (HK.out.cell (i := 7) rfl) hb'
    simp [Oper.looksAt, Op.operands, Call.operands, KnownAt, List.lookup, consD] at hk
    simp [execOp, Act.eval, hk, q0, q1, q2, q3, q4, q5, q6, q7, go_sem]
    all_goals rfl
  refine gw_callE 51 (fun args w => ∃ v0 v1 : Value, args = #[v0, v1] ∧ (OwnB w1.heap.size (encs 4 [33639248] ++ encs 2 [20] ++ encs 2 [20, flagI bh, me, cl, da])) v0 w ∧ v1 = .agg #[.int .i64 me, .int .u16 da, .int .u16 cl, .int .u32 su, .int .i64 pa, .int .i64 si, .string na, .int .i64 of]) (OwnB w1.heap.size (encs 4 [33639248] ++ encs 2 [20] ++ encs 2 [20, flagI bh, me, cl, da] ++ encs 4 [su, pa, si])) (mono_own _ _) (fun a' w' hk => ?_) (fun w' args hb hA => ?_) ?_
  · refine ⟨wanted_none rfl, #[a'.tmps.getD 12 undef, a'.tmps.getD 13 undef], ⟨_, _, rfl, hk 12 (by decide), hk 13 (by decide)⟩, ?_⟩
    simp [execOp, Act.eval, go_sem]
    all_goals rfl
  · obtain ⟨v0, v1, rfl, u0, rfl⟩ := hA
    have hb' : Below w1.heap.size w1 w' := ((Below.refl w1.heap.size w1).drew).trans hb
    obtain ⟨p, n, c, rfl, hown⟩ := u0
    have hlen := hown.len
    refine (data_any p n c _ ⟨me, da, cl, su, pa, si, na, of⟩ w' hlen (by rw [← hlen]; (try simp only [List.length_append]); have e0 := encs_le 4 [33639248]; have e1 := encs_le 2 [20]; have e2 := encs_le 2 [20, flagI bh, me, cl, da]; simp only [List.length_cons, List.length_nil] at e0 e1 e2; omega) hown.rd HOK.out).mono ?_
    rintro e w'' ⟨v, rfl, hv, hb2⟩
    exact ⟨v, rfl, hv.mono hb'.size, hb2⟩
  refine gw_valB (OwnB w1.heap.size (encs 4 [33639248] ++ encs 2 [20] ++ encs 2 [20, flagI bh, me, cl, da] ++ encs 4 [su, pa, si])) (mono_own _ _) ?_ ?_
  · intro a' w' hb' hk
    refine ⟨wanted_none rfl, a'.tmps.getD 14 undef, ?_, hk 14 (by decide)⟩
    simp [execOp, Act.eval, go_sem]
  intro vs w3 hb3 hall
  simp only [AllS, consD] at hall
  simp only [consD, putAllS, Act.put]
  obtain ⟨h9, -⟩ := hall
  generalize vs 5 = v6 at h9 ⊢
  simp only [List.setIfInBounds_toArray, List.set_cons_succ, List.set_cons_zero]
  have hb3' : Below w1.heap.size w1 w3 := ((Below.refl w1.heap.size w1).drew).trans hb3
  have HW := Lib.hid (And.intro h9 (And.intro hb3' (HK.out.below hb3')))
  clear h9 hb3 hb3'
  obtain ⟨a6, n6, c6, rfl, hown6⟩ := HW.out.1
  have HV6 := Lib.hid (And.intro hown6 (HB1.out.trans (HW.out.2.1.mono HB1.out.size)))
  have HB6 := Lib.hid HW.out.2.1.size
  have HB16 := Lib.hid HB1.out.size
  have HK2 := Lib.hid HW.out.2.2
  clear hown6 HW HK HB1
  go_wp2_with fail
  generalize w3 = w2 at HV6 HB6 HK2 ⊢
  refine wp_region_grow (by kernel_rfl) (by kernel_rfl) (by rfl) ?_
  apply gw_val
  · intro a' w' hk
    refine ⟨wanted_none rfl, ?_⟩
    simp [Oper.looksAt, Op.operands, Call.operands, KnownAt, List.lookup, consD] at hk
    simp [execOp, Act.eval, hk, go_sem]
    all_goals rfl
  apply gw_val
  · intro a' w' hk
    refine ⟨wanted_none rfl, ?_⟩
    simp [Oper.looksAt, Op.operands, Call.operands, KnownAt, List.lookup, consD] at hk
    simp [execOp, Act.eval, hk, go_sem]
    all_goals rfl
  refine gw_valB (fun v _ => v = .string na) (mono_eq _) ?_ ?_
  · intro a' w' hb' hk
    refine ⟨wanted_none rfl, _, ?_, rfl⟩
    have q0 := cell_later2 (HK2.out.cell (i := 6) rfl) hb'
    simp [Oper.looksAt, Op.operands, Call.operands, KnownAt, List.lookup, consD] at hk
    simp [execOp, Act.eval, hk, q0, go_sem]
    all_goals rfl
  refine gw_val (.int .i64 na.size) ?_ ?_
  · intro a' w' hk
    refine ⟨wanted_none rfl, ?_⟩
    simp [Oper.looksAt, Op.operands, Call.operands, KnownAt, List.lookup, consD] at hk
    simp [execOp, Act.eval, hk, go_sem]
    all_goals rfl
  refine gw_lit (E := iR) [(na.size : Int), 0, 0, 0, 0] ?_ ?_
  · intro a' w' hk
    refine ⟨wanted_none rfl, (List.map iR [(na.size : Int), 0, 0, 0, 0]).toArray, 3, by simp, ?_⟩
    simp [Oper.looksAt, Op.operands, Call.operands, KnownAt, List.lookup, consD] at hk
    simp [execOp, Act.eval, hk, go_sem]
    all_goals rfl
  refine gw_callE 54 (fun args w => ∃ v0 v1 : Value, args = #[v0, v1] ∧ v0 = .slice a6 n6 c6 ∧ (SliceG iR [(na.size : Int), 0, 0, 0, 0]) v1 w) (OwnB w1.heap.size (encs 4 [33639248] ++ encs 2 [20] ++ encs 2 [20, flagI bh, me, cl, da] ++ encs 4 [su, pa, si] ++ encs 2 [(na.size : Int), 0, 0, 0, 0])) (mono_own _ _) (fun a' w' hk => ?_) (fun w' args hb hA => ?_) ?_
  · refine ⟨wanted_none rfl, #[a'.tmps.getD 15 undef, a'.tmps.getD 19 undef], ⟨_, _, rfl, hk 15 (by decide), hk 19 (by decide)⟩, ?_⟩
    simp [execOp, Act.eval, go_sem]
    all_goals rfl
  · obtain ⟨v0, v1, rfl, rfl, u1⟩ := hA
    have hb' : Below w2.heap.size w2 w' := ((Below.refl w2.heap.size w2).drew).trans hb
    obtain ⟨q, m, d, rfl, hm, hq⟩ := u1
    have hlen := HV6.out.1.len
    refine (twos_any a6 n6 c6 _ q m d [(na.size : Int), 0, 0, 0, 0] w' hlen (by rw [← hlen]; (try simp only [List.length_append]); have e0 := encs_le 4 [33639248]; have e1 := encs_le 2 [20]; have e2 := encs_le 2 [20, flagI bh, me, cl, da]; have e3 := encs_le 4 [su, pa, si]; simp only [List.length_cons, List.length_nil] at e0 e1 e2 e3; omega) (HV6.out.1.rd.below hb') hm (by rw [← hm]; simp) (by rw [← hm]; simp) hq).mono ?_
    rintro e w'' ⟨v, rfl, hv, hb2⟩
    exact ⟨v, rfl, hv.mono (Nat.le_trans HB6.out hb'.size), hb2⟩
  apply gw_val
  · intro a' w' hk
    refine ⟨wanted_none rfl, ?_⟩
    simp [Oper.looksAt, Op.operands, Call.operands, KnownAt, List.lookup, consD] at hk
    simp [execOp, Act.eval, hk, go_sem]
    all_goals rfl
  refine gw_valB (fun v _ => v = .int .i64 of) (mono_eq _) ?_ ?_
  · intro a' w' hb' hk
    refine ⟨wanted_none rfl, _, ?_, rfl⟩
    have q0 := cell_later2 (HK2.out.cell (i := 7) rfl) hb'
    simp [Oper.looksAt, Op.operands, Call.operands, KnownAt, List.lookup, consD] at hk
    simp [execOp, Act.eval, hk, q0, go_sem]
    all_goals rfl
  refine gw_lit (E := iR) [0, of] ?_ ?_
  · intro a' w' hk
    refine ⟨wanted_none rfl, (List.map iR [0, of]).toArray, 3, by simp, ?_⟩
    simp [Oper.looksAt, Op.operands, Call.operands, KnownAt, List.lookup, consD] at hk
    simp [execOp, Act.eval, hk, go_sem]
    all_goals rfl
  refine gw_callE 53 (fun args w => ∃ v0 v1 : Value, args = #[v0, v1] ∧ (OwnB w1.heap.size (encs 4 [33639248] ++ encs 2 [20] ++ encs 2 [20, flagI bh, me, cl, da] ++ encs 4 [su, pa, si] ++ encs 2 [(na.size : Int), 0, 0, 0, 0])) v0 w ∧ (SliceG iR [0, of]) v1 w) (OwnB w1.heap.size (encs 4 [33639248] ++ encs 2 [20] ++ encs 2 [20, flagI bh, me, cl, da] ++ encs 4 [su, pa, si] ++ encs 2 [(na.size : Int), 0, 0, 0, 0] ++ encs 4 [0, of])) (mono_own _ _) (fun a' w' hk => ?_) (fun w' args hb hA => ?_) ?_
  · refine ⟨wanted_none rfl, #[a'.tmps.getD 20 undef, a'.tmps.getD 23 undef], ⟨_, _, rfl, hk 20 (by decide), hk 23 (by decide)⟩, ?_⟩
    simp [execOp, Act.eval, go_sem]
    all_goals rfl
  · obtain ⟨v0, v1, rfl, u0, u1⟩ := hA
    have hb' : Below w2.heap.size w2 w' := ((Below.refl w2.heap.size w2).drew).trans hb
    obtain ⟨p, n, c, rfl, hown⟩ := u0
    obtain ⟨q, m, d, rfl, hm, hq⟩ := u1
    have hlen := hown.len
    refine (fours_any p n c _ q m d [0, of] w' hlen (by rw [← hlen]; (try simp only [List.length_append]); have e0 := encs_le 4 [33639248]; have e1 := encs_le 2 [20]; have e2 := encs_le 2 [20, flagI bh, me, cl, da]; have e3 := encs_le 4 [su, pa, si]; have e4 := encs_le 2 [(na.size : Int), 0, 0, 0, 0]; simp only [List.length_cons, List.length_nil] at e0 e1 e2 e3 e4; omega) hown.rd hm (by rw [← hm]; simp) (by rw [← hm]; simp) hq).mono ?_
    rintro e w'' ⟨v, rfl, hv, hb2⟩
    exact ⟨v, rfl, hv.mono (Nat.le_trans HB6.out hb'.size), hb2⟩
  refine gw_valB (OwnB w1.heap.size (encs 4 [33639248] ++ encs 2 [20] ++ encs 2 [20, flagI bh, me, cl, da] ++ encs 4 [su, pa, si] ++ encs 2 [(na.size : Int), 0, 0, 0, 0] ++ encs 4 [0, of])) (mono_own _ _) ?_ ?_
  · intro a' w' hb' hk
    refine ⟨wanted_none rfl, a'.tmps.getD 24 undef, ?_, hk 24 (by decide)⟩
    simp [execOp, Act.eval, go_sem]
  intro vs w3 hb3 hall
  simp only [AllS, consD] at hall
  simp only [consD, putAllS, Act.put]
  obtain ⟨h9, -⟩ := hall
  generalize vs 5 = v6 at h9 ⊢
  simp only [List.setIfInBounds_toArray, List.set_cons_succ, List.set_cons_zero]
  have hb3' : Below w2.heap.size w2 w3 := ((Below.refl w2.heap.size w2).drew).trans hb3
  have HW := Lib.hid (And.intro h9 (And.intro hb3' (HK2.out.below hb3')))
  clear h9 hb3 hb3'
  obtain ⟨a24, n24, c24, rfl, hown24⟩ := HW.out.1
  have hl24 : n24 ≤ 1000000 := by rw [← hown24.len]; ((try simp only [List.length_append]); have e0 := encs_le 4 [33639248]; have e1 := encs_le 2 [20]; have e2 := encs_le 2 [20, flagI bh, me, cl, da]; have e3 := encs_le 4 [su, pa, si]; have e4 := encs_le 2 [(na.size : Int), 0, 0, 0, 0]; have e5 := encs_le 4 [0, of]; simp only [List.length_cons, List.length_nil] at e0 e1 e2 e3 e4 e5; omega)
  have HB7 := Lib.hid (HV6.out.2.trans (HW.out.2.1.mono HV6.out.2.size))
  have HO24 := Lib.hid (hown24.mono HB16.out)
  have k6 := HW.out.2.2.cell (i := 6) rfl
  clear hown24 HW HV6 HK2
  go_wp2_with (at_builtin; refine wpList_catS rfl _ _ rfl rfl HO24.out na rfl (by omega) HB7.out.size ?_; intro p7 n7 c7 w7 hown7 hg7; have HO7 := Lib.hid (And.intro hown7 (HO24.out.step HB7.out hg7 HB7.out.size)); clear hown7 hg7)
  go_ret
  exact ⟨_, rfl, ⟨_, _, _, rfl, HO7.out.1⟩, HO7.out.2⟩
set_option maxRecDepth 100000 in
set_option maxHeartbeats 16000000 in
theorem cEnd12_any (m x y : Int) (w : World) :
  Calls Try.prog 19 #[.int .i64 m, .int .i64 x, .int .i64 y] w fun e w' => ∃ v, e = .returned v ∧ OwnB w.heap.size (endL m x y) v w' ∧ Below w.heap.size w w' := by
  go_enter Try.func19, Try.ntmps19
  go_wp2_with fail
  refine (fours_any none 0 0 [] _ 1 1 [101010256] _ rfl (by decide) Rd.nil rfl (by simp) (by simp) (rd_new _ _ _ _ _ rfl)).mono ?_
  rintro e w1 ⟨v, rfl, ⟨p1, n1, c1, rfl, hown1⟩, hb1⟩
  have HB1 := Lib.hid (below_trans0 (below_alloc w (.cells _ 3)) (by simp) hb1)
  have HO1 := Lib.hid (hown1.mono (below_alloc w (.cells _ 3)).size)
  rw [List.nil_append] at HO1
  have hlen1 := HO1.out.len
  clear hown1 hb1
  go_wp2_with fail
  refine (twos_any p1 n1 c1 _ _ 4 4 [0, 0, m, m] _ hlen1 (by rw [← hlen1]; (try simp only [List.length_append]); have e0 := encs_le 4 [101010256]; simp only [List.length_cons, List.length_nil] at e0; omega) (HO1.out.rd.below (below_alloc _ _)) rfl (by simp) (by simp) (rd_new _ _ _ _ _ rfl)).mono ?_
  rintro e w2 ⟨v, rfl, ⟨p2, n2, c2, rfl, hown2⟩, hb2⟩
  have HB2 := Lib.hid ((HB1.out.alloc HB1.out.size (.cells _ 3)).trans (hb2.mono (HB1.out.alloc HB1.out.size (.cells _ 3)).size))
  have HO2 := Lib.hid (hown2.mono (HB1.out.alloc HB1.out.size (.cells _ 3)).size)
  have hlen2 := HO2.out.len
  clear hown2 hb2
  go_wp2_with fail
  refine (fours_any p2 n2 c2 _ _ 2 2 [x, y] _ hlen2 (by rw [← hlen2]; (try simp only [List.length_append]); have e0 := encs_le 4 [101010256]; have e1 := encs_le 2 [0, 0, m, m]; simp only [List.length_cons, List.length_nil] at e0 e1; omega) (HO2.out.rd.below (below_alloc _ _)) rfl (by simp) (by simp) (rd_new _ _ _ _ _ rfl)).mono ?_
  rintro e w3 ⟨v, rfl, ⟨p3, n3, c3, rfl, hown3⟩, hb3⟩
  have HB3 := Lib.hid ((HB2.out.alloc HB2.out.size (.cells _ 3)).trans (hb3.mono (HB2.out.alloc HB2.out.size (.cells _ 3)).size))
  have HO3 := Lib.hid (hown3.mono (HB2.out.alloc HB2.out.size (.cells _ 3)).size)
  have hlen3 := HO3.out.len
  clear hown3 hb3
  go_wp2_with fail
  refine (twos_any p3 n3 c3 _ _ 1 1 [0] _ hlen3 (by rw [← hlen3]; (try simp only [List.length_append]); have e0 := encs_le 4 [101010256]; have e1 := encs_le 2 [0, 0, m, m]; have e2 := encs_le 4 [x, y]; simp only [List.length_cons, List.length_nil] at e0 e1 e2; omega) (HO3.out.rd.below (below_alloc _ _)) rfl (by simp) (by simp) (rd_new _ _ _ _ _ rfl)).mono ?_
  rintro e w4 ⟨v, rfl, ⟨p4, n4, c4, rfl, hown4⟩, hb4⟩
  have HB4 := Lib.hid ((HB3.out.alloc HB3.out.size (.cells _ 3)).trans (hb4.mono (HB3.out.alloc HB3.out.size (.cells _ 3)).size))
  have HO4 := Lib.hid (hown4.mono (HB3.out.alloc HB3.out.size (.cells _ 3)).size)
  have hlen4 := HO4.out.len
  clear hown4 hb4
  go_wp2
  go_ret
  exact ⟨_, rfl, ⟨_, _, _, rfl, HO4.out⟩, HB4.out⟩
end Go.Proofs.Ytbknkahakmfhkaa
