/- RecordWrites. -/
import Derived.Test.YtbknkahakmfhkaaRecO
import Derived.Test.YtbknkahakmfhkaaRecG
import Derived.Test.YtbknkahakmfhkaaGrow2
namespace Go.Proofs.Ytbknkahakmfhkaa
open Go.RowKit
set_option linter.unusedVariables false
set_option linter.unusedSimpArgs false

set_option maxRecDepth 100000 in
set_option maxHeartbeats 32000000 in
theorem goRecordWrites (r : Rec) (bh : Bool) (m x y : Int) (w : World) (hok : r.Ok) :
  Calls Try.prog 3 #[.agg r.arr, .bool bh, .int .i64 m, .int .i64 x, .int .i64 y] w fun e w' => e = .returned (.bool true) ∧ Below w.heap.size w w' := by
  have HOK := Lib.hid hok
  obtain ⟨me, da, cl, su, pa, si, na, of⟩ := r
  simp only [Rec.arr]
  clear hok
  have hb1 := below_alloc w (.cells #[.int .i64 me, .int .u16 da, .int .u16 cl, .int .u32 su, .int .i64 pa, .int .i64 si, .string na, .int .i64 of] TR)
  have hk := Blk.new w TR #[.int .i64 me, .int .u16 da, .int .u16 cl, .int .u32 su, .int .i64 pa, .int .i64 si, .string na, .int .i64 of]
  have HB1 := Lib.hid hb1
  have HK1 := Lib.hid hk
  clear hb1 hk
  go_enter Try.func3, Try.ntmps3
  go_wp2_with fail
  obtain ⟨o, ho⟩ : ∃ o, o = w.heap.size := ⟨_, rfl⟩
  rw [← ho] at HK1 ⊢
  clear ho
  generalize w.alloc (.cells #[.int .i64 me, .int .u16 da, .int .u16 cl, .int .u32 su, .int .i64 pa, .int .i64 si, .string na, .int .i64 of] TR) = w0 at HB1 HK1 ⊢
  refine (fixed12_any w0).mono ?_
  rintro e w1 ⟨rfl, hB0⟩
  have HB2 := Lib.hid (HB1.out.trans (hB0.mono HB1.out.size))
  have HK := Lib.hid (HK1.out.below hB0)
  have q6 := HK.out.cell (i := 6) rfl
  clear hB0 HB1 HK1
  by_cases hbig : 300 < na.size
  · go_wp2
    go_ret
    exact ⟨rfl, HB2.out⟩
  · have HNA : Hid (na.size ≤ 1000) := Lib.hid (by omega)
    go_wp2_with fail
    clear q6
    refine wp_region_grow (by kernel_rfl) (by kernel_rfl) (by rfl) ?_
    refine gw_valB (fun v _ => v = .agg #[.int .i64 me, .int .u16 da, .int .u16 cl, .int .u32 su, .int .i64 pa, .int .i64 si, .string na, .int .i64 of]) (mono_eq _) ?_ ?_
    · intro a' w' hb' hk
      refine ⟨wanted_none rfl, _, ?_, rfl⟩
      have q0 := cell_later2 (HK.out.cell (i := 0) rfl) hb'
      have q1 := cell_later2 (HK.out.cell (i := 1) rfl) hb'
      have q2 := cell_later2 (HK.out.cell (i := 2) rfl) hb'
      have q3 := cell_later2 (HK.out.cell (i := 3) rfl) hb'
      have q4 := cell_later2 (HK.out.cell (i := 4) rfl) hb'
      have q5 := cell_later2 (HK.out.cell (i := 5) rfl) hb'
      have q6 := cell_later2 (HK.out.cell (i := 6) rfl) hb'
      have q7 := cell_later2 (HK.out.cell (i := 7) rfl) hb'
      simp [Oper.looksAt, Op.operands, Call.operands, KnownAt, List.lookup, consD] at hk
      simp [execOp, Act.eval, hk, q0, q1, q2, q3, q4, q5, q6, q7, go_sem]
      all_goals rfl
    apply gw_val
    · intro a' w' hk
      refine ⟨wanted_none rfl, ?_⟩
      simp [Oper.looksAt, Op.operands, Call.operands, KnownAt, List.lookup, consD] at hk
      simp [execOp, Act.eval, hk, go_sem]
      all_goals rfl
    refine gw_call _ #[.agg #[.int .i64 me, .int .u16 da, .int .u16 cl, .int .u32 su, .int .i64 pa, .int .i64 si, .string na, .int .i64 of], .bool bh] (BytesG (localL ⟨me, da, cl, su, pa, si, na, of⟩ bh)) (mono_bytes _) (fun a' w' hk => ?_) (fun w' hb => (cLocal_any ⟨me, da, cl, su, pa, si, na, of⟩ bh w' HOK.out HNA.out).mono ?_) ?_
    · refine ⟨wanted_none rfl, ?_⟩
      simp [Oper.looksAt, Op.operands, Call.operands, KnownAt, List.lookup, consD] at hk
      simp [execOp, Act.eval, hk, go_sem]
      all_goals rfl
    · rintro e w'' ⟨v, rfl, ⟨a, n, c, rfl, ho⟩, hB⟩
      exact ⟨_, rfl, ⟨a, n, c, rfl, ho.len, ho.rd⟩, hB⟩
    refine gw_str Try.underlying29 Try.underlying5 Try.underlying9 19 (localL ⟨me, da, cl, su, pa, si, na, of⟩ bh) rfl (fun a' w' hb hk => ?_) ?_
    · exact ⟨wanted_none rfl, by simpa [KnownAt, List.lookup, consD] using hk 19 (by decide)⟩
    refine gw_valB (fun v _ => v = .agg #[.int .i64 me, .int .u16 da, .int .u16 cl, .int .u32 su, .int .i64 pa, .int .i64 si, .string na, .int .i64 of]) (mono_eq _) ?_ ?_
    · intro a' w' hb' hk
      refine ⟨wanted_none rfl, _, ?_, rfl⟩
      have q0 := cell_later2 (HK.out.cell (i := 0) rfl) hb'
      have q1 := cell_later2 (HK.out.cell (i := 1) rfl) hb'
      have q2 := cell_later2 (HK.out.cell (i := 2) rfl) hb'
      have q3 := cell_later2 (HK.out.cell (i := 3) rfl) hb'
      have q4 := cell_later2 (HK.out.cell (i := 4) rfl) hb'
      have q5 := cell_later2 (HK.out.cell (i := 5) rfl) hb'
      have q6 := cell_later2 (HK.out.cell (i := 6) rfl) hb'
      have q7 := cell_later2 (HK.out.cell (i := 7) rfl) hb'
      simp [Oper.looksAt, Op.operands, Call.operands, KnownAt, List.lookup, consD] at hk
      simp [execOp, Act.eval, hk, q0, q1, q2, q3, q4, q5, q6, q7, go_sem]
      all_goals rfl
    apply gw_val
    · intro a' w' hk
      refine ⟨wanted_none rfl, ?_⟩
      simp [Oper.looksAt, Op.operands, Call.operands, KnownAt, List.lookup, consD] at hk
      simp [execOp, Act.eval, hk, go_sem]
      all_goals rfl
    refine gw_call _ #[.agg #[.int .i64 me, .int .u16 da, .int .u16 cl, .int .u32 su, .int .i64 pa, .int .i64 si, .string na, .int .i64 of], .bool bh] (BytesG (localL ⟨me, da, cl, su, pa, si, na, of⟩ bh)) (mono_bytes _) (fun a' w' hk => ?_) (fun w' hb => (rLocal_any ⟨me, da, cl, su, pa, si, na, of⟩ bh w' HOK.out HNA.out).mono ?_) ?_
    · refine ⟨wanted_none rfl, ?_⟩
      simp [Oper.looksAt, Op.operands, Call.operands, KnownAt, List.lookup, consD] at hk
      simp [execOp, Act.eval, hk, go_sem]
      all_goals rfl
    · rintro e w'' ⟨v, rfl, ⟨a, n, c, rfl, ho⟩, hB⟩
      exact ⟨_, rfl, ⟨a, n, c, rfl, ho.len, ho.rd⟩, hB⟩
    refine gw_str Try.underlying29 Try.underlying5 Try.underlying9 23 (localL ⟨me, da, cl, su, pa, si, na, of⟩ bh) rfl (fun a' w' hb hk => ?_) ?_
    · exact ⟨wanted_none rfl, by simpa [KnownAt, List.lookup, consD] using hk 23 (by decide)⟩
    refine gw_val (.bool true) ?_ ?_
    · intro a' w' hk
      refine ⟨wanted_none rfl, ?_⟩
      simp [Oper.looksAt, Op.operands, Call.operands, KnownAt, List.lookup, consD] at hk
      simp [execOp, Act.eval, hk, go_sem]
      all_goals rfl
    refine gw_val (.bool true) ?_ ?_
    · intro a' w' hk
      refine ⟨wanted_none rfl, ?_⟩
      simp [Oper.looksAt, Op.operands, Call.operands, KnownAt, List.lookup, consD] at hk
      simp [execOp, Act.eval, hk, go_sem]
      all_goals rfl
    refine gw_valB (fun v _ => v = .agg #[.int .i64 me, .int .u16 da, .int .u16 cl, .int .u32 su, .int .i64 pa, .int .i64 si, .string na, .int .i64 of]) (mono_eq _) ?_ ?_
    · intro a' w' hb' hk
      refine ⟨wanted_guard (t := 26) rfl rfl (by simpa [KnownAt, List.lookup, consD] using hk 26 (by decide)), _, ?_, rfl⟩
      have q0 := cell_later2 (HK.out.cell (i := 0) rfl) hb'
      have q1 := cell_later2 (HK.out.cell (i := 1) rfl) hb'
      have q2 := cell_later2 (HK.out.cell (i := 2) rfl) hb'
      have q3 := cell_later2 (HK.out.cell (i := 3) rfl) hb'
      have q4 := cell_later2 (HK.out.cell (i := 4) rfl) hb'
      have q5 := cell_later2 (HK.out.cell (i := 5) rfl) hb'
      have q6 := cell_later2 (HK.out.cell (i := 6) rfl) hb'
      have q7 := cell_later2 (HK.out.cell (i := 7) rfl) hb'
      simp [Oper.looksAt, Op.operands, Call.operands, KnownAt, List.lookup, consD] at hk
      simp [execOp, Act.eval, hk, q0, q1, q2, q3, q4, q5, q6, q7, go_sem]
      all_goals rfl
    refine gw_call _ #[.agg #[.int .i64 me, .int .u16 da, .int .u16 cl, .int .u32 su, .int .i64 pa, .int .i64 si, .string na, .int .i64 of]] (BytesG (behindL ⟨me, da, cl, su, pa, si, na, of⟩)) (mono_bytes _) (fun a' w' hk => ?_) (fun w' hb => (cBehind_any ⟨me, da, cl, su, pa, si, na, of⟩ w' HOK.out).mono ?_) ?_
    · refine ⟨wanted_guard (t := 26) rfl rfl (by simpa [KnownAt, List.lookup, consD] using hk 26 (by decide)), ?_⟩
      simp [Oper.looksAt, Op.operands, Call.operands, KnownAt, List.lookup, consD] at hk
      simp [execOp, Act.eval, hk, go_sem]
      all_goals rfl
    · rintro e w'' ⟨v, rfl, ⟨a, n, c, rfl, ho⟩, hB⟩
      exact ⟨_, rfl, ⟨a, n, c, rfl, ho.len, ho.rd⟩, hB⟩
    refine gw_str Try.underlying29 Try.underlying5 Try.underlying9 28 (behindL ⟨me, da, cl, su, pa, si, na, of⟩) rfl (fun a' w' hb hk => ?_) ?_
    · exact ⟨wanted_guard (t := 26) rfl rfl (by simpa [KnownAt, List.lookup, consD] using hk 26 (by decide)), by simpa [KnownAt, List.lookup, consD] using hk 28 (by decide)⟩
    refine gw_valB (fun v _ => v = .agg #[.int .i64 me, .int .u16 da, .int .u16 cl, .int .u32 su, .int .i64 pa, .int .i64 si, .string na, .int .i64 of]) (mono_eq _) ?_ ?_
    · intro a' w' hb' hk
      refine ⟨wanted_guard (t := 26) rfl rfl (by simpa [KnownAt, List.lookup, consD] using hk 26 (by decide)), _, ?_, rfl⟩
      have q0 := cell_later2 (HK.out.cell (i := 0) rfl) hb'
      have q1 := cell_later2 (HK.out.cell (i := 1) rfl) hb'
      have q2 := cell_later2 (HK.out.cell (i := 2) rfl) hb'
      have q3 := cell_later2 (HK.out.cell (i := 3) rfl) hb'
      have q4 := cell_later2 (HK.out.cell (i := 4) rfl) hb'
      have q5 := cell_later2 (HK.out.cell (i := 5) rfl) hb'
      have q6 := cell_later2 (HK.out.cell (i := 6) rfl) hb'
      have q7 := cell_later2 (HK.out.cell (i := 7) rfl) hb'
      simp [Oper.looksAt, Op.operands, Call.operands, KnownAt, List.lookup, consD] at hk
      simp [execOp, Act.eval, hk, q0, q1, q2, q3, q4, q5, q6, q7, go_sem]
      all_goals rfl
    refine gw_call _ #[.agg #[.int .i64 me, .int .u16 da, .int .u16 cl, .int .u32 su, .int .i64 pa, .int .i64 si, .string na, .int .i64 of]] (BytesG (behindL ⟨me, da, cl, su, pa, si, na, of⟩)) (mono_bytes _) (fun a' w' hk => ?_) (fun w' hb => (rBehind_any ⟨me, da, cl, su, pa, si, na, of⟩ w' HOK.out).mono ?_) ?_
    · refine ⟨wanted_guard (t := 26) rfl rfl (by simpa [KnownAt, List.lookup, consD] using hk 26 (by decide)), ?_⟩
      simp [Oper.looksAt, Op.operands, Call.operands, KnownAt, List.lookup, consD] at hk
      simp [execOp, Act.eval, hk, go_sem]
      all_goals rfl
    · rintro e w'' ⟨v, rfl, ⟨a, n, c, rfl, ho⟩, hB⟩
      exact ⟨_, rfl, ⟨a, n, c, rfl, ho.len, ho.rd⟩, hB⟩
    refine gw_str Try.underlying29 Try.underlying5 Try.underlying9 31 (behindL ⟨me, da, cl, su, pa, si, na, of⟩) rfl (fun a' w' hb hk => ?_) ?_
    · exact ⟨wanted_guard (t := 26) rfl rfl (by simpa [KnownAt, List.lookup, consD] using hk 26 (by decide)), by simpa [KnownAt, List.lookup, consD] using hk 31 (by decide)⟩
    refine gw_val (.bool true) ?_ ?_
    · intro a' w' hk
      refine ⟨wanted_guard (t := 26) rfl rfl (by simpa [KnownAt, List.lookup, consD] using hk 26 (by decide)), ?_⟩
      simp [Oper.looksAt, Op.operands, Call.operands, KnownAt, List.lookup, consD] at hk
      simp [execOp, Act.eval, hk, go_sem]
      all_goals rfl
    refine gw_val (.bool true) ?_ ?_
    · intro a' w' hk
      refine ⟨wanted_none rfl, ?_⟩
      simp [Oper.looksAt, Op.operands, Call.operands, KnownAt, List.lookup, consD] at hk
      simp [execOp, Act.eval, hk, go_sem]
      all_goals rfl
    refine gw_val (.bool true) ?_ ?_
    · intro a' w' hk
      refine ⟨wanted_none rfl, ?_⟩
      simp [Oper.looksAt, Op.operands, Call.operands, KnownAt, List.lookup, consD] at hk
      simp [execOp, Act.eval, hk, go_sem]
      all_goals rfl
    refine gw_valB (fun v _ => v = .agg #[.int .i64 me, .int .u16 da, .int .u16 cl, .int .u32 su, .int .i64 pa, .int .i64 si, .string na, .int .i64 of]) (mono_eq _) ?_ ?_
    · intro a' w' hb' hk
      refine ⟨wanted_guard (t := 35) rfl rfl (by simpa [KnownAt, List.lookup, consD] using hk 35 (by decide)), _, ?_, rfl⟩
      have q0 := cell_later2 (HK.out.cell (i := 0) rfl) hb'
      have q1 := cell_later2 (HK.out.cell (i := 1) rfl) hb'
      have q2 := cell_later2 (HK.out.cell (i := 2) rfl) hb'
      have q3 := cell_later2 (HK.out.cell (i := 3) rfl) hb'
      have q4 := cell_later2 (HK.out.cell (i := 4) rfl) hb'
      have q5 := cell_later2 (HK.out.cell (i := 5) rfl) hb'
      have q6 := cell_later2 (HK.out.cell (i := 6) rfl) hb'
      have q7 := cell_later2 (HK.out.cell (i := 7) rfl) hb'
      simp [Oper.looksAt, Op.operands, Call.operands, KnownAt, List.lookup, consD] at hk
      simp [execOp, Act.eval, hk, q0, q1, q2, q3, q4, q5, q6, q7, go_sem]
      all_goals rfl
    apply gw_val
    · intro a' w' hk
      refine ⟨wanted_guard (t := 35) rfl rfl (by simpa [KnownAt, List.lookup, consD] using hk 35 (by decide)), ?_⟩
      simp [Oper.looksAt, Op.operands, Call.operands, KnownAt, List.lookup, consD] at hk
      simp [execOp, Act.eval, hk, go_sem]
      all_goals rfl
    refine gw_call _ #[.agg #[.int .i64 me, .int .u16 da, .int .u16 cl, .int .u32 su, .int .i64 pa, .int .i64 si, .string na, .int .i64 of], .bool bh] (BytesG (centralL ⟨me, da, cl, su, pa, si, na, of⟩ bh)) (mono_bytes _) (fun a' w' hk => ?_) (fun w' hb => (cCentral_any ⟨me, da, cl, su, pa, si, na, of⟩ bh w' HOK.out HNA.out).mono ?_) ?_
    · refine ⟨wanted_guard (t := 35) rfl rfl (by simpa [KnownAt, List.lookup, consD] using hk 35 (by decide)), ?_⟩
      simp [Oper.looksAt, Op.operands, Call.operands, KnownAt, List.lookup, consD] at hk
      simp [execOp, Act.eval, hk, go_sem]
      all_goals rfl
    · rintro e w'' ⟨v, rfl, ⟨a, n, c, rfl, ho⟩, hB⟩
      exact ⟨_, rfl, ⟨a, n, c, rfl, ho.len, ho.rd⟩, hB⟩
    refine gw_str Try.underlying29 Try.underlying5 Try.underlying9 38 (centralL ⟨me, da, cl, su, pa, si, na, of⟩ bh) rfl (fun a' w' hb hk => ?_) ?_
    · exact ⟨wanted_guard (t := 35) rfl rfl (by simpa [KnownAt, List.lookup, consD] using hk 35 (by decide)), by simpa [KnownAt, List.lookup, consD] using hk 38 (by decide)⟩
    refine gw_valB (fun v _ => v = .agg #[.int .i64 me, .int .u16 da, .int .u16 cl, .int .u32 su, .int .i64 pa, .int .i64 si, .string na, .int .i64 of]) (mono_eq _) ?_ ?_
    · intro a' w' hb' hk
      refine ⟨wanted_guard (t := 35) rfl rfl (by simpa [KnownAt, List.lookup, consD] using hk 35 (by decide)), _, ?_, rfl⟩
      have q0 := cell_later2 (HK.out.cell (i := 0) rfl) hb'
      have q1 := cell_later2 (HK.out.cell (i := 1) rfl) hb'
      have q2 := cell_later2 (HK.out.cell (i := 2) rfl) hb'
      have q3 := cell_later2 (HK.out.cell (i := 3) rfl) hb'
      have q4 := cell_later2 (HK.out.cell (i := 4) rfl) hb'
      have q5 := cell_later2 (HK.out.cell (i := 5) rfl) hb'
      have q6 := cell_later2 (HK.out.cell (i := 6) rfl) hb'
      have q7 := cell_later2 (HK.out.cell (i := 7) rfl) hb'
      simp [Oper.looksAt, Op.operands, Call.operands, KnownAt, List.lookup, consD] at hk
      simp [execOp, Act.eval, hk, q0, q1, q2, q3, q4, q5, q6, q7, go_sem]
      all_goals rfl
    apply gw_val
    · intro a' w' hk
      refine ⟨wanted_guard (t := 35) rfl rfl (by simpa [KnownAt, List.lookup, consD] using hk 35 (by decide)), ?_⟩
      simp [Oper.looksAt, Op.operands, Call.operands, KnownAt, List.lookup, consD] at hk
      simp [execOp, Act.eval, hk, go_sem]
      all_goals rfl
    refine gw_call _ #[.agg #[.int .i64 me, .int .u16 da, .int .u16 cl, .int .u32 su, .int .i64 pa, .int .i64 si, .string na, .int .i64 of], .bool bh] (BytesG (centralL ⟨me, da, cl, su, pa, si, na, of⟩ bh)) (mono_bytes _) (fun a' w' hk => ?_) (fun w' hb => (rCentral_any ⟨me, da, cl, su, pa, si, na, of⟩ bh w' HOK.out HNA.out).mono ?_) ?_
    · refine ⟨wanted_guard (t := 35) rfl rfl (by simpa [KnownAt, List.lookup, consD] using hk 35 (by decide)), ?_⟩
      simp [Oper.looksAt, Op.operands, Call.operands, KnownAt, List.lookup, consD] at hk
      simp [execOp, Act.eval, hk, go_sem]
      all_goals rfl
    · rintro e w'' ⟨v, rfl, ⟨a, n, c, rfl, ho⟩, hB⟩
      exact ⟨_, rfl, ⟨a, n, c, rfl, ho.len, ho.rd⟩, hB⟩
    refine gw_str Try.underlying29 Try.underlying5 Try.underlying9 42 (centralL ⟨me, da, cl, su, pa, si, na, of⟩ bh) rfl (fun a' w' hb hk => ?_) ?_
    · exact ⟨wanted_guard (t := 35) rfl rfl (by simpa [KnownAt, List.lookup, consD] using hk 35 (by decide)), by simpa [KnownAt, List.lookup, consD] using hk 42 (by decide)⟩
    refine gw_val (.bool true) ?_ ?_
    · intro a' w' hk
      refine ⟨wanted_guard (t := 35) rfl rfl (by simpa [KnownAt, List.lookup, consD] using hk 35 (by decide)), ?_⟩
      simp [Oper.looksAt, Op.operands, Call.operands, KnownAt, List.lookup, consD] at hk
      simp [execOp, Act.eval, hk, go_sem]
      all_goals rfl
    refine gw_val (.bool true) ?_ ?_
    · intro a' w' hk
      refine ⟨wanted_none rfl, ?_⟩
      simp [Oper.looksAt, Op.operands, Call.operands, KnownAt, List.lookup, consD] at hk
      simp [execOp, Act.eval, hk, go_sem]
      all_goals rfl
    refine gw_val (.bool true) ?_ ?_
    · intro a' w' hk
      refine ⟨wanted_none rfl, ?_⟩
      simp [Oper.looksAt, Op.operands, Call.operands, KnownAt, List.lookup, consD] at hk
      simp [execOp, Act.eval, hk, go_sem]
      all_goals rfl
    apply gw_val
    · intro a' w' hk
      refine ⟨wanted_guard (t := 46) rfl rfl (by simpa [KnownAt, List.lookup, consD] using hk 46 (by decide)), ?_⟩
      simp [Oper.looksAt, Op.operands, Call.operands, KnownAt, List.lookup, consD] at hk
      simp [execOp, Act.eval, hk, go_sem]
      all_goals rfl
    apply gw_val
    · intro a' w' hk
      refine ⟨wanted_guard (t := 46) rfl rfl (by simpa [KnownAt, List.lookup, consD] using hk 46 (by decide)), ?_⟩
      simp [Oper.looksAt, Op.operands, Call.operands, KnownAt, List.lookup, consD] at hk
      simp [execOp, Act.eval, hk, go_sem]
      all_goals rfl
    apply gw_val
    · intro a' w' hk
      refine ⟨wanted_guard (t := 46) rfl rfl (by simpa [KnownAt, List.lookup, consD] using hk 46 (by decide)), ?_⟩
      simp [Oper.looksAt, Op.operands, Call.operands, KnownAt, List.lookup, consD] at hk
      simp [execOp, Act.eval, hk, go_sem]
      all_goals rfl
    refine gw_call _ #[.int .i64 m, .int .i64 x, .int .i64 y] (BytesG (endL m x y)) (mono_bytes _) (fun a' w' hk => ?_) (fun w' hb => (cEnd12_any m x y w').mono ?_) ?_
    · refine ⟨wanted_guard (t := 46) rfl rfl (by simpa [KnownAt, List.lookup, consD] using hk 46 (by decide)), ?_⟩
      simp [Oper.looksAt, Op.operands, Call.operands, KnownAt, List.lookup, consD] at hk
      simp [execOp, Act.eval, hk, go_sem]
      all_goals rfl
    · rintro e w'' ⟨v, rfl, ⟨a, n, c, rfl, ho⟩, hB⟩
      exact ⟨_, rfl, ⟨a, n, c, rfl, ho.len, ho.rd⟩, hB⟩
    refine gw_str Try.underlying29 Try.underlying5 Try.underlying9 50 (endL m x y) rfl (fun a' w' hb hk => ?_) ?_
    · exact ⟨wanted_guard (t := 46) rfl rfl (by simpa [KnownAt, List.lookup, consD] using hk 46 (by decide)), by simpa [KnownAt, List.lookup, consD] using hk 50 (by decide)⟩
    apply gw_val
    · intro a' w' hk
      refine ⟨wanted_guard (t := 46) rfl rfl (by simpa [KnownAt, List.lookup, consD] using hk 46 (by decide)), ?_⟩
      simp [Oper.looksAt, Op.operands, Call.operands, KnownAt, List.lookup, consD] at hk
      simp [execOp, Act.eval, hk, go_sem]
      all_goals rfl
    apply gw_val
    · intro a' w' hk
      refine ⟨wanted_guard (t := 46) rfl rfl (by simpa [KnownAt, List.lookup, consD] using hk 46 (by decide)), ?_⟩
      simp [Oper.looksAt, Op.operands, Call.operands, KnownAt, List.lookup, consD] at hk
      simp [execOp, Act.eval, hk, go_sem]
      all_goals rfl
    apply gw_val
    · intro a' w' hk
      refine ⟨wanted_guard (t := 46) rfl rfl (by simpa [KnownAt, List.lookup, consD] using hk 46 (by decide)), ?_⟩
      simp [Oper.looksAt, Op.operands, Call.operands, KnownAt, List.lookup, consD] at hk
      simp [execOp, Act.eval, hk, go_sem]
      all_goals rfl
    refine gw_call _ #[.int .i64 m, .int .i64 x, .int .i64 y] (BytesG (endL m x y)) (mono_bytes _) (fun a' w' hk => ?_) (fun w' hb => (rEnd12_any m x y w').mono ?_) ?_
    · refine ⟨wanted_guard (t := 46) rfl rfl (by simpa [KnownAt, List.lookup, consD] using hk 46 (by decide)), ?_⟩
      simp [Oper.looksAt, Op.operands, Call.operands, KnownAt, List.lookup, consD] at hk
      simp [execOp, Act.eval, hk, go_sem]
      all_goals rfl
    · rintro e w'' ⟨v, rfl, ⟨a, n, c, rfl, ho⟩, hB⟩
      exact ⟨_, rfl, ⟨a, n, c, rfl, ho.len, ho.rd⟩, hB⟩
    refine gw_str Try.underlying29 Try.underlying5 Try.underlying9 55 (endL m x y) rfl (fun a' w' hb hk => ?_) ?_
    · exact ⟨wanted_guard (t := 46) rfl rfl (by simpa [KnownAt, List.lookup, consD] using hk 46 (by decide)), by simpa [KnownAt, List.lookup, consD] using hk 55 (by decide)⟩
    refine gw_val (.bool true) ?_ ?_
    · intro a' w' hk
      refine ⟨wanted_guard (t := 46) rfl rfl (by simpa [KnownAt, List.lookup, consD] using hk 46 (by decide)), ?_⟩
      simp [Oper.looksAt, Op.operands, Call.operands, KnownAt, List.lookup, consD] at hk
      simp [execOp, Act.eval, hk, go_sem]
      all_goals rfl
    refine gw_val (.bool true) ?_ ?_
    · intro a' w' hk
      refine ⟨wanted_none rfl, ?_⟩
      simp [Oper.looksAt, Op.operands, Call.operands, KnownAt, List.lookup, consD] at hk
      simp [execOp, Act.eval, hk, go_sem]
      all_goals rfl
    refine gw_val (.bool true) ?_ ?_
    · intro a' w' hk
      refine ⟨wanted_none rfl, ?_⟩
      simp [Oper.looksAt, Op.operands, Call.operands, KnownAt, List.lookup, consD] at hk
      simp [execOp, Act.eval, hk, go_sem]
      all_goals rfl
    intro vs w3 hb3 hall
    simp only [AllS, consD] at hall
    simp only [consD, putAllS, Act.put]
    obtain ⟨h9, -⟩ := hall
    rw [h9]
    simp only [List.setIfInBounds_toArray, List.set_cons_succ, List.set_cons_zero]
    have hb3' : Below w1.heap.size w1 w3 := ((Below.refl w1.heap.size w1).drew).trans hb3
    have HF := Lib.hid (HB2.out.trans (hb3'.mono HB2.out.size))
    clear hb3 hb3'
    go_wp2
    go_ret
    exact ⟨rfl, HF.out⟩
theorem walkRecordWrites (r : Rec) (bh : Bool) (m x y : Int) (w : World) (hok : r.Ok) (h2 : -9223372036854775808 ≤ m ∧ m ≤ 9223372036854775807) (h3 : -9223372036854775808 ≤ x ∧ x ≤ 9223372036854775807) (h4 : -9223372036854775808 ≤ y ∧ y ≤ 9223372036854775807) :
  Calls Try.prog 3 #[.agg r.arr, .bool bh, .int .i64 m, .int .i64 x, .int .i64 y] w fun e w' => e = .returned (.bool true) ∧ Below w.heap.size w w' := goRecordWrites r bh m x y w hok
end Go.Proofs.Ytbknkahakmfhkaa
