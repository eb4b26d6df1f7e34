/- MatchExpands. -/
import Derived.Test.YtnfdbljeinlblaaMatJ
namespace Go.Proofs.Ytnfdbljeinlblaa
open Go.RowKit
set_option linter.unusedVariables false
set_option linter.unusedSimpArgs false

set_option maxRecDepth 100000 in
set_option maxHeartbeats 16000000 in
theorem goMatchExpands (a : Option Addr) (n c : Nat) (ts : List Tok) (most : Int) (w : World) (hp : RdT w a n ts) (hi : ∀ q ∈ ts, 0 ≤ q.1 ∧ q.1 < 256) :
  Calls Try.prog 8 #[.slice a n c, .int .i64 most] w fun e w' => e = .returned (.bool true) ∧ Below w.heap.size w w' := by
  have HL := Lib.hid hp.1
  have HP := Lib.hid hp
  have HIN := Lib.hid hi
  clear hp hi
  go_enter Try.func8, Try.ntmps8
  go_wp2_with fail
  refine (fixed07_any w).mono ?_
  rintro e w0 ⟨rfl, hB0⟩
  by_cases hbig : 100 < n
  · go_wp2
    go_ret
    exact ⟨rfl, hB0⟩
  · go_wp2_with fail
    refine (mExpand_any a n c ts most w0 (by omega) (HP.out.below hB0) HIN.out).mono ?_
    unfold XPost
    rintro e w4 ⟨a4, n4, c4, rfl, hl4, hn4, hr4, hB4⟩
    have hB5 := hB0.trans (hB4.mono hB0.size)
    clear hB0 hB4
    go_wp2_with fail
    refine (rExpand_any a n c ts most w4 (by omega) (HP.out.below hB5) HIN.out).mono ?_
    unfold XPost
    rintro e w6 ⟨a6, n6, c6, rfl, hl6, hn6, hr6, hB6⟩
    have hr4' := hr4.below hB6
    have hB7 := hB5.trans (hB6.mono hB5.size)
    clear hr4 hB5 hB6
    have hnn : n6 = n4 := by omega
    subst hnn
    generalize (expR most ts).1 = er at *
    generalize (expR most ts).2 = res at *
    have HRS := Lib.hid (And.intro hr4' (And.intro hr6 (And.intro hl4 hn4)))
    clear hr4' hr6 hl4 hl6 hn4 hn6
    go_wp2
    go_loopw [30] (fun xi wr => ∃ (k : Nat), k ≤ n ∧ xi = .int .i64 k ∧ Below w6.heap.size w6 wr ∧ Below w.heap.size w wr) (fun xi _ => n - (intOf xi).toNat)
    case atStart => exact ⟨0, by omega, rfl, Below.refl _ _, hB7⟩
    case round =>
      clear hB7
      obtain ⟨k, hk, rfl, hB8, hB⟩ := hrel
      by_cases hlt : k < n
      · have hkl : k < ts.length := by rw [HL.out]; exact hlt
        obtain ⟨b, off, rfl, hc0, hc1, hc2⟩ := (HP.out.below hB).at hkl
        generalize ts[k] = q at hc0 hc1 hc2
        obtain ⟨x, y, z⟩ := q
        simp only at hc0 hc1 hc2
        have hblk := Blk.new wr TT #[.int .u8 x, .int .i64 y, .int .i64 z]
        have hB1 := hB.alloc hB.size (.cells #[.int .u8 x, .int .i64 y, .int .i64 z] TT)
        have hB9 := hB8.alloc hB8.size (.cells #[.int .u8 x, .int .i64 y, .int .i64 z] TT)
        have HC := Lib.hid (And.intro (hblk.cell (i := 0) rfl) (And.intro (hblk.cell (i := 1) rfl) (hblk.cell (i := 2) rfl)))
        have HB := Lib.hid (And.intro hB1 hB9)
        clear hblk hB1 hB9 hB hB8
        obtain ⟨r, hr⟩ : ∃ r, r = wr.heap.size := ⟨_, rfl⟩
        go_wp2_with fail
        clear hc0 hc1 hc2
        rw [← hr] at HC ⊢
        clear hr
        generalize wr.alloc (.cells #[.int .u8 x, .int .i64 y, .int .i64 z] TT) = w1 at HB HC ⊢
        refine wp_region_grow (by kernel_rfl) (by kernel_rfl) (by rfl) ?_
        refine gw_valB (fun v _ => v = .agg #[.int .u8 x, .int .i64 y, .int .i64 z]) (mono_eq _) ?_ ?_
        · intro a' w' hb' hk
          refine ⟨wanted_none rfl, _, ?_, rfl⟩
          have q0 := cell_later2 HC.out.1 hb'
          have q1 := cell_later2 HC.out.2.1 hb'
          have q2 := cell_later2 HC.out.2.2 hb'
          simp [Oper.looksAt, Op.operands, Call.operands, KnownAt, List.lookup, consD] at hk
          simp [execOp, Act.eval, hk, q0, q1, q2, go_sem]
          all_goals rfl
        refine gw_call _ #[.agg #[.int .u8 x, .int .i64 y, .int .i64 z]] (fun v _ => v = .bool (rightT (x, y, z))) (mono_eq _) (fun a' w' hk => ?_) (fun w' hb => (mRight_any x y z w').mono ?_) ?_
        · refine ⟨wanted_none rfl, ?_⟩
          simp [Oper.looksAt, Op.operands, Call.operands, KnownAt, List.lookup, consD] at hk
          simp [execOp, Act.eval, hk, go_sem]
          all_goals rfl
        · rintro e w'' ⟨rfl, hB⟩
          exact ⟨_, rfl, rfl, hB⟩
        refine gw_valB (fun v _ => v = .agg #[.int .u8 x, .int .i64 y, .int .i64 z]) (mono_eq _) ?_ ?_
        · intro a' w' hb' hk
          refine ⟨wanted_none rfl, _, ?_, rfl⟩
          have q0 := cell_later2 HC.out.1 hb'
          have q1 := cell_later2 HC.out.2.1 hb'
          have q2 := cell_later2 HC.out.2.2 hb'
          simp [Oper.looksAt, Op.operands, Call.operands, KnownAt, List.lookup, consD] at hk
          simp [execOp, Act.eval, hk, q0, q1, q2, go_sem]
          all_goals rfl
        refine gw_call _ #[.agg #[.int .u8 x, .int .i64 y, .int .i64 z]] (fun v _ => v = .bool (rightT (x, y, z))) (mono_eq _) (fun a' w' hk => ?_) (fun w' hb => (rRight_any x y z w').mono ?_) ?_
        · refine ⟨wanted_none rfl, ?_⟩
          simp [Oper.looksAt, Op.operands, Call.operands, KnownAt, List.lookup, consD] at hk
          simp [execOp, Act.eval, hk, go_sem]
          all_goals rfl
        · rintro e w'' ⟨rfl, hB⟩
          exact ⟨_, rfl, rfl, hB⟩
        refine gw_val ((.bool false)) ?_ ?_
        · intro a' w' hk
          refine ⟨wanted_none rfl, ?_⟩
          simp [Oper.looksAt, Op.operands, Call.operands, KnownAt, List.lookup, consD] at hk
          simp [execOp, Act.eval, hk, go_sem]
          all_goals rfl
        intro vs w3 hb3 hall
        simp only [AllS, consD] at hall
        simp only [consD, putAllS, Act.put]
        obtain ⟨h9, -⟩ := hall
        rw [h9]
        simp only [List.setIfInBounds_toArray, List.set_cons_succ, List.set_cons_zero]
        have hb3' : Below w1.heap.size w1 w3 := ((Below.refl w1.heap.size w1).drew).trans hb3
        go_wp2
        go_roundw
        case rel => exact ⟨k + 1, by omega, by go_num, HB.out.2.trans (hb3'.mono HB.out.2.size), HB.out.1.trans (hb3'.mono HB.out.1.size)⟩
        case measure => simp [intOf]; omega
      · have hkn : k = n := by omega
        obtain ⟨h1, h2, h3, h4⟩ := HRS.out
        have hcv1 := conv_str (P := Try.prog) Try.underlying32 Try.underlying5 Try.underlying9 c4 h3 (h1.below hB8)
        have hcv2 := conv_str (P := Try.prog) Try.underlying32 Try.underlying5 Try.underlying9 c6 h3 (h2.below hB8)
        clear h1 h2 h3 h4 hB8
        subst hkn
        go_wp2
        go_ret
        exact ⟨rfl, hB⟩
theorem toks_of {n : Nat} {F : Nat → Nat → Value} (hf : ∀ i, i < n → ∃ (x0 x1 x2 : Int), F i 0 = .int .u8 x0 ∧ F i 1 = .int .i64 x1 ∧ F i 2 = .int .i64 x2 ∧ (0 ≤ x0 ∧ x0 < 256) ∧ (-9223372036854775808 ≤ x1 ∧ x1 ≤ 9223372036854775807) ∧ (-9223372036854775808 ≤ x2 ∧ x2 ≤ 9223372036854775807)) :
    ∃ ts : List Tok, ts.length = n ∧ (∀ i (h : i < ts.length), F i 0 = .int .u8 ts[i].1 ∧ F i 1 = .int .i64 ts[i].2.1 ∧ F i 2 = .int .i64 ts[i].2.2) ∧ ∀ q ∈ ts, 0 ≤ q.1 ∧ q.1 < 256 := by
  refine ⟨(List.range n).map fun i => (intOf (F i 0), intOf (F i 1), intOf (F i 2)), by simp, fun i h => ?_, fun p hp => ?_⟩
  · obtain ⟨x0, x1, x2, h0, h1, h2, -⟩ := hf i (by simpa using h)
    rw [List.getElem_map, List.getElem_range, h0, h1, h2]; exact ⟨rfl, rfl, rfl⟩
  · obtain ⟨i, hi, rfl⟩ := List.mem_map.1 hp
    obtain ⟨x0, x1, x2, h0, h1, h2, h3, -⟩ := hf i (by simpa using hi)
    rw [h0]; exact h3
theorem walkMatchExpands (a : Option Addr) (n c : Nat) (F : Nat → Nat → Value) (most : Int) (w : World) (hm : n ≤ c ∧ c ≤ maxLen) (hr : RdN w a n 3 F) (hf : ∀ i, i < n → ∃ (x0 x1 x2 : Int), F i 0 = .int .u8 x0 ∧ F i 1 = .int .i64 x1 ∧ F i 2 = .int .i64 x2 ∧ (0 ≤ x0 ∧ x0 < 256) ∧ (-9223372036854775808 ≤ x1 ∧ x1 ≤ 9223372036854775807) ∧ (-9223372036854775808 ≤ x2 ∧ x2 ≤ 9223372036854775807)) (h1 : -9223372036854775808 ≤ most ∧ most ≤ 9223372036854775807) :
  Calls Try.prog 8 #[.slice a n c, .int .i64 most] w fun e w' => e = .returned (.bool true) ∧ Below w.heap.size w w' := by
  obtain ⟨ts, h1, h2, h3⟩ := toks_of hf
  exact goMatchExpands a n c ts most w ⟨h1, F, hr, h2⟩ h3
end Go.Proofs.Ytnfdbljeinlblaa
