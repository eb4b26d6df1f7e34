/- inflate.Inflate. -/
import Derived.Test.YtgcdeadfkljeaaaInfK
namespace Go.Proofs.Ytgcdeadfkljeaaa
open Go.RowKit
set_option linter.unusedVariables false
set_option linter.unusedSimpArgs false

theorem below_drewX {w w' : World} (h : Below w.drew.heap.size w.drew w') : Below w.heap.size w w' := ((Below.refl w.heap.size w).drew).trans h
noncomputable def blocksK (L : List UInt8) (most : Int) : Nat → IS → IS
  | 0, s => s
  | k+1, s => if (blockK L most s).1 then (blockK L most s).2 else blocksK L most k (blockK L most s).2
/-- What deflated bytes stand for, how many were read, the error. -/
noncomputable def inflK (L : List UInt8) (most : Int) : List UInt8 × Nat × Int :=
  if most < 0 ∨ 16777216 < most then ([], 0, 1) else
  if (blocksK L most (8 * L.length + 1) ⟨0, [], 0⟩).e ≠ 0 then ([], 0, (blocksK L most (8 * L.length + 1) ⟨0, [], 0⟩).e)
  else ((blocksK L most (8 * L.length + 1) ⟨0, [], 0⟩).out, ((blocksK L most (8 * L.length + 1) ⟨0, [], 0⟩).p + 7) / 8, 0)
theorem results3 {fn : Func} {a b c : Tmp} (h : fn.results = #[.tmp a, .tmp b, .tmp c]) (tmps : Array Value) (w : World) (P : Program) : (results fn tmps).run P w = .ok (.tuple #[tmps.getD a undef, tmps.getD b undef, tmps.getD c undef]) w := by
  simp [results, h]
def InfPost (w : World) (r : List UInt8 × Nat × Int) (e : Ending) (w' : World) : Prop := ∃ p n c, e = .returned (.tuple #[.slice p n c, .int .i64 ((r.2.1 : Nat) : Int), .int .i64 r.2.2]) ∧ r.1.length = n ∧ (n ≤ c ∧ c ≤ maxLen) ∧ Rd w' bE p r.1 ∧ Below w.heap.size w w'
set_option maxRecDepth 100000 in
set_option maxHeartbeats 16000000 in
theorem infl_any (a : Option Addr) (n c : Nat) (l : List UInt8) (most : Int) (w : World) (hl : l.length = n) (hn : n ≤ 1000000) (hr : Rd w bE a l) (hmr : -9223372036854775808 ≤ most ∧ most ≤ 9223372036854775807) :
  Calls Try.prog 10 #[.slice a n c, .int .i64 most] w (InfPost w (inflK l most)) := by
  have mixed : Try.prog.follows .mixedOrders = true := by kernel_rfl
  have HN := Lib.hid (rdNew_any a n c l w hl hn hr)
  have HLN := Lib.hid hl
  clear hl hr
  by_cases h1 : most < 0
  · have HF : Hid (inflK l most = ([], 0, 1)) := Lib.hid (by unfold inflK; rw [if_pos (.inl h1)])
    go_enter Try.func10, Try.ntmps10
    go_wp2_with fail
    refine bodyPost_ret (results3 rfl _ _ _) rfl ?_
    rw [HF.out]
    exact ⟨none, 0, 0, rfl, rfl, ⟨Nat.le_refl _, Nat.zero_le _⟩, Rd.nil, Below.refl _ _⟩
  by_cases h2 : 16777216 < most
  · have HF : Hid (inflK l most = ([], 0, 1)) := Lib.hid (by unfold inflK; rw [if_pos (.inr h2)])
    go_enter Try.func10, Try.ntmps10
    go_wp2_with fail
    refine bodyPost_ret (results3 rfl _ _ _) rfl ?_
    rw [HF.out]
    exact ⟨none, 0, 0, rfl, rfl, ⟨Nat.le_refl _, Nat.zero_le _⟩, Rd.nil, Below.refl _ _⟩
  obtain ⟨tot, htot⟩ : ∃ t, t = blocksK l most (8 * l.length + 1) ⟨0, [], 0⟩ := ⟨_, rfl⟩
  have HI : Hid (inflK l most = if tot.e ≠ 0 then ([], 0, tot.e) else (tot.out, (tot.p + 7) / 8, 0)) := Lib.hid (by unfold inflK; rw [if_neg (by omega), htot])
  have HT := Lib.hid htot
  clear htot
  have hmost : 0 ≤ most ∧ most ≤ 16777216 := by omega
  go_enter Try.func10, Try.ntmps10
  go_wp2_with fail
  refine HN.out.mono ?_
  rintro e w1 ⟨gr, rfl, hgr, hrd, hb1⟩
  have hb2 := below_alloc w1 (.cells #[.pointer (some ⟨gr, 0, none⟩), .slice none 0 0, .int .i64 most, .int .i64 0] STT)
  have H2 : Hid (ISt (w1.alloc (.cells #[.pointer (some ⟨gr, 0, none⟩), .slice none 0 0, .int .i64 most, .int .i64 0] STT)) w.heap.size (w1.heap.size + 1) w1.heap.size gr l most ⟨0, [], 0⟩ ∧ Below w.heap.size w (w1.alloc (.cells #[.pointer (some ⟨gr, 0, none⟩), .slice none 0 0, .int .i64 most, .int .i64 0] STT))) := Lib.hid (by
    obtain ⟨cs, hrb⟩ := hrd.blk
    have hlt := hrb.lt
    have := hb1.size
    exact ⟨⟨⟨none, 0, 0, Blk.new _ _ _, Own.nil⟩, hrd.below hb2, by omega, hgr, by omega, by omega, by omega, by simp⟩, hb1.alloc hb1.size _⟩)
  clear hgr hrd hb1 hb2 HN
  go_wp2_with fail
  obtain ⟨w2, hw2⟩ : ∃ w2, w2 = w1.alloc (.cells #[.pointer (some ⟨gr, 0, none⟩), .slice none 0 0, .int .i64 most, .int .i64 0] STT) := ⟨_, rfl⟩
  obtain ⟨gs, hgs⟩ : ∃ g, g = w1.heap.size := ⟨_, rfl⟩
  rw [← hw2, ← hgs] at H2 ⊢
  clear hw2 hgs
  obtain ⟨B, hB⟩ : ∃ B, B = gs + 1 := ⟨_, rfl⟩
  rw [← hB] at H2
  clear hB
  go_loopw [] (fun wr => ∃ (k : Nat) (s' : IS), Hid (ISt wr w.heap.size B gs gr l most s' ∧ Below w.heap.size w wr) ∧ Hid (tot = blocksK l most k s') ∧ Hid (8 * l.length - s'.p < k)) (fun wr => 8 * l.length - cntG gr wr)
  case atStart => exact ⟨8 * l.length + 1, ⟨0, [], 0⟩, H2, HT, Lib.hid (by simp)⟩
  case round =>
    clear H2 HT
    obtain ⟨k, s', hW, hK, hF⟩ := hrel
    obtain ⟨k', rfl⟩ : ∃ k', k = k' + 1 := ⟨k - 1, by have := hF.out; omega⟩
    have HBL := Lib.hid (iBlock_any wr hW.out.1 hmost)
    have HKK : Hid (tot = if (blockK l most s').1 then (blockK l most s').2 else blocksK l most k' (blockK l most s').2) := Lib.hid (by rw [hK.out]; rfl)
    have hpp := blockK_p l most s'
    have hcn := hW.out.1.rd.cnt
    generalize blockK l most s' = bk at *
    obtain ⟨bl, s9⟩ := bk
    unfold BlkPost at HBL
    simp only at HBL HKK hpp
    go_wp2_with fail
    refine HBL.out.mono ?_
    rintro e w3 ⟨rfl, h3, k3⟩
    have H3 : Hid (ISt w3 w.heap.size B gs gr l most s9 ∧ Below w.heap.size w w3) := Lib.hid ⟨h3, hW.out.2.trans k3.bel⟩
    have hcn3 := h3.rd.cnt
    have hp3 := h3.rd.len.2
    clear h3 k3 HBL hK hW
    cases bl with
    | false =>
      have HT2 : Hid (tot = blocksK l most k' s9) := Lib.hid (by rw [HKK.out, if_neg (by decide)])
      have hlt := hpp.2 rfl
      clear HKK hpp
      go_wp2_with fail
      go_roundw
      case rel => exact ⟨k', s9, H3, HT2, Lib.hid (by have := hF.out; omega)⟩
      case measure => rw [hcn3, hcn]; omega
    | true =>
      have HT2 : Hid (tot = s9) := Lib.hid (by rw [HKK.out, if_pos rfl])
      obtain ⟨q, m, c', hb, ho⟩ := H3.out.1.ex
      have HBK := Lib.hid hb
      have HOW := Lib.hid ho
      have HRD := Lib.hid H3.out.1.rd
      have e3 := hb.cell (i := 3) rfl
      have e1 := hb.cell (i := 1) rfl
      have e0 := hb.cell (i := 0) rfl
      clear HKK hpp hb ho
      by_cases he : s9.e = 0
      · have HI2 : Hid (inflK l most = (s9.out, (s9.p + 7) / 8, 0)) := Lib.hid (by rw [HI.out, HT2.out, if_neg (by simpa using he)])
        rw [he] at e3
        have hln := HLN.out
        have gsub : IntKind.i64.wrap ((n : Int) - (8 * (l.length : Int) - (s9.p : Int)) / 8) = (((s9.p + 7) / 8 : Nat) : Int) := by
          rw [IntWalk.i64_in _ (by omega)]; omega
        go_wp2_with fail
        clear e0 e1 e3
        refine wp_region_grow (by kernel_rfl) (by kernel_rfl) (by rfl) ?_
        apply gw_val
        · intro a' w' hk
          refine ⟨wanted_none rfl, ?_⟩
          simp [Oper.looksAt, Op.operands, Call.operands, KnownAt, List.lookup, consD] at hk
          simp [execOp, Act.eval, hk, go_sem]
          all_goals rfl
        apply gw_val
        · intro a' w' hk
          refine ⟨wanted_none rfl, ?_⟩
          simp [Oper.looksAt, Op.operands, Call.operands, KnownAt, List.lookup, consD] at hk
          simp [execOp, Act.eval, hk, go_sem]
          all_goals rfl
        apply gw_val
        · intro a' w' hk
          refine ⟨wanted_none rfl, ?_⟩
          simp [Oper.looksAt, Op.operands, Call.operands, KnownAt, List.lookup, consD] at hk
          simp [execOp, Act.eval, hk, go_sem]
          all_goals rfl
        refine gw_valB (fun v _ => v = (.slice q m c')) (mono_eq _) ?_ ?_
        · intro a' w' hb' hk
          refine ⟨wanted_none rfl, _, ?_, rfl⟩
          have hc := ((Blk.drew2 HBK.out).below hb').cell (i := 1) rfl
          simp [Oper.looksAt, Op.operands, Call.operands, KnownAt, List.lookup, consD] at hk
          simp [execOp, Act.eval, hk, hc, go_sem]
          all_goals rfl
        apply gw_val
        · intro a' w' hk
          refine ⟨wanted_none rfl, ?_⟩
          simp [Oper.looksAt, Op.operands, Call.operands, KnownAt, List.lookup, consD] at hk
          simp [execOp, Act.eval, hk, go_sem]
          all_goals rfl
        apply gw_val
        · intro a' w' hk
          refine ⟨wanted_none rfl, ?_⟩
          simp [Oper.looksAt, Op.operands, Call.operands, KnownAt, List.lookup, consD] at hk
          simp [execOp, Act.eval, hk, go_sem]
          all_goals rfl
        apply gw_val
        · intro a' w' hk
          refine ⟨wanted_none rfl, ?_⟩
          simp [Oper.looksAt, Op.operands, Call.operands, KnownAt, List.lookup, consD] at hk
          simp [execOp, Act.eval, hk, go_sem]
          all_goals rfl
        apply gw_val
        · intro a' w' hk
          refine ⟨wanted_none rfl, ?_⟩
          simp [Oper.looksAt, Op.operands, Call.operands, KnownAt, List.lookup, consD] at hk
          simp [execOp, Act.eval, hk, go_sem]
          all_goals rfl
        apply gw_val
        · intro a' w' hk
          refine ⟨wanted_none rfl, ?_⟩
          simp [Oper.looksAt, Op.operands, Call.operands, KnownAt, List.lookup, consD] at hk
          simp [execOp, Act.eval, hk, go_sem]
          all_goals rfl
        refine gw_valB (fun v _ => v = (.pointer (some ⟨gr, 0, none⟩))) (mono_eq _) ?_ ?_
        · intro a' w' hb' hk
          refine ⟨wanted_none rfl, _, ?_, rfl⟩
          have hc := ((Blk.drew2 HBK.out).below hb').cell (i := 0) rfl
          simp [Oper.looksAt, Op.operands, Call.operands, KnownAt, List.lookup, consD] at hk
          simp [execOp, Act.eval, hk, hc, go_sem]
          all_goals rfl
        refine gw_call _ _ (fun v _ => v = .int .i64 (8 * (l.length : Int) - (s9.p : Int))) (mono_eq _) (fun a' w' hk => ?_) (fun w' hb => (rdLeft_any gr l s9.p w' (HRD.out.below (below_drewX hb))).mono ?_) ?_
        · refine ⟨wanted_none rfl, ?_⟩
          simp [Oper.looksAt, Op.operands, Call.operands, KnownAt, List.lookup, consD] at hk
          simp [execOp, Act.eval, hk, go_sem]
          all_goals rfl
        · rintro e w'' ⟨rfl, kd, rfl⟩
          exact ⟨_, rfl, rfl, below_drewN _ _ _⟩
        refine gw_val (.int .i64 ((8 * (l.length : Int) - (s9.p : Int)) / 8)) ?_ ?_
        · intro a' w' hk
          refine ⟨wanted_none rfl, ?_⟩
          simp [Oper.looksAt, Op.operands, Call.operands, KnownAt, List.lookup, consD] at hk
          simp [execOp, Act.eval, hk, go_sem]
          all_goals first | rfl | omega
        refine gw_val (.int .i64 (((s9.p + 7) / 8 : Nat) : Int)) ?_ ?_
        · intro a' w' hk
          refine ⟨wanted_none rfl, ?_⟩
          simp [Oper.looksAt, Op.operands, Call.operands, KnownAt, List.lookup, consD] at hk
          simp [execOp, Act.eval, hk, go_sem, gsub]
          all_goals first | rfl | omega
        apply gw_val
        · intro a' w' hk
          refine ⟨wanted_none rfl, ?_⟩
          simp [Oper.looksAt, Op.operands, Call.operands, KnownAt, List.lookup, consD] at hk
          simp [execOp, Act.eval, hk, go_sem]
          all_goals rfl
        apply gw_val
        · intro a' w' hk
          refine ⟨wanted_none rfl, ?_⟩
          simp [Oper.looksAt, Op.operands, Call.operands, KnownAt, List.lookup, consD] at hk
          simp [execOp, Act.eval, hk, go_sem]
          all_goals rfl
        apply gw_val
        · intro a' w' hk
          refine ⟨wanted_none rfl, ?_⟩
          simp [Oper.looksAt, Op.operands, Call.operands, KnownAt, List.lookup, consD] at hk
          simp [execOp, Act.eval, hk, go_sem]
          all_goals rfl
        intro vs w8 hb8 hall
        simp only [AllS, consD] at hall
        simp only [consD, putAllS, Act.put]
        obtain ⟨h6, h5, h4, -⟩ := hall
        rw [h6, h5, h4]
        simp only [List.setIfInBounds_toArray, List.set_cons_succ, List.set_cons_zero]
        have hb9 := below_drewX hb8
        have HF : Hid (Rd w8 bE q s9.out ∧ Below w.heap.size w w8 ∧ s9.out.length = m ∧ (m ≤ c' ∧ c' ≤ maxLen)) := Lib.hid ⟨HOW.out.rd.below hb9, H3.out.2.trans (hb9.mono H3.out.2.size), HOW.out.len, HOW.out.le_cap, HOW.out.cap_max⟩
        clear hb8 hb9 h6 h5 h4
        go_wp2_with fail
        refine bodyPost_ret (results3 rfl _ _ _) rfl ?_
        rw [HI2.out]
        exact ⟨q, m, c', rfl, HF.out.2.2.1, HF.out.2.2.2, HF.out.1, HF.out.2.1⟩
      · have HI2 : Hid (inflK l most = ([], 0, s9.e)) := Lib.hid (by rw [HI.out, HT2.out, if_pos he])
        have heb : (s9.e != 0) = true := by simpa using he
        go_wp2_with fail
        go_quiet (fail)
        go_wp2
        refine bodyPost_ret (results3 rfl _ _ _) rfl ?_
        rw [HI2.out]
        exact ⟨none, 0, 0, rfl, rfl, ⟨Nat.le_refl _, Nat.zero_le _⟩, Rd.nil, H3.out.2.trans (below_drewN _ _ _)⟩
end Go.Proofs.Ytgcdeadfkljeaaa
