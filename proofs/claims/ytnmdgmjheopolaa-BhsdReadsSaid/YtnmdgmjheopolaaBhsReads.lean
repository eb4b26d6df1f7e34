/- The walk of BhsdReads. -/
import Derived.Test.YtnmdgmjheopolaaBhsP
import Derived.Test.YtnmdgmjheopolaaReadsK
namespace Go.Proofs.Ytnmdgmjheopolaa
open Go.RowKit
set_option linter.unusedVariables false
set_option linter.unusedSimpArgs false

set_option maxHeartbeats 16000000 in
set_option maxRecDepth 100000 in
theorem walkBhsdReads (a0 : Option Addr) (n0 c0 : Nat) (l0 : List UInt8) (b h s d n : Int) (w : World)
    (hl0 : l0.length = n0) (hm0 : n0 ≤ c0 ∧ c0 ≤ maxLen) (hr0 : Rd w bE a0 l0) (hb0 : In64 b) (hh0 : In64 h) (hs0 : In64 s) (hd0 : In64 d) (hn0 : In64 n) :
    Calls Try.prog 9 #[.slice a0 n0 c0, .agg #[.int .i64 b, .int .i64 h, .int .i64 s, .int .i64 d], .int .i64 n] w fun e w' => e = .returned (.bool true) ∧ Below w.heap.size w w' := by
  unfold maxLen at hm0
  have hBa := below_alloc w (.cells #[.int .i64 b, .int .i64 h, .int .i64 s, .int .i64 d] 23)
  have hblk0 := Blk.new w 23 #[.int .i64 b, .int .i64 h, .int .i64 s, .int .i64 d]
  have hr0a := hr0.below hBa
  have HR0 := Lib.hid hr0
  go_enter Try.func9, Try.ntmps9
  go_wp2_with fail
  refine (fixed24_any _).mono ?_
  rintro e w1 ⟨rfl, hb1⟩
  have hblk1 := hblk0.below hb1
  have hB1 := hBa.trans (hb1.mono hBa.size)
  have hr1 := hr0a.below hb1
  have hs1 : w.heap.size < w1.heap.size := hblk1.lt
  clear hBa hblk0 hr0a hb1 hr0
  obtain ⟨q, hq⟩ : ∃ q, q = w.heap.size := ⟨_, rfl⟩
  by_cases h300 : n0 > 300
  · go_wp2
    go_ret
    exact ⟨rfl, hB1⟩
  · go_wp2_with fail
    refine (cNew_any a0 n0 c0 l0 w1 hl0 (by omega) hr1).mono ?_
    rintro e w2 ⟨gc, rfl, hgc, hcur, hb⟩
    have hB2 := below_trans0 hB1 (by omega) hb
    have hr2 := hr1.below hb
    have hblk2 := hblk1.below hb
    have hgl := hcur.lt2
    have href := RefOk.new w2 hl0 hm0.1 ⟨by omega, by omega⟩ hr2
    have hcur2 := hcur.below (below_alloc w2 (.cells #[.slice a0 n0 c0, .int .i64 0, .int .i64 0] 77))
    have hblk3 := hblk2.below (below_alloc w2 (.cells #[.slice a0 n0 c0, .int .i64 0, .int .i64 0] 77))
    have hB3 := hB2.alloc hB2.size (.cells #[.slice a0 n0 c0, .int .i64 0, .int .i64 0] 77)
    have hs2 : w.heap.size < w2.heap.size := hblk2.lt
    have hs3 : (w2.alloc (.cells #[.slice a0 n0 c0, .int .i64 0, .int .i64 0] 77)).heap.size = w2.heap.size + 1 := by simp
    clear hb hcur hB2 hr1 hblk1 hblk2 hB1
    obtain ⟨V, hV⟩ : ∃ V, gotV b h s d l0 0 0 = V := ⟨_, rfl⟩
    obtain ⟨P, hP⟩ : ∃ P, gotP b h s d l0 0 0 = P := ⟨_, rfl⟩
    obtain ⟨E, hE⟩ : ∃ E, gotE b h s d l0 0 0 = E := ⟨_, rfl⟩
    have HV := Lib.hid hV
    have HP := Lib.hid hP
    have HE := Lib.hid hE
    clear hV hP hE
    have HL0 := Lib.hid hl0
    have HB3 := Lib.hid hB3
    have HC2 := Lib.hid hcur2
    have HRF := Lib.hid href
    clear hl0 hr2 hB3 hcur2 href
    obtain ⟨hc0, hc1, hc2, hc3⟩ := hblk3.four
    go_wp2_with fail
    generalize w2.alloc (.cells #[.slice a0 n0 c0, .int .i64 0, .int .i64 0] 77) = w3 at HB3 HC2 HRF hblk3 hs3 hc0 hc1 hc2 hc3 ⊢
    generalize w2.heap.size = gr at HRF hs2 hs3 hgl ⊢
    have hB0c : w.heap.size ≤ gc := by omega
    have hB0r : w.heap.size ≤ gr := by omega
    have hcr : gc ≠ gr := by omega
    have hrc : gr ≠ gc := by omega
    have hqc : w.heap.size ≠ gc := by omega
    have hqr : w.heap.size ≠ gr := by omega
    have hcB : gc < gr + 1 := by omega
    have hrB : gr < gr + 1 := by omega
    clear hgc hgl hs1 hs2 hs3 hc0 hc1 hc2 hc3
    by_cases hE0 : E = 0
    · subst hE0
      go_wp2_with fail
      refine wp_region_growI (SK (gr + 1) gc gr l0 P 0) (IK w.heap.size w (fun w' => Blk w' w.heap.size 23 #[.int .i64 b, .int .i64 h, .int .i64 s, .int .i64 d]) gc gr l0 0 0 P 0 2 5) (by kernel_rfl) (by kernel_rfl) (by rfl) ⟨⟨HC2.out.ex⟩, ⟨HRF.out.ex⟩, hblk3.drew, HB3.out.drew⟩ ?_
      apply gi_val _ SK.refl (fun L w' _ h => h.set (show (2 : Nat) ≠ 0 by decide) (show (5 : Nat) ≠ 0 by decide))
      · intro a' w' L hL haf hi hk
        refine ⟨wanted_none rfl, ?_⟩
        try simp [Oper.looksAt, Op.operands, Call.operands, KnownAt, List.lookup, consD] at hk
        simp [execOp, Act.eval, hk, go_sem]
        all_goals rfl
      apply gi_val (.agg #[.int .i64 b, .int .i64 h, .int .i64 s, .int .i64 d]) SK.refl (fun L w' _ h => h.set (show (2 : Nat) ≠ 1 by decide) (show (5 : Nat) ≠ 1 by decide))
      · intro a' w' L hL haf hi hk
        refine ⟨wanted_none rfl, ?_⟩
        obtain ⟨hc0, hc1, hc2, hc3⟩ := hi.2.2.1.four
        try simp [Oper.looksAt, Op.operands, Call.operands, KnownAt, List.lookup, consD] at hk
        simp [execOp, Act.eval, hk, go_sem, hc0, hc1, hc2, hc3]
        all_goals rfl
      refine gi_callX 47 (fun args _ => args = #[.pointer (some ⟨gc, 0, none⟩), .agg #[.int .i64 b, .int .i64 h, .int .i64 s, .int .i64 d]]) (fun v w => v = .int .i64 V ∧ CurOk w gc l0 P 0) (monoSK_C _) ?_ ?_ ?_
      · intro a' w' L hL haf hi hk
        refine ⟨wanted_none rfl, _, rfl, ?_⟩
        try simp [Oper.looksAt, Op.operands, Call.operands, KnownAt, List.lookup, consD] at hk
        simp [execOp, Act.eval, hk, go_sem]
        all_goals rfl
      · rintro w' L args hL haf hi hA
        subst hA
        refine (bGet_any gc l0 0 0 b h s d w' (hi.cur hL) hb0 hh0 hs0 hd0).mono ?_
        unfold GetPost
        rw [HV.out, HP.out, HE.out]
        rintro e w'' ⟨rfl, hc, hg⟩
        obtain ⟨h1, h2⟩ := hi.c hc hg (by decide) hrc (fun hb => hb.grown hg (by simp; omega)) hB0c (hi.2.2.2.size) hcB
        exact ⟨_, rfl, ⟨rfl, hc⟩, h1, h2⟩
      apply gi_val _ SK.refl (fun L w' _ h => h.set (show (2 : Nat) ≠ 3 by decide) (show (5 : Nat) ≠ 3 by decide))
      · intro a' w' L hL haf hi hk
        refine ⟨wanted_none rfl, ?_⟩
        try simp [Oper.looksAt, Op.operands, Call.operands, KnownAt, List.lookup, consD] at hk
        simp [execOp, Act.eval, hk, go_sem]
        all_goals rfl
      apply gi_val (.agg #[.int .i64 b, .int .i64 h, .int .i64 s, .int .i64 d]) SK.refl (fun L w' _ h => h.set (show (2 : Nat) ≠ 4 by decide) (show (5 : Nat) ≠ 4 by decide))
      · intro a' w' L hL haf hi hk
        refine ⟨wanted_none rfl, ?_⟩
        obtain ⟨hc0, hc1, hc2, hc3⟩ := hi.2.2.1.four
        try simp [Oper.looksAt, Op.operands, Call.operands, KnownAt, List.lookup, consD] at hk
        simp [execOp, Act.eval, hk, go_sem, hc0, hc1, hc2, hc3]
        all_goals rfl
      refine gi_callX 48 (fun args _ => args = #[.pointer (some ⟨gr, 0, none⟩), .agg #[.int .i64 b, .int .i64 h, .int .i64 s, .int .i64 d]]) (fun v w => v = .int .i64 V ∧ RefOk w gr l0 P 0) (monoSK_R _) ?_ ?_ ?_
      · intro a' w' L hL haf hi hk
        refine ⟨wanted_none rfl, _, rfl, ?_⟩
        try simp [Oper.looksAt, Op.operands, Call.operands, KnownAt, List.lookup, consD] at hk
        simp [execOp, Act.eval, hk, go_sem]
        all_goals rfl
      · rintro w' L args hL haf hi hA
        subst hA
        refine (rGet_any gr l0 0 0 b h s d w' (hi.ref hL) hb0 hh0 hs0 hd0).mono ?_
        unfold RGetPost
        rw [HV.out, HP.out, HE.out]
        rintro e w'' ⟨rfl, hc, hg⟩
        obtain ⟨h1, h2⟩ := hi.r hc hg (by decide) hcr (fun hb => hb.grown hg (by simp; omega)) hB0r (hi.2.2.2.size) hrB
        exact ⟨_, rfl, ⟨rfl, hc⟩, h1, h2⟩
      refine gi_valX (fun v w => v = .bool false ∧ KK gc gr l0 P 0 w) (monoSK_K _) SK.refl (fun L w' _ h => h.set (show (2 : Nat) ≠ 6 by decide) (show (5 : Nat) ≠ 6 by decide)) ?_ ?_
      · intro a' w' L hL haf hi hk
        have hK : KK gc gr l0 P 0 w' := ⟨(known_of (hk 23 (by decide)) rfl).2, (known_of (hk 26 (by decide)) rfl).2⟩
        refine ⟨wanted_none rfl, .bool false, ?_, rfl, hK⟩
        try simp [Oper.looksAt, Op.operands, Call.operands, KnownAt, List.lookup, consD] at hk
        simp [execOp, Act.eval, hk, go_sem]
        all_goals rfl
      refine gi_valX (fun v w => v = .bool false ∧ KK gc gr l0 P 0 w) (monoSK_K _) SK.refl (fun L w' _ h => h.set (show (2 : Nat) ≠ 7 by decide) (show (5 : Nat) ≠ 7 by decide)) ?_ ?_
      · intro a' w' L hL haf hi hk
        have hK : KK gc gr l0 P 0 w' := (known_of (hk 27 (by decide)) rfl).2
        refine ⟨wanted_none rfl, .bool false, ?_, rfl, hK⟩
        try simp [Oper.looksAt, Op.operands, Call.operands, KnownAt, List.lookup, consD] at hk
        simp [execOp, Act.eval, hk, go_sem]
        all_goals rfl
      apply gi_val _ SK.refl (fun L w' _ h => h.set (show (2 : Nat) ≠ 8 by decide) (show (5 : Nat) ≠ 8 by decide))
      · intro a' w' L hL haf hi hk
        refine ⟨wanted_guard (t := 28) rfl rfl (known_of (hk 28 (by decide)) rfl).1, ?_⟩
        try simp [Oper.looksAt, Op.operands, Call.operands, KnownAt, List.lookup, consD] at hk
        simp [execOp, Act.eval, hk, go_sem]
        all_goals rfl
      refine gi_callX 49 (fun args w => args = #[.pointer (some ⟨gc, 0, none⟩)] ∧ KK gc gr l0 P 0 w) (fun v _ => v = .int .i64 0) (monoSK_eq _) ?_ ?_ ?_
      · intro a' w' L hL haf hi hk
        have hK : KK gc gr l0 P 0 w' := (known_of (hk 28 (by decide)) rfl).2
        refine ⟨wanted_guard (t := 28) rfl rfl (known_of (hk 28 (by decide)) rfl).1, _, ⟨rfl, hK⟩, ?_⟩
        try simp [Oper.looksAt, Op.operands, Call.operands, KnownAt, List.lookup, consD] at hk
        simp [execOp, Act.eval, hk, go_sem]
        all_goals rfl
      · rintro w' L args hL haf hi hA
        obtain ⟨rfl, hK⟩ := hA
        refine (cErr_any gc l0 P 0 w' hK.1).mono ?_
        rintro e w'' ⟨rfl, rfl⟩
        exact ⟨_, rfl, rfl, SK.refl _, hi.set (by decide) (by decide)⟩
      apply gi_val _ SK.refl (fun L w' _ h => h.set (show (2 : Nat) ≠ 10 by decide) (show (5 : Nat) ≠ 10 by decide))
      · intro a' w' L hL haf hi hk
        refine ⟨wanted_guard (t := 28) rfl rfl (known_of (hk 28 (by decide)) rfl).1, ?_⟩
        try simp [Oper.looksAt, Op.operands, Call.operands, KnownAt, List.lookup, consD] at hk
        simp [execOp, Act.eval, hk, go_sem]
        all_goals rfl
      apply gi_val _ SK.refl (fun L w' _ h => h.set (show (2 : Nat) ≠ 11 by decide) (show (5 : Nat) ≠ 11 by decide))
      · intro a' w' L hL haf hi hk
        refine ⟨wanted_guard (t := 28) rfl rfl (known_of (hk 28 (by decide)) rfl).1, ?_⟩
        try simp [Oper.looksAt, Op.operands, Call.operands, KnownAt, List.lookup, consD] at hk
        simp [execOp, Act.eval, hk, go_sem]
        all_goals rfl
      apply gi_val _ SK.refl (fun L w' _ h => h.set (show (2 : Nat) ≠ 12 by decide) (show (5 : Nat) ≠ 12 by decide))
      · intro a' w' L hL haf hi hk
        refine ⟨wanted_guard (t := 28) rfl rfl (known_of (hk 28 (by decide)) rfl).1, ?_⟩
        try simp [Oper.looksAt, Op.operands, Call.operands, KnownAt, List.lookup, consD] at hk
        simp [execOp, Act.eval, hk, go_sem]
        all_goals rfl
      apply gi_val (.int .i64 0) SK.refl (fun L w' _ h => h.set (show (2 : Nat) ≠ 13 by decide) (show (5 : Nat) ≠ 13 by decide))
      · intro a' w' L hL haf hi hk
        have hK : KK gc gr l0 P 0 w' := (known_of (hk 28 (by decide)) rfl).2
        refine ⟨wanted_guard (t := 28) rfl rfl (known_of (hk 28 (by decide)) rfl).1, ?_⟩
        have hc := hK.2.cell2
        try simp [Oper.looksAt, Op.operands, Call.operands, KnownAt, List.lookup, consD] at hk
        simp [execOp, Act.eval, hk, go_sem, hc]
        all_goals rfl
      apply gi_val _ SK.refl (fun L w' _ h => h.set (show (2 : Nat) ≠ 14 by decide) (show (5 : Nat) ≠ 14 by decide))
      · intro a' w' L hL haf hi hk
        refine ⟨wanted_guard (t := 28) rfl rfl (known_of (hk 28 (by decide)) rfl).1, ?_⟩
        try simp [Oper.looksAt, Op.operands, Call.operands, KnownAt, List.lookup, consD] at hk
        simp [execOp, Act.eval, hk, go_sem]
        all_goals rfl
      refine gi_valX (fun v w => v = .bool false ∧ KK gc gr l0 P 0 w) (monoSK_K _) SK.refl (fun L w' _ h => h.set (show (2 : Nat) ≠ 15 by decide) (show (5 : Nat) ≠ 15 by decide)) ?_ ?_
      · intro a' w' L hL haf hi hk
        have hK : KK gc gr l0 P 0 w' := (known_of (hk 28 (by decide)) rfl).2
        refine ⟨wanted_none rfl, .bool false, ?_, rfl, hK⟩
        try simp [Oper.looksAt, Op.operands, Call.operands, KnownAt, List.lookup, consD] at hk
        simp [execOp, Act.eval, hk, go_sem]
        all_goals rfl
      refine gi_valX (fun v w => v = .bool false ∧ KK gc gr l0 P 0 w) (monoSK_K _) SK.refl (fun L w' _ h => h.set (show (2 : Nat) ≠ 16 by decide) (show (5 : Nat) ≠ 16 by decide)) ?_ ?_
      · intro a' w' L hL haf hi hk
        have hK : KK gc gr l0 P 0 w' := (known_of (hk 36 (by decide)) rfl).2
        refine ⟨wanted_none rfl, .bool false, ?_, rfl, hK⟩
        try simp [Oper.looksAt, Op.operands, Call.operands, KnownAt, List.lookup, consD] at hk
        simp [execOp, Act.eval, hk, go_sem]
        all_goals rfl
      apply gi_val _ SK.refl (fun L w' _ h => h.set (show (2 : Nat) ≠ 17 by decide) (show (5 : Nat) ≠ 17 by decide))
      · intro a' w' L hL haf hi hk
        refine ⟨wanted_guard (t := 37) rfl rfl (known_of (hk 37 (by decide)) rfl).1, ?_⟩
        try simp [Oper.looksAt, Op.operands, Call.operands, KnownAt, List.lookup, consD] at hk
        simp [execOp, Act.eval, hk, go_sem]
        all_goals rfl
      apply gi_val _ SK.refl (fun L w' _ h => h.set (show (2 : Nat) ≠ 18 by decide) (show (5 : Nat) ≠ 18 by decide))
      · intro a' w' L hL haf hi hk
        refine ⟨wanted_guard (t := 37) rfl rfl (known_of (hk 37 (by decide)) rfl).1, ?_⟩
        try simp [Oper.looksAt, Op.operands, Call.operands, KnownAt, List.lookup, consD] at hk
        simp [execOp, Act.eval, hk, go_sem]
        all_goals rfl
      apply gi_val _ SK.refl (fun L w' _ h => h.set (show (2 : Nat) ≠ 19 by decide) (show (5 : Nat) ≠ 19 by decide))
      · intro a' w' L hL haf hi hk
        refine ⟨wanted_guard (t := 37) rfl rfl (known_of (hk 37 (by decide)) rfl).1, ?_⟩
        try simp [Oper.looksAt, Op.operands, Call.operands, KnownAt, List.lookup, consD] at hk
        simp [execOp, Act.eval, hk, go_sem]
        all_goals rfl
      apply gi_val (.int .i64 0) SK.refl (fun L w' _ h => h.set (show (2 : Nat) ≠ 20 by decide) (show (5 : Nat) ≠ 20 by decide))
      · intro a' w' L hL haf hi hk
        have hK : KK gc gr l0 P 0 w' := (known_of (hk 37 (by decide)) rfl).2
        refine ⟨wanted_guard (t := 37) rfl rfl (known_of (hk 37 (by decide)) rfl).1, ?_⟩
        have hc := hK.2.cell2
        try simp [Oper.looksAt, Op.operands, Call.operands, KnownAt, List.lookup, consD] at hk
        simp [execOp, Act.eval, hk, go_sem, hc]
        all_goals rfl
      apply gi_val _ SK.refl (fun L w' _ h => h.set (show (2 : Nat) ≠ 21 by decide) (show (5 : Nat) ≠ 21 by decide))
      · intro a' w' L hL haf hi hk
        refine ⟨wanted_guard (t := 37) rfl rfl (known_of (hk 37 (by decide)) rfl).1, ?_⟩
        try simp [Oper.looksAt, Op.operands, Call.operands, KnownAt, List.lookup, consD] at hk
        simp [execOp, Act.eval, hk, go_sem]
        all_goals rfl
      refine gi_valX (fun v w => v = .bool true ∧ KK gc gr l0 P 0 w) (monoSK_K _) SK.refl (fun L w' _ h => h.set (show (2 : Nat) ≠ 22 by decide) (show (5 : Nat) ≠ 22 by decide)) ?_ ?_
      · intro a' w' L hL haf hi hk
        have hK : KK gc gr l0 P 0 w' := (known_of (hk 37 (by decide)) rfl).2
        refine ⟨wanted_guard (t := 37) rfl rfl (known_of (hk 37 (by decide)) rfl).1, .bool true, ?_, rfl, hK⟩
        try simp [Oper.looksAt, Op.operands, Call.operands, KnownAt, List.lookup, consD] at hk
        simp [execOp, Act.eval, hk, go_sem]
        all_goals rfl
      apply gi_val _ SK.refl (fun L w' _ h => h.set (show (2 : Nat) ≠ 23 by decide) (show (5 : Nat) ≠ 23 by decide))
      · intro a' w' L hL haf hi hk
        refine ⟨wanted_guard (t := 43) rfl rfl (known_of (hk 43 (by decide)) rfl).1, ?_⟩
        try simp [Oper.looksAt, Op.operands, Call.operands, KnownAt, List.lookup, consD] at hk
        simp [execOp, Act.eval, hk, go_sem]
        all_goals rfl
      refine gi_callX 50 (fun args w => args = #[.pointer (some ⟨gc, 0, none⟩)] ∧ KK gc gr l0 P 0 w) (fun v _ => v = .int .i64 (P : Int)) (monoSK_eq _) ?_ ?_ ?_
      · intro a' w' L hL haf hi hk
        have hK : KK gc gr l0 P 0 w' := (known_of (hk 43 (by decide)) rfl).2
        refine ⟨wanted_guard (t := 43) rfl rfl (known_of (hk 43 (by decide)) rfl).1, _, ⟨rfl, hK⟩, ?_⟩
        try simp [Oper.looksAt, Op.operands, Call.operands, KnownAt, List.lookup, consD] at hk
        simp [execOp, Act.eval, hk, go_sem]
        all_goals rfl
      · rintro w' L args hL haf hi hA
        obtain ⟨rfl, hK⟩ := hA
        refine (cAt_any gc l0 P 0 w' hK.1).mono ?_
        rintro e w'' ⟨rfl, rfl⟩
        exact ⟨_, rfl, rfl, SK.refl _, hi.set (by decide) (by decide)⟩
      apply gi_val _ SK.refl (fun L w' _ h => h.set (show (2 : Nat) ≠ 25 by decide) (show (5 : Nat) ≠ 25 by decide))
      · intro a' w' L hL haf hi hk
        refine ⟨wanted_guard (t := 43) rfl rfl (known_of (hk 43 (by decide)) rfl).1, ?_⟩
        try simp [Oper.looksAt, Op.operands, Call.operands, KnownAt, List.lookup, consD] at hk
        simp [execOp, Act.eval, hk, go_sem]
        all_goals rfl
      apply gi_val _ SK.refl (fun L w' _ h => h.set (show (2 : Nat) ≠ 26 by decide) (show (5 : Nat) ≠ 26 by decide))
      · intro a' w' L hL haf hi hk
        refine ⟨wanted_guard (t := 43) rfl rfl (known_of (hk 43 (by decide)) rfl).1, ?_⟩
        try simp [Oper.looksAt, Op.operands, Call.operands, KnownAt, List.lookup, consD] at hk
        simp [execOp, Act.eval, hk, go_sem]
        all_goals rfl
      apply gi_val _ SK.refl (fun L w' _ h => h.set (show (2 : Nat) ≠ 27 by decide) (show (5 : Nat) ≠ 27 by decide))
      · intro a' w' L hL haf hi hk
        refine ⟨wanted_guard (t := 43) rfl rfl (known_of (hk 43 (by decide)) rfl).1, ?_⟩
        try simp [Oper.looksAt, Op.operands, Call.operands, KnownAt, List.lookup, consD] at hk
        simp [execOp, Act.eval, hk, go_sem]
        all_goals rfl
      apply gi_val (.int .i64 (P : Int)) SK.refl (fun L w' _ h => h.set (show (2 : Nat) ≠ 28 by decide) (show (5 : Nat) ≠ 28 by decide))
      · intro a' w' L hL haf hi hk
        have hK : KK gc gr l0 P 0 w' := (known_of (hk 43 (by decide)) rfl).2
        refine ⟨wanted_guard (t := 43) rfl rfl (known_of (hk 43 (by decide)) rfl).1, ?_⟩
        have hc := hK.2.cell1
        try simp [Oper.looksAt, Op.operands, Call.operands, KnownAt, List.lookup, consD] at hk
        simp [execOp, Act.eval, hk, go_sem, hc]
        all_goals rfl
      apply gi_val _ SK.refl (fun L w' _ h => h.set (show (2 : Nat) ≠ 29 by decide) (show (5 : Nat) ≠ 29 by decide))
      · intro a' w' L hL haf hi hk
        refine ⟨wanted_guard (t := 43) rfl rfl (known_of (hk 43 (by decide)) rfl).1, ?_⟩
        try simp [Oper.looksAt, Op.operands, Call.operands, KnownAt, List.lookup, consD] at hk
        simp [execOp, Act.eval, hk, go_sem]
        all_goals rfl
      apply gi_val _ SK.refl (fun L w' _ h => h.set (show (2 : Nat) ≠ 30 by decide) (show (5 : Nat) ≠ 30 by decide))
      · intro a' w' L hL haf hi hk
        refine ⟨wanted_guard (t := 37) rfl rfl (known_of (hk 37 (by decide)) rfl).1, ?_⟩
        try simp [Oper.looksAt, Op.operands, Call.operands, KnownAt, List.lookup, consD] at hk
        simp [execOp, Act.eval, hk, go_sem]
        all_goals rfl
      apply gi_val _ SK.refl (fun L w' _ h => h.set (show (2 : Nat) ≠ 31 by decide) (show (5 : Nat) ≠ 31 by decide))
      · intro a' w' L hL haf hi hk
        refine ⟨wanted_none rfl, ?_⟩
        try simp [Oper.looksAt, Op.operands, Call.operands, KnownAt, List.lookup, consD] at hk
        simp [execOp, Act.eval, hk, go_sem]
        all_goals rfl
      intro vs w' L hall hi hval
      simp only [AllS, consD] at hval
      simp only [consD, putAllS, Act.put]
      obtain ⟨h9, -⟩ := hval
      rw [h9]
      simp only [List.setIfInBounds_toArray, List.set_cons_succ, List.set_cons_zero]
      have hblk4 := hi.2.2.1
      have hB4 := hi.2.2.2
      have hr4 := HR0.out.later hB4
      clear hi h9 HC2 HRF HV HP HE
      have hs4 : w.heap.size < w'.heap.size := hblk4.lt
      clear HB3 hblk3 hB0c hB0r hcr hrc hqc hqr hcB hrB
      go_wp2_with fail
      refine (cNew_any a0 n0 c0 l0 w' HL0.out (by omega) hr4).mono ?_
      rintro e w5 ⟨gc, rfl, hgc, hcur, hb⟩
      have hB5 := below_trans0 hB4 hB4.size hb
      have hr5 := hr4.below hb
      have hblk5 := hblk4.below hb
      have hgl := hcur.lt2
      have href := RefOk.new w5 HL0.out hm0.1 ⟨by omega, by omega⟩ hr5
      have hcur2 := hcur.below (below_alloc w5 (.cells #[.slice a0 n0 c0, .int .i64 0, .int .i64 0] 77))
      have hblk6 := hblk5.below (below_alloc w5 (.cells #[.slice a0 n0 c0, .int .i64 0, .int .i64 0] 77))
      have hB6 := hB5.alloc hB5.size (.cells #[.slice a0 n0 c0, .int .i64 0, .int .i64 0] 77)
      have hs5 : w.heap.size < w5.heap.size := hblk5.lt
      have hs6 : (w5.alloc (.cells #[.slice a0 n0 c0, .int .i64 0, .int .i64 0] 77)).heap.size = w5.heap.size + 1 := by simp
      clear hb hcur hB5 hr4 hr5 hblk4 hblk5 hB4
      obtain ⟨X, hX⟩ : ∃ X, (rdRes b h s d l0 n 0 0).1 = X := ⟨_, rfl⟩
      obtain ⟨P, hP⟩ : ∃ P, (rdRes b h s d l0 n 0 0).2.1 = P := ⟨_, rfl⟩
      obtain ⟨E, hE⟩ : ∃ E, (rdRes b h s d l0 n 0 0).2.2 = E := ⟨_, rfl⟩
      have HX := Lib.hid hX
      have HP := Lib.hid hP
      have HE := Lib.hid hE
      clear hX hP hE
      have HB6 := Lib.hid hB6
      have HC2 := Lib.hid hcur2
      have HRF := Lib.hid href
      clear hB6 hcur2 href
      go_wp2_with fail
      generalize w5.alloc (.cells #[.slice a0 n0 c0, .int .i64 0, .int .i64 0] 77) = w6 at HB6 HC2 HRF hblk6 hs6 ⊢
      generalize w5.heap.size = gr at HRF hs5 hs6 hgl ⊢
      have hB0c : w.heap.size ≤ gc := by omega
      have hB0r : w.heap.size ≤ gr := by omega
      have hcr : gc ≠ gr := by omega
      have hrc : gr ≠ gc := by omega
      have hqc : w.heap.size ≠ gc := by omega
      have hqr : w.heap.size ≠ gr := by omega
      have hcB : gc < w6.heap.size := by omega
      have hrB : gr < w6.heap.size := by omega
      obtain ⟨B, hBB⟩ : ∃ B, B = w6.heap.size := ⟨_, rfl⟩
      rw [← hBB] at hcB hrB
      have hBle : B ≤ w6.heap.size := by omega
      clear hgc hgl hs5 hs6 hs4 hBB
      by_cases hE0 : E = 0
      · subst hE0
        go_wp2_with fail
        refine wp_region_growI (SK B gc gr l0 P 0) (IK w.heap.size w (fun w' => Blk w' w.heap.size 23 #[.int .i64 b, .int .i64 h, .int .i64 s, .int .i64 d] ∧ B ≤ w'.heap.size) gc gr l0 0 0 P 0 3 7) (by kernel_rfl) (by kernel_rfl) (by rfl) ⟨⟨HC2.out.ex⟩, ⟨HRF.out.ex⟩, ⟨hblk6.drew, hBle⟩, HB6.out.drew⟩ ?_
        apply gi_val _ SK.refl (fun L w' _ h => h.set (show (3 : Nat) ≠ 0 by decide) (show (7 : Nat) ≠ 0 by decide))
        · intro a' w' L hL haf hi hk
          refine ⟨wanted_none rfl, ?_⟩
          try simp [Oper.looksAt, Op.operands, Call.operands, KnownAt, List.lookup, consD] at hk
          simp [execOp, Act.eval, hk, go_sem]
          all_goals rfl
        apply gi_val (.agg #[.int .i64 b, .int .i64 h, .int .i64 s, .int .i64 d]) SK.refl (fun L w' _ h => h.set (show (3 : Nat) ≠ 1 by decide) (show (7 : Nat) ≠ 1 by decide))
        · intro a' w' L hL haf hi hk
          refine ⟨wanted_none rfl, ?_⟩
          obtain ⟨hc0, hc1, hc2, hc3⟩ := hi.2.2.1.1.four
          try simp [Oper.looksAt, Op.operands, Call.operands, KnownAt, List.lookup, consD] at hk
          simp [execOp, Act.eval, hk, go_sem, hc0, hc1, hc2, hc3]
          all_goals rfl
        apply gi_val _ SK.refl (fun L w' _ h => h.set (show (3 : Nat) ≠ 2 by decide) (show (7 : Nat) ≠ 2 by decide))
        · intro a' w' L hL haf hi hk
          refine ⟨wanted_none rfl, ?_⟩
          try simp [Oper.looksAt, Op.operands, Call.operands, KnownAt, List.lookup, consD] at hk
          simp [execOp, Act.eval, hk, go_sem]
          all_goals rfl
        refine gi_callX 52 (fun args _ => args = #[.pointer (some ⟨gc, 0, none⟩), .agg #[.int .i64 b, .int .i64 h, .int .i64 s, .int .i64 d], .int .i64 n]) (fun v w => OwnG B 3 iE X v w ∧ CurOk w gc l0 P 0) (monoSK_OC _) ?_ ?_ ?_
        · intro a' w' L hL haf hi hk
          refine ⟨wanted_none rfl, _, rfl, ?_⟩
          try simp [Oper.looksAt, Op.operands, Call.operands, KnownAt, List.lookup, consD] at hk
          simp [execOp, Act.eval, hk, go_sem]
          all_goals rfl
        · rintro w' L args hL haf hi hA
          subst hA
          refine (bReadRow_any gc l0 0 0 b h s d n w' (hi.cur hL) hb0 hh0 hs0 hd0 hn0).mono ?_
          unfold RdPost
          rw [HX.out, HP.out, HE.out]
          rintro e w'' ⟨a9, k9, c9, rfl, hl9, hk9, hown, hc, hg⟩
          have hBw := hi.2.2.1.2
          obtain ⟨h1, h2⟩ := hi.c hc hg (by decide) hrc (fun hb => ⟨hb.1.grown hg (by simp; omega), Nat.le_trans hb.2 hg.size⟩) hB0c (hi.2.2.2.size) hcB
          exact ⟨_, rfl, ⟨⟨a9, k9, c9, rfl, hl9, hk9, hown.mono hBw⟩, hc⟩, h1, h2⟩
        apply gi_val _ SK.refl (fun L w' _ h => h.set (show (3 : Nat) ≠ 4 by decide) (show (7 : Nat) ≠ 4 by decide))
        · intro a' w' L hL haf hi hk
          refine ⟨wanted_none rfl, ?_⟩
          try simp [Oper.looksAt, Op.operands, Call.operands, KnownAt, List.lookup, consD] at hk
          simp [execOp, Act.eval, hk, go_sem]
          all_goals rfl
        apply gi_val (.agg #[.int .i64 b, .int .i64 h, .int .i64 s, .int .i64 d]) SK.refl (fun L w' _ h => h.set (show (3 : Nat) ≠ 5 by decide) (show (7 : Nat) ≠ 5 by decide))
        · intro a' w' L hL haf hi hk
          refine ⟨wanted_none rfl, ?_⟩
          obtain ⟨hc0, hc1, hc2, hc3⟩ := hi.2.2.1.1.four
          try simp [Oper.looksAt, Op.operands, Call.operands, KnownAt, List.lookup, consD] at hk
          simp [execOp, Act.eval, hk, go_sem, hc0, hc1, hc2, hc3]
          all_goals rfl
        apply gi_val _ SK.refl (fun L w' _ h => h.set (show (3 : Nat) ≠ 6 by decide) (show (7 : Nat) ≠ 6 by decide))
        · intro a' w' L hL haf hi hk
          refine ⟨wanted_none rfl, ?_⟩
          try simp [Oper.looksAt, Op.operands, Call.operands, KnownAt, List.lookup, consD] at hk
          simp [execOp, Act.eval, hk, go_sem]
          all_goals rfl
        refine gi_callX 53 (fun args _ => args = #[.pointer (some ⟨gr, 0, none⟩), .agg #[.int .i64 b, .int .i64 h, .int .i64 s, .int .i64 d], .int .i64 n]) (fun v w => OwnG B 3 iE X v w ∧ RefOk w gr l0 P 0) (monoSK_OR _) ?_ ?_ ?_
        · intro a' w' L hL haf hi hk
          refine ⟨wanted_none rfl, _, rfl, ?_⟩
          try simp [Oper.looksAt, Op.operands, Call.operands, KnownAt, List.lookup, consD] at hk
          simp [execOp, Act.eval, hk, go_sem]
          all_goals rfl
        · rintro w' L args hL haf hi hA
          subst hA
          refine (rReadRow_any gr l0 0 0 b h s d n w' (hi.ref hL) hb0 hh0 hs0 hd0 hn0).mono ?_
          unfold RRdPost
          rw [HX.out, HP.out, HE.out]
          rintro e w'' ⟨a9, k9, c9, rfl, hl9, hk9, hown, hc, hg⟩
          have hBw := hi.2.2.1.2
          obtain ⟨h1, h2⟩ := hi.r hc hg (by decide) hcr (fun hb => ⟨hb.1.grown hg (by simp; omega), Nat.le_trans hb.2 hg.size⟩) hB0r (hi.2.2.2.size) hrB
          exact ⟨_, rfl, ⟨⟨a9, k9, c9, rfl, hl9, hk9, hown.mono hBw⟩, hc⟩, h1, h2⟩
        refine gi_callX 51 (fun args w => (∃ a1 k1 c1 a2 k2 c2, args = #[.slice a1 k1 c1, .slice a2 k2 c2] ∧ X.length = k1 ∧ X.length = k2 ∧ k1 ≤ 1000000000001 ∧ k2 ≤ 1000000000001 ∧ Rd w iE a1 X ∧ Rd w iE a2 X) ∧ KK gc gr l0 P 0 w) (fun v w => v = .bool true ∧ KK gc gr l0 P 0 w) (monoSK_K _) ?_ ?_ ?_
        · intro a' w' L hL haf hi hk
          obtain ⟨⟨a1, k1, c1, e1, l1, m1, o1⟩, h61⟩ := known_of (hk 61 (by decide)) rfl
          obtain ⟨⟨a2, k2, c2, e2, l2, m2, o2⟩, h65⟩ := known_of (hk 65 (by decide)) rfl
          clear hk
          have hk := And.intro e1 e2
          refine ⟨wanted_none rfl, _, ⟨⟨a1, k1, c1, a2, k2, c2, rfl, l1, l2, m1, m2, o1.rd, o2.rd⟩, h61, h65⟩, ?_⟩
          try simp [Oper.looksAt, Op.operands, Call.operands, KnownAt, List.lookup, consD] at hk
          simp [execOp, Act.eval, hk, go_sem]
          all_goals rfl
        · rintro w' L args hL haf hi hA
          obtain ⟨⟨a1, k1, c1, a2, k2, c2, rfl, l1, l2, m1, m2, o1, o2⟩, hK⟩ := hA
          refine (same24_any a1 k1 c1 X a2 k2 c2 X w' l1 l2 m1 m2 o1 o2).mono ?_
          rintro e w'' ⟨rfl, hb⟩
          obtain ⟨h1, h2⟩ := hi.b (k := 8) hb (by decide) (by decide) (fun hx => ⟨hx.1.below hb, Nat.le_trans hx.2 hb.size⟩) hi.2.2.2.size
          exact ⟨_, rfl, ⟨by rw [decide_eq_true rfl], h1.2.2.1 hK.1, h1.2.2.2 hK.2⟩, h1, h2⟩
        refine gi_valX (fun v w => v = .bool true ∧ KK gc gr l0 P 0 w) (monoSK_K _) SK.refl (fun L w' _ h => h.set (show (3 : Nat) ≠ 9 by decide) (show (7 : Nat) ≠ 9 by decide)) ?_ ?_
        · intro a' w' L hL haf hi hk
          have hK : KK gc gr l0 P 0 w' := (known_of (hk 66 (by decide)) rfl).2
          refine ⟨wanted_none rfl, .bool true, ?_, rfl, hK⟩
          try simp [Oper.looksAt, Op.operands, Call.operands, KnownAt, List.lookup, consD] at hk
          simp [execOp, Act.eval, hk, go_sem]
          all_goals rfl
        apply gi_val _ SK.refl (fun L w' _ h => h.set (show (3 : Nat) ≠ 10 by decide) (show (7 : Nat) ≠ 10 by decide))
        · intro a' w' L hL haf hi hk
          refine ⟨wanted_guard (t := 67) rfl rfl (known_of (hk 67 (by decide)) rfl).1, ?_⟩
          try simp [Oper.looksAt, Op.operands, Call.operands, KnownAt, List.lookup, consD] at hk
          simp [execOp, Act.eval, hk, go_sem]
          all_goals rfl
        refine gi_callX 49 (fun args w => args = #[.pointer (some ⟨gc, 0, none⟩)] ∧ KK gc gr l0 P 0 w) (fun v _ => v = .int .i64 0) (monoSK_eq _) ?_ ?_ ?_
        · intro a' w' L hL haf hi hk
          have hK : KK gc gr l0 P 0 w' := (known_of (hk 67 (by decide)) rfl).2
          refine ⟨wanted_guard (t := 67) rfl rfl (known_of (hk 67 (by decide)) rfl).1, _, ⟨rfl, hK⟩, ?_⟩
          try simp [Oper.looksAt, Op.operands, Call.operands, KnownAt, List.lookup, consD] at hk
          simp [execOp, Act.eval, hk, go_sem]
          all_goals rfl
        · rintro w' L args hL haf hi hA
          obtain ⟨rfl, hK⟩ := hA
          refine (cErr_any gc l0 P 0 w' hK.1).mono ?_
          rintro e w'' ⟨rfl, rfl⟩
          exact ⟨_, rfl, rfl, SK.refl _, hi.set (by decide) (by decide)⟩
        apply gi_val _ SK.refl (fun L w' _ h => h.set (show (3 : Nat) ≠ 12 by decide) (show (7 : Nat) ≠ 12 by decide))
        · intro a' w' L hL haf hi hk
          refine ⟨wanted_guard (t := 67) rfl rfl (known_of (hk 67 (by decide)) rfl).1, ?_⟩
          try simp [Oper.looksAt, Op.operands, Call.operands, KnownAt, List.lookup, consD] at hk
          simp [execOp, Act.eval, hk, go_sem]
          all_goals rfl
        apply gi_val _ SK.refl (fun L w' _ h => h.set (show (3 : Nat) ≠ 13 by decide) (show (7 : Nat) ≠ 13 by decide))
        · intro a' w' L hL haf hi hk
          refine ⟨wanted_guard (t := 67) rfl rfl (known_of (hk 67 (by decide)) rfl).1, ?_⟩
          try simp [Oper.looksAt, Op.operands, Call.operands, KnownAt, List.lookup, consD] at hk
          simp [execOp, Act.eval, hk, go_sem]
          all_goals rfl
        apply gi_val _ SK.refl (fun L w' _ h => h.set (show (3 : Nat) ≠ 14 by decide) (show (7 : Nat) ≠ 14 by decide))
        · intro a' w' L hL haf hi hk
          refine ⟨wanted_guard (t := 67) rfl rfl (known_of (hk 67 (by decide)) rfl).1, ?_⟩
          try simp [Oper.looksAt, Op.operands, Call.operands, KnownAt, List.lookup, consD] at hk
          simp [execOp, Act.eval, hk, go_sem]
          all_goals rfl
        apply gi_val (.int .i64 0) SK.refl (fun L w' _ h => h.set (show (3 : Nat) ≠ 15 by decide) (show (7 : Nat) ≠ 15 by decide))
        · intro a' w' L hL haf hi hk
          have hK : KK gc gr l0 P 0 w' := (known_of (hk 67 (by decide)) rfl).2
          refine ⟨wanted_guard (t := 67) rfl rfl (known_of (hk 67 (by decide)) rfl).1, ?_⟩
          have hc := hK.2.cell2
          try simp [Oper.looksAt, Op.operands, Call.operands, KnownAt, List.lookup, consD] at hk
          simp [execOp, Act.eval, hk, go_sem, hc]
          all_goals rfl
        apply gi_val _ SK.refl (fun L w' _ h => h.set (show (3 : Nat) ≠ 16 by decide) (show (7 : Nat) ≠ 16 by decide))
        · intro a' w' L hL haf hi hk
          refine ⟨wanted_guard (t := 67) rfl rfl (known_of (hk 67 (by decide)) rfl).1, ?_⟩
          try simp [Oper.looksAt, Op.operands, Call.operands, KnownAt, List.lookup, consD] at hk
          simp [execOp, Act.eval, hk, go_sem]
          all_goals rfl
        refine gi_valX (fun v w => v = .bool true ∧ KK gc gr l0 P 0 w) (monoSK_K _) SK.refl (fun L w' _ h => h.set (show (3 : Nat) ≠ 17 by decide) (show (7 : Nat) ≠ 17 by decide)) ?_ ?_
        · intro a' w' L hL haf hi hk
          have hK : KK gc gr l0 P 0 w' := (known_of (hk 67 (by decide)) rfl).2
          refine ⟨wanted_none rfl, .bool true, ?_, rfl, hK⟩
          try simp [Oper.looksAt, Op.operands, Call.operands, KnownAt, List.lookup, consD] at hk
          simp [execOp, Act.eval, hk, go_sem]
          all_goals rfl
        refine gi_valX (fun v w => v = .bool true ∧ KK gc gr l0 P 0 w) (monoSK_K _) SK.refl (fun L w' _ h => h.set (show (3 : Nat) ≠ 18 by decide) (show (7 : Nat) ≠ 18 by decide)) ?_ ?_
        · intro a' w' L hL haf hi hk
          have hK : KK gc gr l0 P 0 w' := (known_of (hk 75 (by decide)) rfl).2
          refine ⟨wanted_none rfl, .bool true, ?_, rfl, hK⟩
          try simp [Oper.looksAt, Op.operands, Call.operands, KnownAt, List.lookup, consD] at hk
          simp [execOp, Act.eval, hk, go_sem]
          all_goals rfl
        apply gi_val _ SK.refl (fun L w' _ h => h.set (show (3 : Nat) ≠ 19 by decide) (show (7 : Nat) ≠ 19 by decide))
        · intro a' w' L hL haf hi hk
          refine ⟨wanted_guard (t := 76) rfl rfl (known_of (hk 76 (by decide)) rfl).1, ?_⟩
          try simp [Oper.looksAt, Op.operands, Call.operands, KnownAt, List.lookup, consD] at hk
          simp [execOp, Act.eval, hk, go_sem]
          all_goals rfl
        apply gi_val _ SK.refl (fun L w' _ h => h.set (show (3 : Nat) ≠ 20 by decide) (show (7 : Nat) ≠ 20 by decide))
        · intro a' w' L hL haf hi hk
          refine ⟨wanted_guard (t := 76) rfl rfl (known_of (hk 76 (by decide)) rfl).1, ?_⟩
          try simp [Oper.looksAt, Op.operands, Call.operands, KnownAt, List.lookup, consD] at hk
          simp [execOp, Act.eval, hk, go_sem]
          all_goals rfl
        apply gi_val _ SK.refl (fun L w' _ h => h.set (show (3 : Nat) ≠ 21 by decide) (show (7 : Nat) ≠ 21 by decide))
        · intro a' w' L hL haf hi hk
          refine ⟨wanted_guard (t := 76) rfl rfl (known_of (hk 76 (by decide)) rfl).1, ?_⟩
          try simp [Oper.looksAt, Op.operands, Call.operands, KnownAt, List.lookup, consD] at hk
          simp [execOp, Act.eval, hk, go_sem]
          all_goals rfl
        apply gi_val (.int .i64 0) SK.refl (fun L w' _ h => h.set (show (3 : Nat) ≠ 22 by decide) (show (7 : Nat) ≠ 22 by decide))
        · intro a' w' L hL haf hi hk
          have hK : KK gc gr l0 P 0 w' := (known_of (hk 76 (by decide)) rfl).2
          refine ⟨wanted_guard (t := 76) rfl rfl (known_of (hk 76 (by decide)) rfl).1, ?_⟩
          have hc := hK.2.cell2
          try simp [Oper.looksAt, Op.operands, Call.operands, KnownAt, List.lookup, consD] at hk
          simp [execOp, Act.eval, hk, go_sem, hc]
          all_goals rfl
        apply gi_val _ SK.refl (fun L w' _ h => h.set (show (3 : Nat) ≠ 23 by decide) (show (7 : Nat) ≠ 23 by decide))
        · intro a' w' L hL haf hi hk
          refine ⟨wanted_guard (t := 76) rfl rfl (known_of (hk 76 (by decide)) rfl).1, ?_⟩
          try simp [Oper.looksAt, Op.operands, Call.operands, KnownAt, List.lookup, consD] at hk
          simp [execOp, Act.eval, hk, go_sem]
          all_goals rfl
        refine gi_valX (fun v w => v = .bool false ∧ KK gc gr l0 P 0 w) (monoSK_K _) SK.refl (fun L w' _ h => h.set (show (3 : Nat) ≠ 24 by decide) (show (7 : Nat) ≠ 24 by decide)) ?_ ?_
        · intro a' w' L hL haf hi hk
          have hK : KK gc gr l0 P 0 w' := (known_of (hk 76 (by decide)) rfl).2
          refine ⟨wanted_guard (t := 76) rfl rfl (known_of (hk 76 (by decide)) rfl).1, .bool false, ?_, rfl, hK⟩
          try simp [Oper.looksAt, Op.operands, Call.operands, KnownAt, List.lookup, consD] at hk
          simp [execOp, Act.eval, hk, go_sem]
          all_goals rfl
        apply gi_val _ SK.refl (fun L w' _ h => h.set (show (3 : Nat) ≠ 25 by decide) (show (7 : Nat) ≠ 25 by decide))
        · intro a' w' L hL haf hi hk
          refine ⟨wanted_guard (t := 82) rfl rfl (known_of (hk 82 (by decide)) rfl).1, ?_⟩
          try simp [Oper.looksAt, Op.operands, Call.operands, KnownAt, List.lookup, consD] at hk
          simp [execOp, Act.eval, hk, go_sem]
          all_goals rfl
        refine gi_callX 50 (fun args w => args = #[.pointer (some ⟨gc, 0, none⟩)] ∧ KK gc gr l0 P 0 w) (fun v _ => v = .int .i64 (P : Int)) (monoSK_eq _) ?_ ?_ ?_
        · intro a' w' L hL haf hi hk
          have hK : KK gc gr l0 P 0 w' := (known_of (hk 82 (by decide)) rfl).2
          refine ⟨wanted_guard (t := 82) rfl rfl (known_of (hk 82 (by decide)) rfl).1, _, ⟨rfl, hK⟩, ?_⟩
          try simp [Oper.looksAt, Op.operands, Call.operands, KnownAt, List.lookup, consD] at hk
          simp [execOp, Act.eval, hk, go_sem]
          all_goals rfl
        · rintro w' L args hL haf hi hA
          obtain ⟨rfl, hK⟩ := hA
          refine (cAt_any gc l0 P 0 w' hK.1).mono ?_
          rintro e w'' ⟨rfl, rfl⟩
          exact ⟨_, rfl, rfl, SK.refl _, hi.set (by decide) (by decide)⟩
        apply gi_val _ SK.refl (fun L w' _ h => h.set (show (3 : Nat) ≠ 27 by decide) (show (7 : Nat) ≠ 27 by decide))
        · intro a' w' L hL haf hi hk
          refine ⟨wanted_guard (t := 82) rfl rfl (known_of (hk 82 (by decide)) rfl).1, ?_⟩
          try simp [Oper.looksAt, Op.operands, Call.operands, KnownAt, List.lookup, consD] at hk
          simp [execOp, Act.eval, hk, go_sem]
          all_goals rfl
        apply gi_val _ SK.refl (fun L w' _ h => h.set (show (3 : Nat) ≠ 28 by decide) (show (7 : Nat) ≠ 28 by decide))
        · intro a' w' L hL haf hi hk
          refine ⟨wanted_guard (t := 82) rfl rfl (known_of (hk 82 (by decide)) rfl).1, ?_⟩
          try simp [Oper.looksAt, Op.operands, Call.operands, KnownAt, List.lookup, consD] at hk
          simp [execOp, Act.eval, hk, go_sem]
          all_goals rfl
        apply gi_val _ SK.refl (fun L w' _ h => h.set (show (3 : Nat) ≠ 29 by decide) (show (7 : Nat) ≠ 29 by decide))
        · intro a' w' L hL haf hi hk
          refine ⟨wanted_guard (t := 82) rfl rfl (known_of (hk 82 (by decide)) rfl).1, ?_⟩
          try simp [Oper.looksAt, Op.operands, Call.operands, KnownAt, List.lookup, consD] at hk
          simp [execOp, Act.eval, hk, go_sem]
          all_goals rfl
        apply gi_val (.int .i64 (P : Int)) SK.refl (fun L w' _ h => h.set (show (3 : Nat) ≠ 30 by decide) (show (7 : Nat) ≠ 30 by decide))
        · intro a' w' L hL haf hi hk
          have hK : KK gc gr l0 P 0 w' := (known_of (hk 82 (by decide)) rfl).2
          refine ⟨wanted_guard (t := 82) rfl rfl (known_of (hk 82 (by decide)) rfl).1, ?_⟩
          have hc := hK.2.cell1
          try simp [Oper.looksAt, Op.operands, Call.operands, KnownAt, List.lookup, consD] at hk
          simp [execOp, Act.eval, hk, go_sem, hc]
          all_goals rfl
        apply gi_val _ SK.refl (fun L w' _ h => h.set (show (3 : Nat) ≠ 31 by decide) (show (7 : Nat) ≠ 31 by decide))
        · intro a' w' L hL haf hi hk
          refine ⟨wanted_guard (t := 82) rfl rfl (known_of (hk 82 (by decide)) rfl).1, ?_⟩
          try simp [Oper.looksAt, Op.operands, Call.operands, KnownAt, List.lookup, consD] at hk
          simp [execOp, Act.eval, hk, go_sem]
          all_goals rfl
        apply gi_val _ SK.refl (fun L w' _ h => h.set (show (3 : Nat) ≠ 32 by decide) (show (7 : Nat) ≠ 32 by decide))
        · intro a' w' L hL haf hi hk
          refine ⟨wanted_guard (t := 76) rfl rfl (known_of (hk 76 (by decide)) rfl).1, ?_⟩
          try simp [Oper.looksAt, Op.operands, Call.operands, KnownAt, List.lookup, consD] at hk
          simp [execOp, Act.eval, hk, go_sem]
          all_goals rfl
        apply gi_val _ SK.refl (fun L w' _ h => h.set (show (3 : Nat) ≠ 33 by decide) (show (7 : Nat) ≠ 33 by decide))
        · intro a' w' L hL haf hi hk
          refine ⟨wanted_none rfl, ?_⟩
          try simp [Oper.looksAt, Op.operands, Call.operands, KnownAt, List.lookup, consD] at hk
          simp [execOp, Act.eval, hk, go_sem]
          all_goals rfl
        apply gi_val _ SK.refl (fun L w' _ h => h.set (show (3 : Nat) ≠ 34 by decide) (show (7 : Nat) ≠ 34 by decide))
        · intro a' w' L hL haf hi hk
          refine ⟨wanted_none rfl, ?_⟩
          try simp [Oper.looksAt, Op.operands, Call.operands, KnownAt, List.lookup, consD] at hk
          simp [execOp, Act.eval, hk, go_sem]
          all_goals rfl
        intro vs w' L hall hi hval
        simp only [AllS, consD] at hval
        simp only [consD, putAllS, Act.put]
        obtain ⟨h9, -⟩ := hval
        rw [h9]
        simp only [List.setIfInBounds_toArray, List.set_cons_succ, List.set_cons_zero]
        have hB9 := hi.2.2.2
        clear hi h9
        go_wp2
        go_ret
        exact ⟨rfl, hB9⟩
      · have hE1 : (E == 0) = false := beq_eq_false_iff_ne.2 hE0
        have hE2 : (E != 0) = true := bne_iff_ne.2 hE0
        go_wp2_with fail
        refine wp_region_growI (SK B gc gr l0 P E) (IK w.heap.size w (fun w' => Blk w' w.heap.size 23 #[.int .i64 b, .int .i64 h, .int .i64 s, .int .i64 d] ∧ B ≤ w'.heap.size) gc gr l0 0 0 P E 3 7) (by kernel_rfl) (by kernel_rfl) (by rfl) ⟨⟨HC2.out.ex⟩, ⟨HRF.out.ex⟩, ⟨hblk6.drew, hBle⟩, HB6.out.drew⟩ ?_
        apply gi_val _ SK.refl (fun L w' _ h => h.set (show (3 : Nat) ≠ 0 by decide) (show (7 : Nat) ≠ 0 by decide))
        · intro a' w' L hL haf hi hk
          refine ⟨wanted_none rfl, ?_⟩
          try simp [Oper.looksAt, Op.operands, Call.operands, KnownAt, List.lookup, consD] at hk
          simp [execOp, Act.eval, hk, go_sem]
          all_goals rfl
        apply gi_val (.agg #[.int .i64 b, .int .i64 h, .int .i64 s, .int .i64 d]) SK.refl (fun L w' _ h => h.set (show (3 : Nat) ≠ 1 by decide) (show (7 : Nat) ≠ 1 by decide))
        · intro a' w' L hL haf hi hk
          refine ⟨wanted_none rfl, ?_⟩
          obtain ⟨hc0, hc1, hc2, hc3⟩ := hi.2.2.1.1.four
          try simp [Oper.looksAt, Op.operands, Call.operands, KnownAt, List.lookup, consD] at hk
          simp [execOp, Act.eval, hk, go_sem, hc0, hc1, hc2, hc3]
          all_goals rfl
        apply gi_val _ SK.refl (fun L w' _ h => h.set (show (3 : Nat) ≠ 2 by decide) (show (7 : Nat) ≠ 2 by decide))
        · intro a' w' L hL haf hi hk
          refine ⟨wanted_none rfl, ?_⟩
          try simp [Oper.looksAt, Op.operands, Call.operands, KnownAt, List.lookup, consD] at hk
          simp [execOp, Act.eval, hk, go_sem]
          all_goals rfl
        refine gi_callX 52 (fun args _ => args = #[.pointer (some ⟨gc, 0, none⟩), .agg #[.int .i64 b, .int .i64 h, .int .i64 s, .int .i64 d], .int .i64 n]) (fun v w => OwnG B 3 iE X v w ∧ CurOk w gc l0 P E) (monoSK_OC _) ?_ ?_ ?_
        · intro a' w' L hL haf hi hk
          refine ⟨wanted_none rfl, _, rfl, ?_⟩
          try simp [Oper.looksAt, Op.operands, Call.operands, KnownAt, List.lookup, consD] at hk
          simp [execOp, Act.eval, hk, go_sem]
          all_goals rfl
        · rintro w' L args hL haf hi hA
          subst hA
          refine (bReadRow_any gc l0 0 0 b h s d n w' (hi.cur hL) hb0 hh0 hs0 hd0 hn0).mono ?_
          unfold RdPost
          rw [HX.out, HP.out, HE.out]
          rintro e w'' ⟨a9, k9, c9, rfl, hl9, hk9, hown, hc, hg⟩
          have hBw := hi.2.2.1.2
          obtain ⟨h1, h2⟩ := hi.c hc hg (by decide) hrc (fun hb => ⟨hb.1.grown hg (by simp; omega), Nat.le_trans hb.2 hg.size⟩) hB0c (hi.2.2.2.size) hcB
          exact ⟨_, rfl, ⟨⟨a9, k9, c9, rfl, hl9, hk9, hown.mono hBw⟩, hc⟩, h1, h2⟩
        apply gi_val _ SK.refl (fun L w' _ h => h.set (show (3 : Nat) ≠ 4 by decide) (show (7 : Nat) ≠ 4 by decide))
        · intro a' w' L hL haf hi hk
          refine ⟨wanted_none rfl, ?_⟩
          try simp [Oper.looksAt, Op.operands, Call.operands, KnownAt, List.lookup, consD] at hk
          simp [execOp, Act.eval, hk, go_sem]
          all_goals rfl
        apply gi_val (.agg #[.int .i64 b, .int .i64 h, .int .i64 s, .int .i64 d]) SK.refl (fun L w' _ h => h.set (show (3 : Nat) ≠ 5 by decide) (show (7 : Nat) ≠ 5 by decide))
        · intro a' w' L hL haf hi hk
          refine ⟨wanted_none rfl, ?_⟩
          obtain ⟨hc0, hc1, hc2, hc3⟩ := hi.2.2.1.1.four
          try simp [Oper.looksAt, Op.operands, Call.operands, KnownAt, List.lookup, consD] at hk
          simp [execOp, Act.eval, hk, go_sem, hc0, hc1, hc2, hc3]
          all_goals rfl
        apply gi_val _ SK.refl (fun L w' _ h => h.set (show (3 : Nat) ≠ 6 by decide) (show (7 : Nat) ≠ 6 by decide))
        · intro a' w' L hL haf hi hk
          refine ⟨wanted_none rfl, ?_⟩
          try simp [Oper.looksAt, Op.operands, Call.operands, KnownAt, List.lookup, consD] at hk
          simp [execOp, Act.eval, hk, go_sem]
          all_goals rfl
        refine gi_callX 53 (fun args _ => args = #[.pointer (some ⟨gr, 0, none⟩), .agg #[.int .i64 b, .int .i64 h, .int .i64 s, .int .i64 d], .int .i64 n]) (fun v w => OwnG B 3 iE X v w ∧ RefOk w gr l0 P E) (monoSK_OR _) ?_ ?_ ?_
        · intro a' w' L hL haf hi hk
          refine ⟨wanted_none rfl, _, rfl, ?_⟩
          try simp [Oper.looksAt, Op.operands, Call.operands, KnownAt, List.lookup, consD] at hk
          simp [execOp, Act.eval, hk, go_sem]
          all_goals rfl
        · rintro w' L args hL haf hi hA
          subst hA
          refine (rReadRow_any gr l0 0 0 b h s d n w' (hi.ref hL) hb0 hh0 hs0 hd0 hn0).mono ?_
          unfold RRdPost
          rw [HX.out, HP.out, HE.out]
          rintro e w'' ⟨a9, k9, c9, rfl, hl9, hk9, hown, hc, hg⟩
          have hBw := hi.2.2.1.2
          obtain ⟨h1, h2⟩ := hi.r hc hg (by decide) hcr (fun hb => ⟨hb.1.grown hg (by simp; omega), Nat.le_trans hb.2 hg.size⟩) hB0r (hi.2.2.2.size) hrB
          exact ⟨_, rfl, ⟨⟨a9, k9, c9, rfl, hl9, hk9, hown.mono hBw⟩, hc⟩, h1, h2⟩
        refine gi_callX 51 (fun args w => (∃ a1 k1 c1 a2 k2 c2, args = #[.slice a1 k1 c1, .slice a2 k2 c2] ∧ X.length = k1 ∧ X.length = k2 ∧ k1 ≤ 1000000000001 ∧ k2 ≤ 1000000000001 ∧ Rd w iE a1 X ∧ Rd w iE a2 X) ∧ KK gc gr l0 P E w) (fun v w => v = .bool true ∧ KK gc gr l0 P E w) (monoSK_K _) ?_ ?_ ?_
        · intro a' w' L hL haf hi hk
          obtain ⟨⟨a1, k1, c1, e1, l1, m1, o1⟩, h61⟩ := known_of (hk 61 (by decide)) rfl
          obtain ⟨⟨a2, k2, c2, e2, l2, m2, o2⟩, h65⟩ := known_of (hk 65 (by decide)) rfl
          clear hk
          have hk := And.intro e1 e2
          refine ⟨wanted_none rfl, _, ⟨⟨a1, k1, c1, a2, k2, c2, rfl, l1, l2, m1, m2, o1.rd, o2.rd⟩, h61, h65⟩, ?_⟩
          try simp [Oper.looksAt, Op.operands, Call.operands, KnownAt, List.lookup, consD] at hk
          simp [execOp, Act.eval, hk, go_sem]
          all_goals rfl
        · rintro w' L args hL haf hi hA
          obtain ⟨⟨a1, k1, c1, a2, k2, c2, rfl, l1, l2, m1, m2, o1, o2⟩, hK⟩ := hA
          refine (same24_any a1 k1 c1 X a2 k2 c2 X w' l1 l2 m1 m2 o1 o2).mono ?_
          rintro e w'' ⟨rfl, hb⟩
          obtain ⟨h1, h2⟩ := hi.b (k := 8) hb (by decide) (by decide) (fun hx => ⟨hx.1.below hb, Nat.le_trans hx.2 hb.size⟩) hi.2.2.2.size
          exact ⟨_, rfl, ⟨by rw [decide_eq_true rfl], h1.2.2.1 hK.1, h1.2.2.2 hK.2⟩, h1, h2⟩
        refine gi_valX (fun v w => v = .bool true ∧ KK gc gr l0 P E w) (monoSK_K _) SK.refl (fun L w' _ h => h.set (show (3 : Nat) ≠ 9 by decide) (show (7 : Nat) ≠ 9 by decide)) ?_ ?_
        · intro a' w' L hL haf hi hk
          have hK : KK gc gr l0 P E w' := (known_of (hk 66 (by decide)) rfl).2
          refine ⟨wanted_none rfl, .bool true, ?_, rfl, hK⟩
          try simp [Oper.looksAt, Op.operands, Call.operands, KnownAt, List.lookup, consD] at hk
          simp [execOp, Act.eval, hk, go_sem]
          all_goals rfl
        apply gi_val _ SK.refl (fun L w' _ h => h.set (show (3 : Nat) ≠ 10 by decide) (show (7 : Nat) ≠ 10 by decide))
        · intro a' w' L hL haf hi hk
          refine ⟨wanted_guard (t := 67) rfl rfl (known_of (hk 67 (by decide)) rfl).1, ?_⟩
          try simp [Oper.looksAt, Op.operands, Call.operands, KnownAt, List.lookup, consD] at hk
          simp [execOp, Act.eval, hk, go_sem]
          all_goals rfl
        refine gi_callX 49 (fun args w => args = #[.pointer (some ⟨gc, 0, none⟩)] ∧ KK gc gr l0 P E w) (fun v _ => v = .int .i64 E) (monoSK_eq _) ?_ ?_ ?_
        · intro a' w' L hL haf hi hk
          have hK : KK gc gr l0 P E w' := (known_of (hk 67 (by decide)) rfl).2
          refine ⟨wanted_guard (t := 67) rfl rfl (known_of (hk 67 (by decide)) rfl).1, _, ⟨rfl, hK⟩, ?_⟩
          try simp [Oper.looksAt, Op.operands, Call.operands, KnownAt, List.lookup, consD] at hk
          simp [execOp, Act.eval, hk, go_sem]
          all_goals rfl
        · rintro w' L args hL haf hi hA
          obtain ⟨rfl, hK⟩ := hA
          refine (cErr_any gc l0 P E w' hK.1).mono ?_
          rintro e w'' ⟨rfl, rfl⟩
          exact ⟨_, rfl, rfl, SK.refl _, hi.set (by decide) (by decide)⟩
        apply gi_val _ SK.refl (fun L w' _ h => h.set (show (3 : Nat) ≠ 12 by decide) (show (7 : Nat) ≠ 12 by decide))
        · intro a' w' L hL haf hi hk
          refine ⟨wanted_guard (t := 67) rfl rfl (known_of (hk 67 (by decide)) rfl).1, ?_⟩
          try simp [Oper.looksAt, Op.operands, Call.operands, KnownAt, List.lookup, consD] at hk
          simp [execOp, Act.eval, hk, go_sem]
          all_goals rfl
        apply gi_val _ SK.refl (fun L w' _ h => h.set (show (3 : Nat) ≠ 13 by decide) (show (7 : Nat) ≠ 13 by decide))
        · intro a' w' L hL haf hi hk
          refine ⟨wanted_guard (t := 67) rfl rfl (known_of (hk 67 (by decide)) rfl).1, ?_⟩
          try simp [Oper.looksAt, Op.operands, Call.operands, KnownAt, List.lookup, consD] at hk
          simp [execOp, Act.eval, hk, go_sem]
          all_goals rfl
        apply gi_val _ SK.refl (fun L w' _ h => h.set (show (3 : Nat) ≠ 14 by decide) (show (7 : Nat) ≠ 14 by decide))
        · intro a' w' L hL haf hi hk
          refine ⟨wanted_guard (t := 67) rfl rfl (known_of (hk 67 (by decide)) rfl).1, ?_⟩
          try simp [Oper.looksAt, Op.operands, Call.operands, KnownAt, List.lookup, consD] at hk
          simp [execOp, Act.eval, hk, go_sem]
          all_goals rfl
        apply gi_val (.int .i64 E) SK.refl (fun L w' _ h => h.set (show (3 : Nat) ≠ 15 by decide) (show (7 : Nat) ≠ 15 by decide))
        · intro a' w' L hL haf hi hk
          have hK : KK gc gr l0 P E w' := (known_of (hk 67 (by decide)) rfl).2
          refine ⟨wanted_guard (t := 67) rfl rfl (known_of (hk 67 (by decide)) rfl).1, ?_⟩
          have hc := hK.2.cell2
          try simp [Oper.looksAt, Op.operands, Call.operands, KnownAt, List.lookup, consD] at hk
          simp [execOp, Act.eval, hk, go_sem, hc]
          all_goals rfl
        apply gi_val _ SK.refl (fun L w' _ h => h.set (show (3 : Nat) ≠ 16 by decide) (show (7 : Nat) ≠ 16 by decide))
        · intro a' w' L hL haf hi hk
          refine ⟨wanted_guard (t := 67) rfl rfl (known_of (hk 67 (by decide)) rfl).1, ?_⟩
          try simp [Oper.looksAt, Op.operands, Call.operands, KnownAt, List.lookup, consD] at hk
          simp [execOp, Act.eval, hk, go_sem]
          all_goals rfl
        refine gi_valX (fun v w => v = .bool true ∧ KK gc gr l0 P E w) (monoSK_K _) SK.refl (fun L w' _ h => h.set (show (3 : Nat) ≠ 17 by decide) (show (7 : Nat) ≠ 17 by decide)) ?_ ?_
        · intro a' w' L hL haf hi hk
          have hK : KK gc gr l0 P E w' := (known_of (hk 67 (by decide)) rfl).2
          refine ⟨wanted_none rfl, .bool true, ?_, rfl, hK⟩
          try simp [Oper.looksAt, Op.operands, Call.operands, KnownAt, List.lookup, consD] at hk
          simp [execOp, Act.eval, hk, go_sem]
          all_goals rfl
        refine gi_valX (fun v w => v = .bool true ∧ KK gc gr l0 P E w) (monoSK_K _) SK.refl (fun L w' _ h => h.set (show (3 : Nat) ≠ 18 by decide) (show (7 : Nat) ≠ 18 by decide)) ?_ ?_
        · intro a' w' L hL haf hi hk
          have hK : KK gc gr l0 P E w' := (known_of (hk 75 (by decide)) rfl).2
          refine ⟨wanted_none rfl, .bool true, ?_, rfl, hK⟩
          try simp [Oper.looksAt, Op.operands, Call.operands, KnownAt, List.lookup, consD] at hk
          simp [execOp, Act.eval, hk, go_sem]
          all_goals rfl
        apply gi_val _ SK.refl (fun L w' _ h => h.set (show (3 : Nat) ≠ 19 by decide) (show (7 : Nat) ≠ 19 by decide))
        · intro a' w' L hL haf hi hk
          refine ⟨wanted_guard (t := 76) rfl rfl (known_of (hk 76 (by decide)) rfl).1, ?_⟩
          try simp [Oper.looksAt, Op.operands, Call.operands, KnownAt, List.lookup, consD] at hk
          simp [execOp, Act.eval, hk, go_sem]
          all_goals rfl
        apply gi_val _ SK.refl (fun L w' _ h => h.set (show (3 : Nat) ≠ 20 by decide) (show (7 : Nat) ≠ 20 by decide))
        · intro a' w' L hL haf hi hk
          refine ⟨wanted_guard (t := 76) rfl rfl (known_of (hk 76 (by decide)) rfl).1, ?_⟩
          try simp [Oper.looksAt, Op.operands, Call.operands, KnownAt, List.lookup, consD] at hk
          simp [execOp, Act.eval, hk, go_sem]
          all_goals rfl
        apply gi_val _ SK.refl (fun L w' _ h => h.set (show (3 : Nat) ≠ 21 by decide) (show (7 : Nat) ≠ 21 by decide))
        · intro a' w' L hL haf hi hk
          refine ⟨wanted_guard (t := 76) rfl rfl (known_of (hk 76 (by decide)) rfl).1, ?_⟩
          try simp [Oper.looksAt, Op.operands, Call.operands, KnownAt, List.lookup, consD] at hk
          simp [execOp, Act.eval, hk, go_sem]
          all_goals rfl
        apply gi_val (.int .i64 E) SK.refl (fun L w' _ h => h.set (show (3 : Nat) ≠ 22 by decide) (show (7 : Nat) ≠ 22 by decide))
        · intro a' w' L hL haf hi hk
          have hK : KK gc gr l0 P E w' := (known_of (hk 76 (by decide)) rfl).2
          refine ⟨wanted_guard (t := 76) rfl rfl (known_of (hk 76 (by decide)) rfl).1, ?_⟩
          have hc := hK.2.cell2
          try simp [Oper.looksAt, Op.operands, Call.operands, KnownAt, List.lookup, consD] at hk
          simp [execOp, Act.eval, hk, go_sem, hc]
          all_goals rfl
        apply gi_val _ SK.refl (fun L w' _ h => h.set (show (3 : Nat) ≠ 23 by decide) (show (7 : Nat) ≠ 23 by decide))
        · intro a' w' L hL haf hi hk
          refine ⟨wanted_guard (t := 76) rfl rfl (known_of (hk 76 (by decide)) rfl).1, ?_⟩
          try simp [Oper.looksAt, Op.operands, Call.operands, KnownAt, List.lookup, consD] at hk
          simp [execOp, Act.eval, hk, go_sem]
          all_goals rfl
        refine gi_valX (fun v w => v = .bool true ∧ KK gc gr l0 P E w) (monoSK_K _) SK.refl (fun L w' _ h => h.set (show (3 : Nat) ≠ 24 by decide) (show (7 : Nat) ≠ 24 by decide)) ?_ ?_
        · intro a' w' L hL haf hi hk
          have hK : KK gc gr l0 P E w' := (known_of (hk 76 (by decide)) rfl).2
          refine ⟨wanted_guard (t := 76) rfl rfl (known_of (hk 76 (by decide)) rfl).1, .bool true, ?_, rfl, hK⟩
          try simp [Oper.looksAt, Op.operands, Call.operands, KnownAt, List.lookup, consD] at hk
          simp [execOp, Act.eval, hk, go_sem, hE0]
          all_goals rfl
        refine gi_skip SK.refl (fun L w' _ h => h.set (show (3 : Nat) ≠ 25 by decide) (show (7 : Nat) ≠ 25 by decide)) (fun a' w' hk => wanted_not (t := 82) rfl rfl (known_of (hk 82 (by decide)) rfl).1 (by decide)) ?_
        refine gi_skip SK.refl (fun L w' _ h => h.set (show (3 : Nat) ≠ 26 by decide) (show (7 : Nat) ≠ 26 by decide)) (fun a' w' hk => wanted_not (t := 82) rfl rfl (known_of (hk 82 (by decide)) rfl).1 (by decide)) ?_
        refine gi_skip SK.refl (fun L w' _ h => h.set (show (3 : Nat) ≠ 27 by decide) (show (7 : Nat) ≠ 27 by decide)) (fun a' w' hk => wanted_not (t := 82) rfl rfl (known_of (hk 82 (by decide)) rfl).1 (by decide)) ?_
        refine gi_skip SK.refl (fun L w' _ h => h.set (show (3 : Nat) ≠ 28 by decide) (show (7 : Nat) ≠ 28 by decide)) (fun a' w' hk => wanted_not (t := 82) rfl rfl (known_of (hk 82 (by decide)) rfl).1 (by decide)) ?_
        refine gi_skip SK.refl (fun L w' _ h => h.set (show (3 : Nat) ≠ 29 by decide) (show (7 : Nat) ≠ 29 by decide)) (fun a' w' hk => wanted_not (t := 82) rfl rfl (known_of (hk 82 (by decide)) rfl).1 (by decide)) ?_
        refine gi_skip SK.refl (fun L w' _ h => h.set (show (3 : Nat) ≠ 30 by decide) (show (7 : Nat) ≠ 30 by decide)) (fun a' w' hk => wanted_not (t := 82) rfl rfl (known_of (hk 82 (by decide)) rfl).1 (by decide)) ?_
        refine gi_skip SK.refl (fun L w' _ h => h.set (show (3 : Nat) ≠ 31 by decide) (show (7 : Nat) ≠ 31 by decide)) (fun a' w' hk => wanted_not (t := 82) rfl rfl (known_of (hk 82 (by decide)) rfl).1 (by decide)) ?_
        apply gi_val _ SK.refl (fun L w' _ h => h.set (show (3 : Nat) ≠ 32 by decide) (show (7 : Nat) ≠ 32 by decide))
        · intro a' w' L hL haf hi hk
          refine ⟨wanted_guard (t := 76) rfl rfl (known_of (hk 76 (by decide)) rfl).1, ?_⟩
          try simp [Oper.looksAt, Op.operands, Call.operands, KnownAt, List.lookup, consD] at hk
          simp [execOp, Act.eval, hk, go_sem]
          all_goals rfl
        apply gi_val _ SK.refl (fun L w' _ h => h.set (show (3 : Nat) ≠ 33 by decide) (show (7 : Nat) ≠ 33 by decide))
        · intro a' w' L hL haf hi hk
          refine ⟨wanted_none rfl, ?_⟩
          try simp [Oper.looksAt, Op.operands, Call.operands, KnownAt, List.lookup, consD] at hk
          simp [execOp, Act.eval, hk, go_sem]
          all_goals rfl
        apply gi_val _ SK.refl (fun L w' _ h => h.set (show (3 : Nat) ≠ 34 by decide) (show (7 : Nat) ≠ 34 by decide))
        · intro a' w' L hL haf hi hk
          refine ⟨wanted_none rfl, ?_⟩
          try simp [Oper.looksAt, Op.operands, Call.operands, KnownAt, List.lookup, consD] at hk
          simp [execOp, Act.eval, hk, go_sem]
          all_goals rfl
        intro vs w' L hall hi hval
        simp only [AllS, consD] at hval
        simp only [consD, putAllS, Act.put]
        obtain ⟨h9, -⟩ := hval
        rw [h9]
        simp only [List.setIfInBounds_toArray, List.set_cons_succ, List.set_cons_zero]
        have hB9 := hi.2.2.2
        clear hi h9
        go_wp2
        go_ret
        exact ⟨rfl, hB9⟩
    · have hE1 : (E == 0) = false := beq_eq_false_iff_ne.2 hE0
      have hE2 : (E != 0) = true := bne_iff_ne.2 hE0
      go_wp2_with fail
      refine wp_region_growI (SK (gr + 1) gc gr l0 P E) (IK w.heap.size w (fun w' => Blk w' w.heap.size 23 #[.int .i64 b, .int .i64 h, .int .i64 s, .int .i64 d]) gc gr l0 0 0 P E 2 5) (by kernel_rfl) (by kernel_rfl) (by rfl) ⟨⟨HC2.out.ex⟩, ⟨HRF.out.ex⟩, hblk3.drew, HB3.out.drew⟩ ?_
      apply gi_val _ SK.refl (fun L w' _ h => h.set (show (2 : Nat) ≠ 0 by decide) (show (5 : Nat) ≠ 0 by decide))
      · intro a' w' L hL haf hi hk
        refine ⟨wanted_none rfl, ?_⟩
        try simp [Oper.looksAt, Op.operands, Call.operands, KnownAt, List.lookup, consD] at hk
        simp [execOp, Act.eval, hk, go_sem]
        all_goals rfl
      apply gi_val (.agg #[.int .i64 b, .int .i64 h, .int .i64 s, .int .i64 d]) SK.refl (fun L w' _ h => h.set (show (2 : Nat) ≠ 1 by decide) (show (5 : Nat) ≠ 1 by decide))
      · intro a' w' L hL haf hi hk
        refine ⟨wanted_none rfl, ?_⟩
        obtain ⟨hc0, hc1, hc2, hc3⟩ := hi.2.2.1.four
        try simp [Oper.looksAt, Op.operands, Call.operands, KnownAt, List.lookup, consD] at hk
        simp [execOp, Act.eval, hk, go_sem, hc0, hc1, hc2, hc3]
        all_goals rfl
      refine gi_callX 47 (fun args _ => args = #[.pointer (some ⟨gc, 0, none⟩), .agg #[.int .i64 b, .int .i64 h, .int .i64 s, .int .i64 d]]) (fun v w => v = .int .i64 V ∧ CurOk w gc l0 P E) (monoSK_C _) ?_ ?_ ?_
      · intro a' w' L hL haf hi hk
        refine ⟨wanted_none rfl, _, rfl, ?_⟩
        try simp [Oper.looksAt, Op.operands, Call.operands, KnownAt, List.lookup, consD] at hk
        simp [execOp, Act.eval, hk, go_sem]
        all_goals rfl
      · rintro w' L args hL haf hi hA
        subst hA
        refine (bGet_any gc l0 0 0 b h s d w' (hi.cur hL) hb0 hh0 hs0 hd0).mono ?_
        unfold GetPost
        rw [HV.out, HP.out, HE.out]
        rintro e w'' ⟨rfl, hc, hg⟩
        obtain ⟨h1, h2⟩ := hi.c hc hg (by decide) hrc (fun hb => hb.grown hg (by simp; omega)) hB0c (hi.2.2.2.size) hcB
        exact ⟨_, rfl, ⟨rfl, hc⟩, h1, h2⟩
      apply gi_val _ SK.refl (fun L w' _ h => h.set (show (2 : Nat) ≠ 3 by decide) (show (5 : Nat) ≠ 3 by decide))
      · intro a' w' L hL haf hi hk
        refine ⟨wanted_none rfl, ?_⟩
        try simp [Oper.looksAt, Op.operands, Call.operands, KnownAt, List.lookup, consD] at hk
        simp [execOp, Act.eval, hk, go_sem]
        all_goals rfl
      apply gi_val (.agg #[.int .i64 b, .int .i64 h, .int .i64 s, .int .i64 d]) SK.refl (fun L w' _ h => h.set (show (2 : Nat) ≠ 4 by decide) (show (5 : Nat) ≠ 4 by decide))
      · intro a' w' L hL haf hi hk
        refine ⟨wanted_none rfl, ?_⟩
        obtain ⟨hc0, hc1, hc2, hc3⟩ := hi.2.2.1.four
        try simp [Oper.looksAt, Op.operands, Call.operands, KnownAt, List.lookup, consD] at hk
        simp [execOp, Act.eval, hk, go_sem, hc0, hc1, hc2, hc3]
        all_goals rfl
      refine gi_callX 48 (fun args _ => args = #[.pointer (some ⟨gr, 0, none⟩), .agg #[.int .i64 b, .int .i64 h, .int .i64 s, .int .i64 d]]) (fun v w => v = .int .i64 V ∧ RefOk w gr l0 P E) (monoSK_R _) ?_ ?_ ?_
      · intro a' w' L hL haf hi hk
        refine ⟨wanted_none rfl, _, rfl, ?_⟩
        try simp [Oper.looksAt, Op.operands, Call.operands, KnownAt, List.lookup, consD] at hk
        simp [execOp, Act.eval, hk, go_sem]
        all_goals rfl
      · rintro w' L args hL haf hi hA
        subst hA
        refine (rGet_any gr l0 0 0 b h s d w' (hi.ref hL) hb0 hh0 hs0 hd0).mono ?_
        unfold RGetPost
        rw [HV.out, HP.out, HE.out]
        rintro e w'' ⟨rfl, hc, hg⟩
        obtain ⟨h1, h2⟩ := hi.r hc hg (by decide) hcr (fun hb => hb.grown hg (by simp; omega)) hB0r (hi.2.2.2.size) hrB
        exact ⟨_, rfl, ⟨rfl, hc⟩, h1, h2⟩
      refine gi_valX (fun v w => v = .bool false ∧ KK gc gr l0 P E w) (monoSK_K _) SK.refl (fun L w' _ h => h.set (show (2 : Nat) ≠ 6 by decide) (show (5 : Nat) ≠ 6 by decide)) ?_ ?_
      · intro a' w' L hL haf hi hk
        have hK : KK gc gr l0 P E w' := ⟨(known_of (hk 23 (by decide)) rfl).2, (known_of (hk 26 (by decide)) rfl).2⟩
        refine ⟨wanted_none rfl, .bool false, ?_, rfl, hK⟩
        try simp [Oper.looksAt, Op.operands, Call.operands, KnownAt, List.lookup, consD] at hk
        simp [execOp, Act.eval, hk, go_sem]
        all_goals rfl
      refine gi_valX (fun v w => v = .bool false ∧ KK gc gr l0 P E w) (monoSK_K _) SK.refl (fun L w' _ h => h.set (show (2 : Nat) ≠ 7 by decide) (show (5 : Nat) ≠ 7 by decide)) ?_ ?_
      · intro a' w' L hL haf hi hk
        have hK : KK gc gr l0 P E w' := (known_of (hk 27 (by decide)) rfl).2
        refine ⟨wanted_none rfl, .bool false, ?_, rfl, hK⟩
        try simp [Oper.looksAt, Op.operands, Call.operands, KnownAt, List.lookup, consD] at hk
        simp [execOp, Act.eval, hk, go_sem]
        all_goals rfl
      apply gi_val _ SK.refl (fun L w' _ h => h.set (show (2 : Nat) ≠ 8 by decide) (show (5 : Nat) ≠ 8 by decide))
      · intro a' w' L hL haf hi hk
        refine ⟨wanted_guard (t := 28) rfl rfl (known_of (hk 28 (by decide)) rfl).1, ?_⟩
        try simp [Oper.looksAt, Op.operands, Call.operands, KnownAt, List.lookup, consD] at hk
        simp [execOp, Act.eval, hk, go_sem]
        all_goals rfl
      refine gi_callX 49 (fun args w => args = #[.pointer (some ⟨gc, 0, none⟩)] ∧ KK gc gr l0 P E w) (fun v _ => v = .int .i64 E) (monoSK_eq _) ?_ ?_ ?_
      · intro a' w' L hL haf hi hk
        have hK : KK gc gr l0 P E w' := (known_of (hk 28 (by decide)) rfl).2
        refine ⟨wanted_guard (t := 28) rfl rfl (known_of (hk 28 (by decide)) rfl).1, _, ⟨rfl, hK⟩, ?_⟩
        try simp [Oper.looksAt, Op.operands, Call.operands, KnownAt, List.lookup, consD] at hk
        simp [execOp, Act.eval, hk, go_sem]
        all_goals rfl
      · rintro w' L args hL haf hi hA
        obtain ⟨rfl, hK⟩ := hA
        refine (cErr_any gc l0 P E w' hK.1).mono ?_
        rintro e w'' ⟨rfl, rfl⟩
        exact ⟨_, rfl, rfl, SK.refl _, hi.set (by decide) (by decide)⟩
      apply gi_val _ SK.refl (fun L w' _ h => h.set (show (2 : Nat) ≠ 10 by decide) (show (5 : Nat) ≠ 10 by decide))
      · intro a' w' L hL haf hi hk
        refine ⟨wanted_guard (t := 28) rfl rfl (known_of (hk 28 (by decide)) rfl).1, ?_⟩
        try simp [Oper.looksAt, Op.operands, Call.operands, KnownAt, List.lookup, consD] at hk
        simp [execOp, Act.eval, hk, go_sem]
        all_goals rfl
      apply gi_val _ SK.refl (fun L w' _ h => h.set (show (2 : Nat) ≠ 11 by decide) (show (5 : Nat) ≠ 11 by decide))
      · intro a' w' L hL haf hi hk
        refine ⟨wanted_guard (t := 28) rfl rfl (known_of (hk 28 (by decide)) rfl).1, ?_⟩
        try simp [Oper.looksAt, Op.operands, Call.operands, KnownAt, List.lookup, consD] at hk
        simp [execOp, Act.eval, hk, go_sem]
        all_goals rfl
      apply gi_val _ SK.refl (fun L w' _ h => h.set (show (2 : Nat) ≠ 12 by decide) (show (5 : Nat) ≠ 12 by decide))
      · intro a' w' L hL haf hi hk
        refine ⟨wanted_guard (t := 28) rfl rfl (known_of (hk 28 (by decide)) rfl).1, ?_⟩
        try simp [Oper.looksAt, Op.operands, Call.operands, KnownAt, List.lookup, consD] at hk
        simp [execOp, Act.eval, hk, go_sem]
        all_goals rfl
      apply gi_val (.int .i64 E) SK.refl (fun L w' _ h => h.set (show (2 : Nat) ≠ 13 by decide) (show (5 : Nat) ≠ 13 by decide))
      · intro a' w' L hL haf hi hk
        have hK : KK gc gr l0 P E w' := (known_of (hk 28 (by decide)) rfl).2
        refine ⟨wanted_guard (t := 28) rfl rfl (known_of (hk 28 (by decide)) rfl).1, ?_⟩
        have hc := hK.2.cell2
        try simp [Oper.looksAt, Op.operands, Call.operands, KnownAt, List.lookup, consD] at hk
        simp [execOp, Act.eval, hk, go_sem, hc]
        all_goals rfl
      apply gi_val _ SK.refl (fun L w' _ h => h.set (show (2 : Nat) ≠ 14 by decide) (show (5 : Nat) ≠ 14 by decide))
      · intro a' w' L hL haf hi hk
        refine ⟨wanted_guard (t := 28) rfl rfl (known_of (hk 28 (by decide)) rfl).1, ?_⟩
        try simp [Oper.looksAt, Op.operands, Call.operands, KnownAt, List.lookup, consD] at hk
        simp [execOp, Act.eval, hk, go_sem]
        all_goals rfl
      refine gi_valX (fun v w => v = .bool false ∧ KK gc gr l0 P E w) (monoSK_K _) SK.refl (fun L w' _ h => h.set (show (2 : Nat) ≠ 15 by decide) (show (5 : Nat) ≠ 15 by decide)) ?_ ?_
      · intro a' w' L hL haf hi hk
        have hK : KK gc gr l0 P E w' := (known_of (hk 28 (by decide)) rfl).2
        refine ⟨wanted_none rfl, .bool false, ?_, rfl, hK⟩
        try simp [Oper.looksAt, Op.operands, Call.operands, KnownAt, List.lookup, consD] at hk
        simp [execOp, Act.eval, hk, go_sem]
        all_goals rfl
      refine gi_valX (fun v w => v = .bool false ∧ KK gc gr l0 P E w) (monoSK_K _) SK.refl (fun L w' _ h => h.set (show (2 : Nat) ≠ 16 by decide) (show (5 : Nat) ≠ 16 by decide)) ?_ ?_
      · intro a' w' L hL haf hi hk
        have hK : KK gc gr l0 P E w' := (known_of (hk 36 (by decide)) rfl).2
        refine ⟨wanted_none rfl, .bool false, ?_, rfl, hK⟩
        try simp [Oper.looksAt, Op.operands, Call.operands, KnownAt, List.lookup, consD] at hk
        simp [execOp, Act.eval, hk, go_sem]
        all_goals rfl
      apply gi_val _ SK.refl (fun L w' _ h => h.set (show (2 : Nat) ≠ 17 by decide) (show (5 : Nat) ≠ 17 by decide))
      · intro a' w' L hL haf hi hk
        refine ⟨wanted_guard (t := 37) rfl rfl (known_of (hk 37 (by decide)) rfl).1, ?_⟩
        try simp [Oper.looksAt, Op.operands, Call.operands, KnownAt, List.lookup, consD] at hk
        simp [execOp, Act.eval, hk, go_sem]
        all_goals rfl
      apply gi_val _ SK.refl (fun L w' _ h => h.set (show (2 : Nat) ≠ 18 by decide) (show (5 : Nat) ≠ 18 by decide))
      · intro a' w' L hL haf hi hk
        refine ⟨wanted_guard (t := 37) rfl rfl (known_of (hk 37 (by decide)) rfl).1, ?_⟩
        try simp [Oper.looksAt, Op.operands, Call.operands, KnownAt, List.lookup, consD] at hk
        simp [execOp, Act.eval, hk, go_sem]
        all_goals rfl
      apply gi_val _ SK.refl (fun L w' _ h => h.set (show (2 : Nat) ≠ 19 by decide) (show (5 : Nat) ≠ 19 by decide))
      · intro a' w' L hL haf hi hk
        refine ⟨wanted_guard (t := 37) rfl rfl (known_of (hk 37 (by decide)) rfl).1, ?_⟩
        try simp [Oper.looksAt, Op.operands, Call.operands, KnownAt, List.lookup, consD] at hk
        simp [execOp, Act.eval, hk, go_sem]
        all_goals rfl
      apply gi_val (.int .i64 E) SK.refl (fun L w' _ h => h.set (show (2 : Nat) ≠ 20 by decide) (show (5 : Nat) ≠ 20 by decide))
      · intro a' w' L hL haf hi hk
        have hK : KK gc gr l0 P E w' := (known_of (hk 37 (by decide)) rfl).2
        refine ⟨wanted_guard (t := 37) rfl rfl (known_of (hk 37 (by decide)) rfl).1, ?_⟩
        have hc := hK.2.cell2
        try simp [Oper.looksAt, Op.operands, Call.operands, KnownAt, List.lookup, consD] at hk
        simp [execOp, Act.eval, hk, go_sem, hc]
        all_goals rfl
      apply gi_val _ SK.refl (fun L w' _ h => h.set (show (2 : Nat) ≠ 21 by decide) (show (5 : Nat) ≠ 21 by decide))
      · intro a' w' L hL haf hi hk
        refine ⟨wanted_guard (t := 37) rfl rfl (known_of (hk 37 (by decide)) rfl).1, ?_⟩
        try simp [Oper.looksAt, Op.operands, Call.operands, KnownAt, List.lookup, consD] at hk
        simp [execOp, Act.eval, hk, go_sem]
        all_goals rfl
      refine gi_valX (fun v w => v = .bool false ∧ KK gc gr l0 P E w) (monoSK_K _) SK.refl (fun L w' _ h => h.set (show (2 : Nat) ≠ 22 by decide) (show (5 : Nat) ≠ 22 by decide)) ?_ ?_
      · intro a' w' L hL haf hi hk
        have hK : KK gc gr l0 P E w' := (known_of (hk 37 (by decide)) rfl).2
        refine ⟨wanted_guard (t := 37) rfl rfl (known_of (hk 37 (by decide)) rfl).1, .bool false, ?_, rfl, hK⟩
        try simp [Oper.looksAt, Op.operands, Call.operands, KnownAt, List.lookup, consD] at hk
        simp [execOp, Act.eval, hk, go_sem, hE0]
        all_goals rfl
      refine gi_skip SK.refl (fun L w' _ h => h.set (show (2 : Nat) ≠ 23 by decide) (show (5 : Nat) ≠ 23 by decide)) (fun a' w' hk => wanted_not (t := 43) rfl rfl (known_of (hk 43 (by decide)) rfl).1 (by decide)) ?_
      refine gi_skip SK.refl (fun L w' _ h => h.set (show (2 : Nat) ≠ 24 by decide) (show (5 : Nat) ≠ 24 by decide)) (fun a' w' hk => wanted_not (t := 43) rfl rfl (known_of (hk 43 (by decide)) rfl).1 (by decide)) ?_
      refine gi_skip SK.refl (fun L w' _ h => h.set (show (2 : Nat) ≠ 25 by decide) (show (5 : Nat) ≠ 25 by decide)) (fun a' w' hk => wanted_not (t := 43) rfl rfl (known_of (hk 43 (by decide)) rfl).1 (by decide)) ?_
      refine gi_skip SK.refl (fun L w' _ h => h.set (show (2 : Nat) ≠ 26 by decide) (show (5 : Nat) ≠ 26 by decide)) (fun a' w' hk => wanted_not (t := 43) rfl rfl (known_of (hk 43 (by decide)) rfl).1 (by decide)) ?_
      refine gi_skip SK.refl (fun L w' _ h => h.set (show (2 : Nat) ≠ 27 by decide) (show (5 : Nat) ≠ 27 by decide)) (fun a' w' hk => wanted_not (t := 43) rfl rfl (known_of (hk 43 (by decide)) rfl).1 (by decide)) ?_
      refine gi_skip SK.refl (fun L w' _ h => h.set (show (2 : Nat) ≠ 28 by decide) (show (5 : Nat) ≠ 28 by decide)) (fun a' w' hk => wanted_not (t := 43) rfl rfl (known_of (hk 43 (by decide)) rfl).1 (by decide)) ?_
      refine gi_skip SK.refl (fun L w' _ h => h.set (show (2 : Nat) ≠ 29 by decide) (show (5 : Nat) ≠ 29 by decide)) (fun a' w' hk => wanted_not (t := 43) rfl rfl (known_of (hk 43 (by decide)) rfl).1 (by decide)) ?_
      apply gi_val _ SK.refl (fun L w' _ h => h.set (show (2 : Nat) ≠ 30 by decide) (show (5 : Nat) ≠ 30 by decide))
      · intro a' w' L hL haf hi hk
        refine ⟨wanted_guard (t := 37) rfl rfl (known_of (hk 37 (by decide)) rfl).1, ?_⟩
        try simp [Oper.looksAt, Op.operands, Call.operands, KnownAt, List.lookup, consD] at hk
        simp [execOp, Act.eval, hk, go_sem]
        all_goals rfl
      apply gi_val _ SK.refl (fun L w' _ h => h.set (show (2 : Nat) ≠ 31 by decide) (show (5 : Nat) ≠ 31 by decide))
      · intro a' w' L hL haf hi hk
        refine ⟨wanted_none rfl, ?_⟩
        try simp [Oper.looksAt, Op.operands, Call.operands, KnownAt, List.lookup, consD] at hk
        simp [execOp, Act.eval, hk, go_sem]
        all_goals rfl
      intro vs w' L hall hi hval
      simp only [AllS, consD] at hval
      simp only [consD, putAllS, Act.put]
      obtain ⟨h9, -⟩ := hval
      rw [h9]
      simp only [List.setIfInBounds_toArray, List.set_cons_succ, List.set_cons_zero]
      have hblk4 := hi.2.2.1
      have hB4 := hi.2.2.2
      have hr4 := HR0.out.later hB4
      clear hi h9 HC2 HRF HV HP HE
      have hs4 : w.heap.size < w'.heap.size := hblk4.lt
      clear HB3 hblk3 hB0c hB0r hcr hrc hqc hqr hcB hrB
      go_wp2_with fail
      refine (cNew_any a0 n0 c0 l0 w' HL0.out (by omega) hr4).mono ?_
      rintro e w5 ⟨gc, rfl, hgc, hcur, hb⟩
      have hB5 := below_trans0 hB4 hB4.size hb
      have hr5 := hr4.below hb
      have hblk5 := hblk4.below hb
      have hgl := hcur.lt2
      have href := RefOk.new w5 HL0.out hm0.1 ⟨by omega, by omega⟩ hr5
      have hcur2 := hcur.below (below_alloc w5 (.cells #[.slice a0 n0 c0, .int .i64 0, .int .i64 0] 77))
      have hblk6 := hblk5.below (below_alloc w5 (.cells #[.slice a0 n0 c0, .int .i64 0, .int .i64 0] 77))
      have hB6 := hB5.alloc hB5.size (.cells #[.slice a0 n0 c0, .int .i64 0, .int .i64 0] 77)
      have hs5 : w.heap.size < w5.heap.size := hblk5.lt
      have hs6 : (w5.alloc (.cells #[.slice a0 n0 c0, .int .i64 0, .int .i64 0] 77)).heap.size = w5.heap.size + 1 := by simp
      clear hb hcur hB5 hr4 hr5 hblk4 hblk5 hB4
      obtain ⟨X, hX⟩ : ∃ X, (rdRes b h s d l0 n 0 0).1 = X := ⟨_, rfl⟩
      obtain ⟨P, hP⟩ : ∃ P, (rdRes b h s d l0 n 0 0).2.1 = P := ⟨_, rfl⟩
      obtain ⟨E, hE⟩ : ∃ E, (rdRes b h s d l0 n 0 0).2.2 = E := ⟨_, rfl⟩
      have HX := Lib.hid hX
      have HP := Lib.hid hP
      have HE := Lib.hid hE
      clear hX hP hE
      have HB6 := Lib.hid hB6
      have HC2 := Lib.hid hcur2
      have HRF := Lib.hid href
      clear hB6 hcur2 href
      go_wp2_with fail
      generalize w5.alloc (.cells #[.slice a0 n0 c0, .int .i64 0, .int .i64 0] 77) = w6 at HB6 HC2 HRF hblk6 hs6 ⊢
      generalize w5.heap.size = gr at HRF hs5 hs6 hgl ⊢
      have hB0c : w.heap.size ≤ gc := by omega
      have hB0r : w.heap.size ≤ gr := by omega
      have hcr : gc ≠ gr := by omega
      have hrc : gr ≠ gc := by omega
      have hqc : w.heap.size ≠ gc := by omega
      have hqr : w.heap.size ≠ gr := by omega
      have hcB : gc < w6.heap.size := by omega
      have hrB : gr < w6.heap.size := by omega
      obtain ⟨B, hBB⟩ : ∃ B, B = w6.heap.size := ⟨_, rfl⟩
      rw [← hBB] at hcB hrB
      have hBle : B ≤ w6.heap.size := by omega
      clear hgc hgl hs5 hs6 hs4 hBB
      by_cases hE0 : E = 0
      · subst hE0
        go_wp2_with fail
        refine wp_region_growI (SK B gc gr l0 P 0) (IK w.heap.size w (fun w' => Blk w' w.heap.size 23 #[.int .i64 b, .int .i64 h, .int .i64 s, .int .i64 d] ∧ B ≤ w'.heap.size) gc gr l0 0 0 P 0 3 7) (by kernel_rfl) (by kernel_rfl) (by rfl) ⟨⟨HC2.out.ex⟩, ⟨HRF.out.ex⟩, ⟨hblk6.drew, hBle⟩, HB6.out.drew⟩ ?_
        apply gi_val _ SK.refl (fun L w' _ h => h.set (show (3 : Nat) ≠ 0 by decide) (show (7 : Nat) ≠ 0 by decide))
        · intro a' w' L hL haf hi hk
          refine ⟨wanted_none rfl, ?_⟩
          try simp [Oper.looksAt, Op.operands, Call.operands, KnownAt, List.lookup, consD] at hk
          simp [execOp, Act.eval, hk, go_sem]
          all_goals rfl
        apply gi_val (.agg #[.int .i64 b, .int .i64 h, .int .i64 s, .int .i64 d]) SK.refl (fun L w' _ h => h.set (show (3 : Nat) ≠ 1 by decide) (show (7 : Nat) ≠ 1 by decide))
        · intro a' w' L hL haf hi hk
          refine ⟨wanted_none rfl, ?_⟩
          obtain ⟨hc0, hc1, hc2, hc3⟩ := hi.2.2.1.1.four
          try simp [Oper.looksAt, Op.operands, Call.operands, KnownAt, List.lookup, consD] at hk
          simp [execOp, Act.eval, hk, go_sem, hc0, hc1, hc2, hc3]
          all_goals rfl
        apply gi_val _ SK.refl (fun L w' _ h => h.set (show (3 : Nat) ≠ 2 by decide) (show (7 : Nat) ≠ 2 by decide))
        · intro a' w' L hL haf hi hk
          refine ⟨wanted_none rfl, ?_⟩
          try simp [Oper.looksAt, Op.operands, Call.operands, KnownAt, List.lookup, consD] at hk
          simp [execOp, Act.eval, hk, go_sem]
          all_goals rfl
        refine gi_callX 52 (fun args _ => args = #[.pointer (some ⟨gc, 0, none⟩), .agg #[.int .i64 b, .int .i64 h, .int .i64 s, .int .i64 d], .int .i64 n]) (fun v w => OwnG B 3 iE X v w ∧ CurOk w gc l0 P 0) (monoSK_OC _) ?_ ?_ ?_
        · intro a' w' L hL haf hi hk
          refine ⟨wanted_none rfl, _, rfl, ?_⟩
          try simp [Oper.looksAt, Op.operands, Call.operands, KnownAt, List.lookup, consD] at hk
          simp [execOp, Act.eval, hk, go_sem]
          all_goals rfl
        · rintro w' L args hL haf hi hA
          subst hA
          refine (bReadRow_any gc l0 0 0 b h s d n w' (hi.cur hL) hb0 hh0 hs0 hd0 hn0).mono ?_
          unfold RdPost
          rw [HX.out, HP.out, HE.out]
          rintro e w'' ⟨a9, k9, c9, rfl, hl9, hk9, hown, hc, hg⟩
          have hBw := hi.2.2.1.2
          obtain ⟨h1, h2⟩ := hi.c hc hg (by decide) hrc (fun hb => ⟨hb.1.grown hg (by simp; omega), Nat.le_trans hb.2 hg.size⟩) hB0c (hi.2.2.2.size) hcB
          exact ⟨_, rfl, ⟨⟨a9, k9, c9, rfl, hl9, hk9, hown.mono hBw⟩, hc⟩, h1, h2⟩
        apply gi_val _ SK.refl (fun L w' _ h => h.set (show (3 : Nat) ≠ 4 by decide) (show (7 : Nat) ≠ 4 by decide))
        · intro a' w' L hL haf hi hk
          refine ⟨wanted_none rfl, ?_⟩
          try simp [Oper.looksAt, Op.operands, Call.operands, KnownAt, List.lookup, consD] at hk
          simp [execOp, Act.eval, hk, go_sem]
          all_goals rfl
        apply gi_val (.agg #[.int .i64 b, .int .i64 h, .int .i64 s, .int .i64 d]) SK.refl (fun L w' _ h => h.set (show (3 : Nat) ≠ 5 by decide) (show (7 : Nat) ≠ 5 by decide))
        · intro a' w' L hL haf hi hk
          refine ⟨wanted_none rfl, ?_⟩
          obtain ⟨hc0, hc1, hc2, hc3⟩ := hi.2.2.1.1.four
          try simp [Oper.looksAt, Op.operands, Call.operands, KnownAt, List.lookup, consD] at hk
          simp [execOp, Act.eval, hk, go_sem, hc0, hc1, hc2, hc3]
          all_goals rfl
        apply gi_val _ SK.refl (fun L w' _ h => h.set (show (3 : Nat) ≠ 6 by decide) (show (7 : Nat) ≠ 6 by decide))
        · intro a' w' L hL haf hi hk
          refine ⟨wanted_none rfl, ?_⟩
          try simp [Oper.looksAt, Op.operands, Call.operands, KnownAt, List.lookup, consD] at hk
          simp [execOp, Act.eval, hk, go_sem]
          all_goals rfl
        refine gi_callX 53 (fun args _ => args = #[.pointer (some ⟨gr, 0, none⟩), .agg #[.int .i64 b, .int .i64 h, .int .i64 s, .int .i64 d], .int .i64 n]) (fun v w => OwnG B 3 iE X v w ∧ RefOk w gr l0 P 0) (monoSK_OR _) ?_ ?_ ?_
        · intro a' w' L hL haf hi hk
          refine ⟨wanted_none rfl, _, rfl, ?_⟩
          try simp [Oper.looksAt, Op.operands, Call.operands, KnownAt, List.lookup, consD] at hk
          simp [execOp, Act.eval, hk, go_sem]
          all_goals rfl
        · rintro w' L args hL haf hi hA
          subst hA
          refine (rReadRow_any gr l0 0 0 b h s d n w' (hi.ref hL) hb0 hh0 hs0 hd0 hn0).mono ?_
          unfold RRdPost
          rw [HX.out, HP.out, HE.out]
          rintro e w'' ⟨a9, k9, c9, rfl, hl9, hk9, hown, hc, hg⟩
          have hBw := hi.2.2.1.2
          obtain ⟨h1, h2⟩ := hi.r hc hg (by decide) hcr (fun hb => ⟨hb.1.grown hg (by simp; omega), Nat.le_trans hb.2 hg.size⟩) hB0r (hi.2.2.2.size) hrB
          exact ⟨_, rfl, ⟨⟨a9, k9, c9, rfl, hl9, hk9, hown.mono hBw⟩, hc⟩, h1, h2⟩
        refine gi_callX 51 (fun args w => (∃ a1 k1 c1 a2 k2 c2, args = #[.slice a1 k1 c1, .slice a2 k2 c2] ∧ X.length = k1 ∧ X.length = k2 ∧ k1 ≤ 1000000000001 ∧ k2 ≤ 1000000000001 ∧ Rd w iE a1 X ∧ Rd w iE a2 X) ∧ KK gc gr l0 P 0 w) (fun v w => v = .bool true ∧ KK gc gr l0 P 0 w) (monoSK_K _) ?_ ?_ ?_
        · intro a' w' L hL haf hi hk
          obtain ⟨⟨a1, k1, c1, e1, l1, m1, o1⟩, h61⟩ := known_of (hk 61 (by decide)) rfl
          obtain ⟨⟨a2, k2, c2, e2, l2, m2, o2⟩, h65⟩ := known_of (hk 65 (by decide)) rfl
          clear hk
          have hk := And.intro e1 e2
          refine ⟨wanted_none rfl, _, ⟨⟨a1, k1, c1, a2, k2, c2, rfl, l1, l2, m1, m2, o1.rd, o2.rd⟩, h61, h65⟩, ?_⟩
          try simp [Oper.looksAt, Op.operands, Call.operands, KnownAt, List.lookup, consD] at hk
          simp [execOp, Act.eval, hk, go_sem]
          all_goals rfl
        · rintro w' L args hL haf hi hA
          obtain ⟨⟨a1, k1, c1, a2, k2, c2, rfl, l1, l2, m1, m2, o1, o2⟩, hK⟩ := hA
          refine (same24_any a1 k1 c1 X a2 k2 c2 X w' l1 l2 m1 m2 o1 o2).mono ?_
          rintro e w'' ⟨rfl, hb⟩
          obtain ⟨h1, h2⟩ := hi.b (k := 8) hb (by decide) (by decide) (fun hx => ⟨hx.1.below hb, Nat.le_trans hx.2 hb.size⟩) hi.2.2.2.size
          exact ⟨_, rfl, ⟨by rw [decide_eq_true rfl], h1.2.2.1 hK.1, h1.2.2.2 hK.2⟩, h1, h2⟩
        refine gi_valX (fun v w => v = .bool true ∧ KK gc gr l0 P 0 w) (monoSK_K _) SK.refl (fun L w' _ h => h.set (show (3 : Nat) ≠ 9 by decide) (show (7 : Nat) ≠ 9 by decide)) ?_ ?_
        · intro a' w' L hL haf hi hk
          have hK : KK gc gr l0 P 0 w' := (known_of (hk 66 (by decide)) rfl).2
          refine ⟨wanted_none rfl, .bool true, ?_, rfl, hK⟩
          try simp [Oper.looksAt, Op.operands, Call.operands, KnownAt, List.lookup, consD] at hk
          simp [execOp, Act.eval, hk, go_sem]
          all_goals rfl
        apply gi_val _ SK.refl (fun L w' _ h => h.set (show (3 : Nat) ≠ 10 by decide) (show (7 : Nat) ≠ 10 by decide))
        · intro a' w' L hL haf hi hk
          refine ⟨wanted_guard (t := 67) rfl rfl (known_of (hk 67 (by decide)) rfl).1, ?_⟩
          try simp [Oper.looksAt, Op.operands, Call.operands, KnownAt, List.lookup, consD] at hk
          simp [execOp, Act.eval, hk, go_sem]
          all_goals rfl
        refine gi_callX 49 (fun args w => args = #[.pointer (some ⟨gc, 0, none⟩)] ∧ KK gc gr l0 P 0 w) (fun v _ => v = .int .i64 0) (monoSK_eq _) ?_ ?_ ?_
        · intro a' w' L hL haf hi hk
          have hK : KK gc gr l0 P 0 w' := (known_of (hk 67 (by decide)) rfl).2
          refine ⟨wanted_guard (t := 67) rfl rfl (known_of (hk 67 (by decide)) rfl).1, _, ⟨rfl, hK⟩, ?_⟩
          try simp [Oper.looksAt, Op.operands, Call.operands, KnownAt, List.lookup, consD] at hk
          simp [execOp, Act.eval, hk, go_sem]
          all_goals rfl
        · rintro w' L args hL haf hi hA
          obtain ⟨rfl, hK⟩ := hA
          refine (cErr_any gc l0 P 0 w' hK.1).mono ?_
          rintro e w'' ⟨rfl, rfl⟩
          exact ⟨_, rfl, rfl, SK.refl _, hi.set (by decide) (by decide)⟩
        apply gi_val _ SK.refl (fun L w' _ h => h.set (show (3 : Nat) ≠ 12 by decide) (show (7 : Nat) ≠ 12 by decide))
        · intro a' w' L hL haf hi hk
          refine ⟨wanted_guard (t := 67) rfl rfl (known_of (hk 67 (by decide)) rfl).1, ?_⟩
          try simp [Oper.looksAt, Op.operands, Call.operands, KnownAt, List.lookup, consD] at hk
          simp [execOp, Act.eval, hk, go_sem]
          all_goals rfl
        apply gi_val _ SK.refl (fun L w' _ h => h.set (show (3 : Nat) ≠ 13 by decide) (show (7 : Nat) ≠ 13 by decide))
        · intro a' w' L hL haf hi hk
          refine ⟨wanted_guard (t := 67) rfl rfl (known_of (hk 67 (by decide)) rfl).1, ?_⟩
          try simp [Oper.looksAt, Op.operands, Call.operands, KnownAt, List.lookup, consD] at hk
          simp [execOp, Act.eval, hk, go_sem]
          all_goals rfl
        apply gi_val _ SK.refl (fun L w' _ h => h.set (show (3 : Nat) ≠ 14 by decide) (show (7 : Nat) ≠ 14 by decide))
        · intro a' w' L hL haf hi hk
          refine ⟨wanted_guard (t := 67) rfl rfl (known_of (hk 67 (by decide)) rfl).1, ?_⟩
          try simp [Oper.looksAt, Op.operands, Call.operands, KnownAt, List.lookup, consD] at hk
          simp [execOp, Act.eval, hk, go_sem]
          all_goals rfl
        apply gi_val (.int .i64 0) SK.refl (fun L w' _ h => h.set (show (3 : Nat) ≠ 15 by decide) (show (7 : Nat) ≠ 15 by decide))
        · intro a' w' L hL haf hi hk
          have hK : KK gc gr l0 P 0 w' := (known_of (hk 67 (by decide)) rfl).2
          refine ⟨wanted_guard (t := 67) rfl rfl (known_of (hk 67 (by decide)) rfl).1, ?_⟩
          have hc := hK.2.cell2
          try simp [Oper.looksAt, Op.operands, Call.operands, KnownAt, List.lookup, consD] at hk
          simp [execOp, Act.eval, hk, go_sem, hc]
          all_goals rfl
        apply gi_val _ SK.refl (fun L w' _ h => h.set (show (3 : Nat) ≠ 16 by decide) (show (7 : Nat) ≠ 16 by decide))
        · intro a' w' L hL haf hi hk
          refine ⟨wanted_guard (t := 67) rfl rfl (known_of (hk 67 (by decide)) rfl).1, ?_⟩
          try simp [Oper.looksAt, Op.operands, Call.operands, KnownAt, List.lookup, consD] at hk
          simp [execOp, Act.eval, hk, go_sem]
          all_goals rfl
        refine gi_valX (fun v w => v = .bool true ∧ KK gc gr l0 P 0 w) (monoSK_K _) SK.refl (fun L w' _ h => h.set (show (3 : Nat) ≠ 17 by decide) (show (7 : Nat) ≠ 17 by decide)) ?_ ?_
        · intro a' w' L hL haf hi hk
          have hK : KK gc gr l0 P 0 w' := (known_of (hk 67 (by decide)) rfl).2
          refine ⟨wanted_none rfl, .bool true, ?_, rfl, hK⟩
          try simp [Oper.looksAt, Op.operands, Call.operands, KnownAt, List.lookup, consD] at hk
          simp [execOp, Act.eval, hk, go_sem]
          all_goals rfl
        refine gi_valX (fun v w => v = .bool true ∧ KK gc gr l0 P 0 w) (monoSK_K _) SK.refl (fun L w' _ h => h.set (show (3 : Nat) ≠ 18 by decide) (show (7 : Nat) ≠ 18 by decide)) ?_ ?_
        · intro a' w' L hL haf hi hk
          have hK : KK gc gr l0 P 0 w' := (known_of (hk 75 (by decide)) rfl).2
          refine ⟨wanted_none rfl, .bool true, ?_, rfl, hK⟩
          try simp [Oper.looksAt, Op.operands, Call.operands, KnownAt, List.lookup, consD] at hk
          simp [execOp, Act.eval, hk, go_sem]
          all_goals rfl
        apply gi_val _ SK.refl (fun L w' _ h => h.set (show (3 : Nat) ≠ 19 by decide) (show (7 : Nat) ≠ 19 by decide))
        · intro a' w' L hL haf hi hk
          refine ⟨wanted_guard (t := 76) rfl rfl (known_of (hk 76 (by decide)) rfl).1, ?_⟩
          try simp [Oper.looksAt, Op.operands, Call.operands, KnownAt, List.lookup, consD] at hk
          simp [execOp, Act.eval, hk, go_sem]
          all_goals rfl
        apply gi_val _ SK.refl (fun L w' _ h => h.set (show (3 : Nat) ≠ 20 by decide) (show (7 : Nat) ≠ 20 by decide))
        · intro a' w' L hL haf hi hk
          refine ⟨wanted_guard (t := 76) rfl rfl (known_of (hk 76 (by decide)) rfl).1, ?_⟩
          try simp [Oper.looksAt, Op.operands, Call.operands, KnownAt, List.lookup, consD] at hk
          simp [execOp, Act.eval, hk, go_sem]
          all_goals rfl
        apply gi_val _ SK.refl (fun L w' _ h => h.set (show (3 : Nat) ≠ 21 by decide) (show (7 : Nat) ≠ 21 by decide))
        · intro a' w' L hL haf hi hk
          refine ⟨wanted_guard (t := 76) rfl rfl (known_of (hk 76 (by decide)) rfl).1, ?_⟩
          try simp [Oper.looksAt, Op.operands, Call.operands, KnownAt, List.lookup, consD] at hk
          simp [execOp, Act.eval, hk, go_sem]
          all_goals rfl
        apply gi_val (.int .i64 0) SK.refl (fun L w' _ h => h.set (show (3 : Nat) ≠ 22 by decide) (show (7 : Nat) ≠ 22 by decide))
        · intro a' w' L hL haf hi hk
          have hK : KK gc gr l0 P 0 w' := (known_of (hk 76 (by decide)) rfl).2
          refine ⟨wanted_guard (t := 76) rfl rfl (known_of (hk 76 (by decide)) rfl).1, ?_⟩
          have hc := hK.2.cell2
          try simp [Oper.looksAt, Op.operands, Call.operands, KnownAt, List.lookup, consD] at hk
          simp [execOp, Act.eval, hk, go_sem, hc]
          all_goals rfl
        apply gi_val _ SK.refl (fun L w' _ h => h.set (show (3 : Nat) ≠ 23 by decide) (show (7 : Nat) ≠ 23 by decide))
        · intro a' w' L hL haf hi hk
          refine ⟨wanted_guard (t := 76) rfl rfl (known_of (hk 76 (by decide)) rfl).1, ?_⟩
          try simp [Oper.looksAt, Op.operands, Call.operands, KnownAt, List.lookup, consD] at hk
          simp [execOp, Act.eval, hk, go_sem]
          all_goals rfl
        refine gi_valX (fun v w => v = .bool false ∧ KK gc gr l0 P 0 w) (monoSK_K _) SK.refl (fun L w' _ h => h.set (show (3 : Nat) ≠ 24 by decide) (show (7 : Nat) ≠ 24 by decide)) ?_ ?_
        · intro a' w' L hL haf hi hk
          have hK : KK gc gr l0 P 0 w' := (known_of (hk 76 (by decide)) rfl).2
          refine ⟨wanted_guard (t := 76) rfl rfl (known_of (hk 76 (by decide)) rfl).1, .bool false, ?_, rfl, hK⟩
          try simp [Oper.looksAt, Op.operands, Call.operands, KnownAt, List.lookup, consD] at hk
          simp [execOp, Act.eval, hk, go_sem]
          all_goals rfl
        apply gi_val _ SK.refl (fun L w' _ h => h.set (show (3 : Nat) ≠ 25 by decide) (show (7 : Nat) ≠ 25 by decide))
        · intro a' w' L hL haf hi hk
          refine ⟨wanted_guard (t := 82) rfl rfl (known_of (hk 82 (by decide)) rfl).1, ?_⟩
          try simp [Oper.looksAt, Op.operands, Call.operands, KnownAt, List.lookup, consD] at hk
          simp [execOp, Act.eval, hk, go_sem]
          all_goals rfl
        refine gi_callX 50 (fun args w => args = #[.pointer (some ⟨gc, 0, none⟩)] ∧ KK gc gr l0 P 0 w) (fun v _ => v = .int .i64 (P : Int)) (monoSK_eq _) ?_ ?_ ?_
        · intro a' w' L hL haf hi hk
          have hK : KK gc gr l0 P 0 w' := (known_of (hk 82 (by decide)) rfl).2
          refine ⟨wanted_guard (t := 82) rfl rfl (known_of (hk 82 (by decide)) rfl).1, _, ⟨rfl, hK⟩, ?_⟩
          try simp [Oper.looksAt, Op.operands, Call.operands, KnownAt, List.lookup, consD] at hk
          simp [execOp, Act.eval, hk, go_sem]
          all_goals rfl
        · rintro w' L args hL haf hi hA
          obtain ⟨rfl, hK⟩ := hA
          refine (cAt_any gc l0 P 0 w' hK.1).mono ?_
          rintro e w'' ⟨rfl, rfl⟩
          exact ⟨_, rfl, rfl, SK.refl _, hi.set (by decide) (by decide)⟩
        apply gi_val _ SK.refl (fun L w' _ h => h.set (show (3 : Nat) ≠ 27 by decide) (show (7 : Nat) ≠ 27 by decide))
        · intro a' w' L hL haf hi hk
          refine ⟨wanted_guard (t := 82) rfl rfl (known_of (hk 82 (by decide)) rfl).1, ?_⟩
          try simp [Oper.looksAt, Op.operands, Call.operands, KnownAt, List.lookup, consD] at hk
          simp [execOp, Act.eval, hk, go_sem]
          all_goals rfl
        apply gi_val _ SK.refl (fun L w' _ h => h.set (show (3 : Nat) ≠ 28 by decide) (show (7 : Nat) ≠ 28 by decide))
        · intro a' w' L hL haf hi hk
          refine ⟨wanted_guard (t := 82) rfl rfl (known_of (hk 82 (by decide)) rfl).1, ?_⟩
          try simp [Oper.looksAt, Op.operands, Call.operands, KnownAt, List.lookup, consD] at hk
          simp [execOp, Act.eval, hk, go_sem]
          all_goals rfl
        apply gi_val _ SK.refl (fun L w' _ h => h.set (show (3 : Nat) ≠ 29 by decide) (show (7 : Nat) ≠ 29 by decide))
        · intro a' w' L hL haf hi hk
          refine ⟨wanted_guard (t := 82) rfl rfl (known_of (hk 82 (by decide)) rfl).1, ?_⟩
          try simp [Oper.looksAt, Op.operands, Call.operands, KnownAt, List.lookup, consD] at hk
          simp [execOp, Act.eval, hk, go_sem]
          all_goals rfl
        apply gi_val (.int .i64 (P : Int)) SK.refl (fun L w' _ h => h.set (show (3 : Nat) ≠ 30 by decide) (show (7 : Nat) ≠ 30 by decide))
        · intro a' w' L hL haf hi hk
          have hK : KK gc gr l0 P 0 w' := (known_of (hk 82 (by decide)) rfl).2
          refine ⟨wanted_guard (t := 82) rfl rfl (known_of (hk 82 (by decide)) rfl).1, ?_⟩
          have hc := hK.2.cell1
          try simp [Oper.looksAt, Op.operands, Call.operands, KnownAt, List.lookup, consD] at hk
          simp [execOp, Act.eval, hk, go_sem, hc]
          all_goals rfl
        apply gi_val _ SK.refl (fun L w' _ h => h.set (show (3 : Nat) ≠ 31 by decide) (show (7 : Nat) ≠ 31 by decide))
        · intro a' w' L hL haf hi hk
          refine ⟨wanted_guard (t := 82) rfl rfl (known_of (hk 82 (by decide)) rfl).1, ?_⟩
          try simp [Oper.looksAt, Op.operands, Call.operands, KnownAt, List.lookup, consD] at hk
          simp [execOp, Act.eval, hk, go_sem]
          all_goals rfl
        apply gi_val _ SK.refl (fun L w' _ h => h.set (show (3 : Nat) ≠ 32 by decide) (show (7 : Nat) ≠ 32 by decide))
        · intro a' w' L hL haf hi hk
          refine ⟨wanted_guard (t := 76) rfl rfl (known_of (hk 76 (by decide)) rfl).1, ?_⟩
          try simp [Oper.looksAt, Op.operands, Call.operands, KnownAt, List.lookup, consD] at hk
          simp [execOp, Act.eval, hk, go_sem]
          all_goals rfl
        apply gi_val _ SK.refl (fun L w' _ h => h.set (show (3 : Nat) ≠ 33 by decide) (show (7 : Nat) ≠ 33 by decide))
        · intro a' w' L hL haf hi hk
          refine ⟨wanted_none rfl, ?_⟩
          try simp [Oper.looksAt, Op.operands, Call.operands, KnownAt, List.lookup, consD] at hk
          simp [execOp, Act.eval, hk, go_sem]
          all_goals rfl
        apply gi_val _ SK.refl (fun L w' _ h => h.set (show (3 : Nat) ≠ 34 by decide) (show (7 : Nat) ≠ 34 by decide))
        · intro a' w' L hL haf hi hk
          refine ⟨wanted_none rfl, ?_⟩
          try simp [Oper.looksAt, Op.operands, Call.operands, KnownAt, List.lookup, consD] at hk
          simp [execOp, Act.eval, hk, go_sem]
          all_goals rfl
        intro vs w' L hall hi hval
        simp only [AllS, consD] at hval
        simp only [consD, putAllS, Act.put]
        obtain ⟨h9, -⟩ := hval
        rw [h9]
        simp only [List.setIfInBounds_toArray, List.set_cons_succ, List.set_cons_zero]
        have hB9 := hi.2.2.2
        clear hi h9
        go_wp2
        go_ret
        exact ⟨rfl, hB9⟩
      · have hE1 : (E == 0) = false := beq_eq_false_iff_ne.2 hE0
        have hE2 : (E != 0) = true := bne_iff_ne.2 hE0
        go_wp2_with fail
        refine wp_region_growI (SK B gc gr l0 P E) (IK w.heap.size w (fun w' => Blk w' w.heap.size 23 #[.int .i64 b, .int .i64 h, .int .i64 s, .int .i64 d] ∧ B ≤ w'.heap.size) gc gr l0 0 0 P E 3 7) (by kernel_rfl) (by kernel_rfl) (by rfl) ⟨⟨HC2.out.ex⟩, ⟨HRF.out.ex⟩, ⟨hblk6.drew, hBle⟩, HB6.out.drew⟩ ?_
        apply gi_val _ SK.refl (fun L w' _ h => h.set (show (3 : Nat) ≠ 0 by decide) (show (7 : Nat) ≠ 0 by decide))
        · intro a' w' L hL haf hi hk
          refine ⟨wanted_none rfl, ?_⟩
          try simp [Oper.looksAt, Op.operands, Call.operands, KnownAt, List.lookup, consD] at hk
          simp [execOp, Act.eval, hk, go_sem]
          all_goals rfl
        apply gi_val (.agg #[.int .i64 b, .int .i64 h, .int .i64 s, .int .i64 d]) SK.refl (fun L w' _ h => h.set (show (3 : Nat) ≠ 1 by decide) (show (7 : Nat) ≠ 1 by decide))
        · intro a' w' L hL haf hi hk
          refine ⟨wanted_none rfl, ?_⟩
          obtain ⟨hc0, hc1, hc2, hc3⟩ := hi.2.2.1.1.four
          try simp [Oper.looksAt, Op.operands, Call.operands, KnownAt, List.lookup, consD] at hk
          simp [execOp, Act.eval, hk, go_sem, hc0, hc1, hc2, hc3]
          all_goals rfl
        apply gi_val _ SK.refl (fun L w' _ h => h.set (show (3 : Nat) ≠ 2 by decide) (show (7 : Nat) ≠ 2 by decide))
        · intro a' w' L hL haf hi hk
          refine ⟨wanted_none rfl, ?_⟩
          try simp [Oper.looksAt, Op.operands, Call.operands, KnownAt, List.lookup, consD] at hk
          simp [execOp, Act.eval, hk, go_sem]
          all_goals rfl
        refine gi_callX 52 (fun args _ => args = #[.pointer (some ⟨gc, 0, none⟩), .agg #[.int .i64 b, .int .i64 h, .int .i64 s, .int .i64 d], .int .i64 n]) (fun v w => OwnG B 3 iE X v w ∧ CurOk w gc l0 P E) (monoSK_OC _) ?_ ?_ ?_
        · intro a' w' L hL haf hi hk
          refine ⟨wanted_none rfl, _, rfl, ?_⟩
          try simp [Oper.looksAt, Op.operands, Call.operands, KnownAt, List.lookup, consD] at hk
          simp [execOp, Act.eval, hk, go_sem]
          all_goals rfl
        · rintro w' L args hL haf hi hA
          subst hA
          refine (bReadRow_any gc l0 0 0 b h s d n w' (hi.cur hL) hb0 hh0 hs0 hd0 hn0).mono ?_
          unfold RdPost
          rw [HX.out, HP.out, HE.out]
          rintro e w'' ⟨a9, k9, c9, rfl, hl9, hk9, hown, hc, hg⟩
          have hBw := hi.2.2.1.2
          obtain ⟨h1, h2⟩ := hi.c hc hg (by decide) hrc (fun hb => ⟨hb.1.grown hg (by simp; omega), Nat.le_trans hb.2 hg.size⟩) hB0c (hi.2.2.2.size) hcB
          exact ⟨_, rfl, ⟨⟨a9, k9, c9, rfl, hl9, hk9, hown.mono hBw⟩, hc⟩, h1, h2⟩
        apply gi_val _ SK.refl (fun L w' _ h => h.set (show (3 : Nat) ≠ 4 by decide) (show (7 : Nat) ≠ 4 by decide))
        · intro a' w' L hL haf hi hk
          refine ⟨wanted_none rfl, ?_⟩
          try simp [Oper.looksAt, Op.operands, Call.operands, KnownAt, List.lookup, consD] at hk
          simp [execOp, Act.eval, hk, go_sem]
          all_goals rfl
        apply gi_val (.agg #[.int .i64 b, .int .i64 h, .int .i64 s, .int .i64 d]) SK.refl (fun L w' _ h => h.set (show (3 : Nat) ≠ 5 by decide) (show (7 : Nat) ≠ 5 by decide))
        · intro a' w' L hL haf hi hk
          refine ⟨wanted_none rfl, ?_⟩
          obtain ⟨hc0, hc1, hc2, hc3⟩ := hi.2.2.1.1.four
          try simp [Oper.looksAt, Op.operands, Call.operands, KnownAt, List.lookup, consD] at hk
          simp [execOp, Act.eval, hk, go_sem, hc0, hc1, hc2, hc3]
          all_goals rfl
        apply gi_val _ SK.refl (fun L w' _ h => h.set (show (3 : Nat) ≠ 6 by decide) (show (7 : Nat) ≠ 6 by decide))
        · intro a' w' L hL haf hi hk
          refine ⟨wanted_none rfl, ?_⟩
          try simp [Oper.looksAt, Op.operands, Call.operands, KnownAt, List.lookup, consD] at hk
          simp [execOp, Act.eval, hk, go_sem]
          all_goals rfl
        refine gi_callX 53 (fun args _ => args = #[.pointer (some ⟨gr, 0, none⟩), .agg #[.int .i64 b, .int .i64 h, .int .i64 s, .int .i64 d], .int .i64 n]) (fun v w => OwnG B 3 iE X v w ∧ RefOk w gr l0 P E) (monoSK_OR _) ?_ ?_ ?_
        · intro a' w' L hL haf hi hk
          refine ⟨wanted_none rfl, _, rfl, ?_⟩
          try simp [Oper.looksAt, Op.operands, Call.operands, KnownAt, List.lookup, consD] at hk
          simp [execOp, Act.eval, hk, go_sem]
          all_goals rfl
        · rintro w' L args hL haf hi hA
          subst hA
          refine (rReadRow_any gr l0 0 0 b h s d n w' (hi.ref hL) hb0 hh0 hs0 hd0 hn0).mono ?_
          unfold RRdPost
          rw [HX.out, HP.out, HE.out]
          rintro e w'' ⟨a9, k9, c9, rfl, hl9, hk9, hown, hc, hg⟩
          have hBw := hi.2.2.1.2
          obtain ⟨h1, h2⟩ := hi.r hc hg (by decide) hcr (fun hb => ⟨hb.1.grown hg (by simp; omega), Nat.le_trans hb.2 hg.size⟩) hB0r (hi.2.2.2.size) hrB
          exact ⟨_, rfl, ⟨⟨a9, k9, c9, rfl, hl9, hk9, hown.mono hBw⟩, hc⟩, h1, h2⟩
        refine gi_callX 51 (fun args w => (∃ a1 k1 c1 a2 k2 c2, args = #[.slice a1 k1 c1, .slice a2 k2 c2] ∧ X.length = k1 ∧ X.length = k2 ∧ k1 ≤ 1000000000001 ∧ k2 ≤ 1000000000001 ∧ Rd w iE a1 X ∧ Rd w iE a2 X) ∧ KK gc gr l0 P E w) (fun v w => v = .bool true ∧ KK gc gr l0 P E w) (monoSK_K _) ?_ ?_ ?_
        · intro a' w' L hL haf hi hk
          obtain ⟨⟨a1, k1, c1, e1, l1, m1, o1⟩, h61⟩ := known_of (hk 61 (by decide)) rfl
          obtain ⟨⟨a2, k2, c2, e2, l2, m2, o2⟩, h65⟩ := known_of (hk 65 (by decide)) rfl
          clear hk
          have hk := And.intro e1 e2
          refine ⟨wanted_none rfl, _, ⟨⟨a1, k1, c1, a2, k2, c2, rfl, l1, l2, m1, m2, o1.rd, o2.rd⟩, h61, h65⟩, ?_⟩
          try simp [Oper.looksAt, Op.operands, Call.operands, KnownAt, List.lookup, consD] at hk
          simp [execOp, Act.eval, hk, go_sem]
          all_goals rfl
        · rintro w' L args hL haf hi hA
          obtain ⟨⟨a1, k1, c1, a2, k2, c2, rfl, l1, l2, m1, m2, o1, o2⟩, hK⟩ := hA
          refine (same24_any a1 k1 c1 X a2 k2 c2 X w' l1 l2 m1 m2 o1 o2).mono ?_
          rintro e w'' ⟨rfl, hb⟩
          obtain ⟨h1, h2⟩ := hi.b (k := 8) hb (by decide) (by decide) (fun hx => ⟨hx.1.below hb, Nat.le_trans hx.2 hb.size⟩) hi.2.2.2.size
          exact ⟨_, rfl, ⟨by rw [decide_eq_true rfl], h1.2.2.1 hK.1, h1.2.2.2 hK.2⟩, h1, h2⟩
        refine gi_valX (fun v w => v = .bool true ∧ KK gc gr l0 P E w) (monoSK_K _) SK.refl (fun L w' _ h => h.set (show (3 : Nat) ≠ 9 by decide) (show (7 : Nat) ≠ 9 by decide)) ?_ ?_
        · intro a' w' L hL haf hi hk
          have hK : KK gc gr l0 P E w' := (known_of (hk 66 (by decide)) rfl).2
          refine ⟨wanted_none rfl, .bool true, ?_, rfl, hK⟩
          try simp [Oper.looksAt, Op.operands, Call.operands, KnownAt, List.lookup, consD] at hk
          simp [execOp, Act.eval, hk, go_sem]
          all_goals rfl
        apply gi_val _ SK.refl (fun L w' _ h => h.set (show (3 : Nat) ≠ 10 by decide) (show (7 : Nat) ≠ 10 by decide))
        · intro a' w' L hL haf hi hk
          refine ⟨wanted_guard (t := 67) rfl rfl (known_of (hk 67 (by decide)) rfl).1, ?_⟩
          try simp [Oper.looksAt, Op.operands, Call.operands, KnownAt, List.lookup, consD] at hk
          simp [execOp, Act.eval, hk, go_sem]
          all_goals rfl
        refine gi_callX 49 (fun args w => args = #[.pointer (some ⟨gc, 0, none⟩)] ∧ KK gc gr l0 P E w) (fun v _ => v = .int .i64 E) (monoSK_eq _) ?_ ?_ ?_
        · intro a' w' L hL haf hi hk
          have hK : KK gc gr l0 P E w' := (known_of (hk 67 (by decide)) rfl).2
          refine ⟨wanted_guard (t := 67) rfl rfl (known_of (hk 67 (by decide)) rfl).1, _, ⟨rfl, hK⟩, ?_⟩
          try simp [Oper.looksAt, Op.operands, Call.operands, KnownAt, List.lookup, consD] at hk
          simp [execOp, Act.eval, hk, go_sem]
          all_goals rfl
        · rintro w' L args hL haf hi hA
          obtain ⟨rfl, hK⟩ := hA
          refine (cErr_any gc l0 P E w' hK.1).mono ?_
          rintro e w'' ⟨rfl, rfl⟩
          exact ⟨_, rfl, rfl, SK.refl _, hi.set (by decide) (by decide)⟩
        apply gi_val _ SK.refl (fun L w' _ h => h.set (show (3 : Nat) ≠ 12 by decide) (show (7 : Nat) ≠ 12 by decide))
        · intro a' w' L hL haf hi hk
          refine ⟨wanted_guard (t := 67) rfl rfl (known_of (hk 67 (by decide)) rfl).1, ?_⟩
          try simp [Oper.looksAt, Op.operands, Call.operands, KnownAt, List.lookup, consD] at hk
          simp [execOp, Act.eval, hk, go_sem]
          all_goals rfl
        apply gi_val _ SK.refl (fun L w' _ h => h.set (show (3 : Nat) ≠ 13 by decide) (show (7 : Nat) ≠ 13 by decide))
        · intro a' w' L hL haf hi hk
          refine ⟨wanted_guard (t := 67) rfl rfl (known_of (hk 67 (by decide)) rfl).1, ?_⟩
          try simp [Oper.looksAt, Op.operands, Call.operands, KnownAt, List.lookup, consD] at hk
          simp [execOp, Act.eval, hk, go_sem]
          all_goals rfl
        apply gi_val _ SK.refl (fun L w' _ h => h.set (show (3 : Nat) ≠ 14 by decide) (show (7 : Nat) ≠ 14 by decide))
        · intro a' w' L hL haf hi hk
          refine ⟨wanted_guard (t := 67) rfl rfl (known_of (hk 67 (by decide)) rfl).1, ?_⟩
          try simp [Oper.looksAt, Op.operands, Call.operands, KnownAt, List.lookup, consD] at hk
          simp [execOp, Act.eval, hk, go_sem]
          all_goals rfl
        apply gi_val (.int .i64 E) SK.refl (fun L w' _ h => h.set (show (3 : Nat) ≠ 15 by decide) (show (7 : Nat) ≠ 15 by decide))
        · intro a' w' L hL haf hi hk
          have hK : KK gc gr l0 P E w' := (known_of (hk 67 (by decide)) rfl).2
          refine ⟨wanted_guard (t := 67) rfl rfl (known_of (hk 67 (by decide)) rfl).1, ?_⟩
          have hc := hK.2.cell2
          try simp [Oper.looksAt, Op.operands, Call.operands, KnownAt, List.lookup, consD] at hk
          simp [execOp, Act.eval, hk, go_sem, hc]
          all_goals rfl
        apply gi_val _ SK.refl (fun L w' _ h => h.set (show (3 : Nat) ≠ 16 by decide) (show (7 : Nat) ≠ 16 by decide))
        · intro a' w' L hL haf hi hk
          refine ⟨wanted_guard (t := 67) rfl rfl (known_of (hk 67 (by decide)) rfl).1, ?_⟩
          try simp [Oper.looksAt, Op.operands, Call.operands, KnownAt, List.lookup, consD] at hk
          simp [execOp, Act.eval, hk, go_sem]
          all_goals rfl
        refine gi_valX (fun v w => v = .bool true ∧ KK gc gr l0 P E w) (monoSK_K _) SK.refl (fun L w' _ h => h.set (show (3 : Nat) ≠ 17 by decide) (show (7 : Nat) ≠ 17 by decide)) ?_ ?_
        · intro a' w' L hL haf hi hk
          have hK : KK gc gr l0 P E w' := (known_of (hk 67 (by decide)) rfl).2
          refine ⟨wanted_none rfl, .bool true, ?_, rfl, hK⟩
          try simp [Oper.looksAt, Op.operands, Call.operands, KnownAt, List.lookup, consD] at hk
          simp [execOp, Act.eval, hk, go_sem]
          all_goals rfl
        refine gi_valX (fun v w => v = .bool true ∧ KK gc gr l0 P E w) (monoSK_K _) SK.refl (fun L w' _ h => h.set (show (3 : Nat) ≠ 18 by decide) (show (7 : Nat) ≠ 18 by decide)) ?_ ?_
        · intro a' w' L hL haf hi hk
          have hK : KK gc gr l0 P E w' := (known_of (hk 75 (by decide)) rfl).2
          refine ⟨wanted_none rfl, .bool true, ?_, rfl, hK⟩
          try simp [Oper.looksAt, Op.operands, Call.operands, KnownAt, List.lookup, consD] at hk
          simp [execOp, Act.eval, hk, go_sem]
          all_goals rfl
        apply gi_val _ SK.refl (fun L w' _ h => h.set (show (3 : Nat) ≠ 19 by decide) (show (7 : Nat) ≠ 19 by decide))
        · intro a' w' L hL haf hi hk
          refine ⟨wanted_guard (t := 76) rfl rfl (known_of (hk 76 (by decide)) rfl).1, ?_⟩
          try simp [Oper.looksAt, Op.operands, Call.operands, KnownAt, List.lookup, consD] at hk
          simp [execOp, Act.eval, hk, go_sem]
          all_goals rfl
        apply gi_val _ SK.refl (fun L w' _ h => h.set (show (3 : Nat) ≠ 20 by decide) (show (7 : Nat) ≠ 20 by decide))
        · intro a' w' L hL haf hi hk
          refine ⟨wanted_guard (t := 76) rfl rfl (known_of (hk 76 (by decide)) rfl).1, ?_⟩
          try simp [Oper.looksAt, Op.operands, Call.operands, KnownAt, List.lookup, consD] at hk
          simp [execOp, Act.eval, hk, go_sem]
          all_goals rfl
        apply gi_val _ SK.refl (fun L w' _ h => h.set (show (3 : Nat) ≠ 21 by decide) (show (7 : Nat) ≠ 21 by decide))
        · intro a' w' L hL haf hi hk
          refine ⟨wanted_guard (t := 76) rfl rfl (known_of (hk 76 (by decide)) rfl).1, ?_⟩
          try simp [Oper.looksAt, Op.operands, Call.operands, KnownAt, List.lookup, consD] at hk
          simp [execOp, Act.eval, hk, go_sem]
          all_goals rfl
        apply gi_val (.int .i64 E) SK.refl (fun L w' _ h => h.set (show (3 : Nat) ≠ 22 by decide) (show (7 : Nat) ≠ 22 by decide))
        · intro a' w' L hL haf hi hk
          have hK : KK gc gr l0 P E w' := (known_of (hk 76 (by decide)) rfl).2
          refine ⟨wanted_guard (t := 76) rfl rfl (known_of (hk 76 (by decide)) rfl).1, ?_⟩
          have hc := hK.2.cell2
          try simp [Oper.looksAt, Op.operands, Call.operands, KnownAt, List.lookup, consD] at hk
          simp [execOp, Act.eval, hk, go_sem, hc]
          all_goals rfl
        apply gi_val _ SK.refl (fun L w' _ h => h.set (show (3 : Nat) ≠ 23 by decide) (show (7 : Nat) ≠ 23 by decide))
        · intro a' w' L hL haf hi hk
          refine ⟨wanted_guard (t := 76) rfl rfl (known_of (hk 76 (by decide)) rfl).1, ?_⟩
          try simp [Oper.looksAt, Op.operands, Call.operands, KnownAt, List.lookup, consD] at hk
          simp [execOp, Act.eval, hk, go_sem]
          all_goals rfl
        refine gi_valX (fun v w => v = .bool true ∧ KK gc gr l0 P E w) (monoSK_K _) SK.refl (fun L w' _ h => h.set (show (3 : Nat) ≠ 24 by decide) (show (7 : Nat) ≠ 24 by decide)) ?_ ?_
        · intro a' w' L hL haf hi hk
          have hK : KK gc gr l0 P E w' := (known_of (hk 76 (by decide)) rfl).2
          refine ⟨wanted_guard (t := 76) rfl rfl (known_of (hk 76 (by decide)) rfl).1, .bool true, ?_, rfl, hK⟩
          try simp [Oper.looksAt, Op.operands, Call.operands, KnownAt, List.lookup, consD] at hk
          simp [execOp, Act.eval, hk, go_sem, hE0]
          all_goals rfl
        refine gi_skip SK.refl (fun L w' _ h => h.set (show (3 : Nat) ≠ 25 by decide) (show (7 : Nat) ≠ 25 by decide)) (fun a' w' hk => wanted_not (t := 82) rfl rfl (known_of (hk 82 (by decide)) rfl).1 (by decide)) ?_
        refine gi_skip SK.refl (fun L w' _ h => h.set (show (3 : Nat) ≠ 26 by decide) (show (7 : Nat) ≠ 26 by decide)) (fun a' w' hk => wanted_not (t := 82) rfl rfl (known_of (hk 82 (by decide)) rfl).1 (by decide)) ?_
        refine gi_skip SK.refl (fun L w' _ h => h.set (show (3 : Nat) ≠ 27 by decide) (show (7 : Nat) ≠ 27 by decide)) (fun a' w' hk => wanted_not (t := 82) rfl rfl (known_of (hk 82 (by decide)) rfl).1 (by decide)) ?_
        refine gi_skip SK.refl (fun L w' _ h => h.set (show (3 : Nat) ≠ 28 by decide) (show (7 : Nat) ≠ 28 by decide)) (fun a' w' hk => wanted_not (t := 82) rfl rfl (known_of (hk 82 (by decide)) rfl).1 (by decide)) ?_
        refine gi_skip SK.refl (fun L w' _ h => h.set (show (3 : Nat) ≠ 29 by decide) (show (7 : Nat) ≠ 29 by decide)) (fun a' w' hk => wanted_not (t := 82) rfl rfl (known_of (hk 82 (by decide)) rfl).1 (by decide)) ?_
        refine gi_skip SK.refl (fun L w' _ h => h.set (show (3 : Nat) ≠ 30 by decide) (show (7 : Nat) ≠ 30 by decide)) (fun a' w' hk => wanted_not (t := 82) rfl rfl (known_of (hk 82 (by decide)) rfl).1 (by decide)) ?_
        refine gi_skip SK.refl (fun L w' _ h => h.set (show (3 : Nat) ≠ 31 by decide) (show (7 : Nat) ≠ 31 by decide)) (fun a' w' hk => wanted_not (t := 82) rfl rfl (known_of (hk 82 (by decide)) rfl).1 (by decide)) ?_
        apply gi_val _ SK.refl (fun L w' _ h => h.set (show (3 : Nat) ≠ 32 by decide) (show (7 : Nat) ≠ 32 by decide))
        · intro a' w' L hL haf hi hk
          refine ⟨wanted_guard (t := 76) rfl rfl (known_of (hk 76 (by decide)) rfl).1, ?_⟩
          try simp [Oper.looksAt, Op.operands, Call.operands, KnownAt, List.lookup, consD] at hk
          simp [execOp, Act.eval, hk, go_sem]
          all_goals rfl
        apply gi_val _ SK.refl (fun L w' _ h => h.set (show (3 : Nat) ≠ 33 by decide) (show (7 : Nat) ≠ 33 by decide))
        · intro a' w' L hL haf hi hk
          refine ⟨wanted_none rfl, ?_⟩
          try simp [Oper.looksAt, Op.operands, Call.operands, KnownAt, List.lookup, consD] at hk
          simp [execOp, Act.eval, hk, go_sem]
          all_goals rfl
        apply gi_val _ SK.refl (fun L w' _ h => h.set (show (3 : Nat) ≠ 34 by decide) (show (7 : Nat) ≠ 34 by decide))
        · intro a' w' L hL haf hi hk
          refine ⟨wanted_none rfl, ?_⟩
          try simp [Oper.looksAt, Op.operands, Call.operands, KnownAt, List.lookup, consD] at hk
          simp [execOp, Act.eval, hk, go_sem]
          all_goals rfl
        intro vs w' L hall hi hval
        simp only [AllS, consD] at hval
        simp only [consD, putAllS, Act.put]
        obtain ⟨h9, -⟩ := hval
        rw [h9]
        simp only [List.setIfInBounds_toArray, List.set_cons_succ, List.set_cons_zero]
        have hB9 := hi.2.2.2
        clear hi h9
        go_wp2
        go_ret
        exact ⟨rfl, hB9⟩
end Go.Proofs.Ytnmdgmjheopolaa
