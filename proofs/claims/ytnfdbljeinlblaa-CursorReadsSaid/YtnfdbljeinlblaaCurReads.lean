/- The walk of CursorReads. -/
import Derived.Test.YtnfdbljeinlblaaReadsJ
namespace Go.Proofs.Ytnfdbljeinlblaa
open Go.RowKit
set_option linter.unusedVariables false
set_option linter.unusedSimpArgs false

theorem below_drew0 {w : World} : Below w.heap.size w w.drew := (Below.refl _ _).drew
theorem drew_later {w w' : World} (h : Below w.drew.heap.size w.drew w') : Below w.heap.size w w' := below_drew0.trans h
theorem monoS_bytes (l : List UInt8) : MonoS ByteKeep (BytesG l) := fun v w w' ⟨a, n, c, h1, h2, h3⟩ hk => ⟨a, n, c, h1, h2, h3.keep hk⟩
theorem RefOk.new (w : World) {a : Option Addr} {n c : Nat} {l : List UInt8} (hl : l.length = n) (hnc : n ≤ c) (hc : c ≤ 9223372036854775807 ∧ n ≤ 1000000000000) (hr : Rd w bE a l) :
    RefOk (w.alloc (.cells #[.slice a n c, .int .i64 0, .int .i64 0] 64)) w.heap.size l 0 0 :=
  ⟨a, n, c, Blk.new _ _ _, hl, hnc, hc, hr.below (below_alloc _ _), Nat.zero_le _⟩

set_option maxHeartbeats 16000000 in
set_option maxRecDepth 100000 in
theorem walkCursorReads (a0 : Option Addr) (n0 c0 : Nat) (l0 : List UInt8) (a1 : Option Addr) (n1 c1 : Nat) (F1 : Nat → Nat → Value) (w : World)
    (hl0 : l0.length = n0) (hm0 : n0 ≤ c0 ∧ c0 ≤ maxLen) (hr0 : Rd w bE a0 l0) (hm1 : n1 ≤ c1 ∧ c1 ≤ maxLen) (hr1 : RdN w a1 n1 2 F1)
    (hf1 : ∀ i, i < n1 → ∃ (x0 x1 : Int), F1 i 0 = .int .u8 x0 ∧ F1 i 1 = .int .i64 x1 ∧ (0 ≤ x0 ∧ x0 < 256) ∧ (-9223372036854775808 ≤ x1 ∧ x1 ≤ 9223372036854775807)) :
    Calls Try.prog 13 #[.slice a0 n0 c0, .slice a1 n1 c1] w fun e w' => e = .returned (.bool true) ∧ Below w.heap.size w w' := by
  unfold maxLen at hm0 hm1
  go_enter Try.func13, Try.ntmps13
  go_wp2_with fail
  refine (fixed02_any _).mono ?_
  rintro e w1 ⟨rfl, hb1⟩
  have hs1 := hb1.size
  by_cases h500 : n0 > 500
  · clear hr0 hr1 hf1
    go_wp2
    go_ret
    exact ⟨rfl, hb1⟩
  · by_cases h200 : n1 > 200
    · clear hr0 hr1 hf1
      go_wp2
      go_ret
      exact ⟨rfl, hb1⟩
    · go_wp2_with fail
      refine (cNew_any a0 n0 c0 l0 w1 hl0 (by omega) (hr0.below hb1)).mono ?_
      rintro e w2 ⟨g, rfl, hg, hcur, hb⟩
      have hB2 := below_trans0 hb1 hs1 hb
      have hs2 := hB2.size
      have href := RefOk.new w2 hl0 hm0.1 ⟨by omega, by omega⟩ (hr0.below hB2)
      have hcur2 := hcur.below (below_alloc w2 (.cells #[.slice a0 n0 c0, .int .i64 0, .int .i64 0] 64))
      have hB3 := hB2.alloc hs2 (.cells #[.slice a0 n0 c0, .int .i64 0, .int .i64 0] 64)
      have hgl : g < w2.heap.size := by obtain ⟨a, n, c, hbb, _⟩ := hcur.ex; exact hbb.lt
      have HL0 := Lib.hid hl0
      have HR1 := Lib.hid hr1
      have HF1 := Lib.hid hf1
      have hBg : w.heap.size ≤ g := by omega
      have hBh : w.heap.size ≤ w2.heap.size := hs2
      have hgh : g ≠ w2.heap.size := by omega
      have hhg : w2.heap.size ≠ g := by omega
      clear hb hcur hb1 hs1 hB2 hs2 hr0 hr1 hf1 hl0
      go_wp2_with fail
      generalize w2.alloc (.cells #[.slice a0 n0 c0, .int .i64 0, .int .i64 0] 64) = w3 at href hcur2 hB3 ⊢
      generalize w2.heap.size = h at href hBh hgh hhg ⊢
      clear hg hgl
      go_loopw [27] (fun i wr => ∃ (k p : Nat) (er : Int), k ≤ n1 ∧ i = .int .i64 k ∧ CurOk wr g l0 p er ∧ RefOk wr h l0 p er ∧ Below w.heap.size w wr) (fun i _ => n1 - (intOf i).toNat)
      case atStart => exact ⟨0, 0, 0, by omega, rfl, hcur2, href, hB3⟩
      case round =>
        obtain ⟨k, p, er, hk, rfl, hcur, href2, hB⟩ := hrel
        clear hcur2 href hB3
        by_cases hlt : k < n1
        · obtain ⟨b, off, rfl, hcells⟩ := (HR1.out.below hB).at hlt
          obtain ⟨kd, m, e0, e1, hkd, hm⟩ := HF1.out k hlt
          have hc0 := hcells 0 (by decide)
          have hc1 := hcells 1 (by decide)
          rw [e0, Nat.add_zero] at hc0
          rw [e1, ← Nat.add_assoc] at hc1
          have hqg : wr.heap.size ≠ g := by obtain ⟨a, n, c, hbb, _⟩ := hcur.ex; have := hbb.lt; omega
          have hqh : wr.heap.size ≠ h := by obtain ⟨a, n, c, hbb, _⟩ := href2.ex; have := hbb.lt; omega
          clear hcells e0 e1
          have hcur1 := hcur.below (below_alloc wr (.cells #[.int .u8 kd, .int .i64 m] 66))
          have href1 := href2.below (below_alloc wr (.cells #[.int .u8 kd, .int .i64 m] 66))
          have hB1 := hB.alloc hB.size (.cells #[.int .u8 kd, .int .i64 m] 66)
          have hq1 : (wr.alloc (.cells #[.int .u8 kd, .int .i64 m] 66)).cell? ⟨wr.heap.size, 1, none⟩ = some (.int .i64 m) := (Blk.new wr _ _).cell rfl
          have hq0 : (wr.alloc (.cells #[.int .u8 kd, .int .i64 m] 66)).cell? ⟨wr.heap.size, 0, none⟩ = some (.int .u8 kd) := (Blk.new wr _ _).cell rfl
          clear hcur href2 hB
          by_cases k0 : kd = 0
          · subst k0
            clear hq0
            obtain ⟨V, hV⟩ : ∃ V, bigR (nextL l0 p er m (sizedB m)) = V := ⟨_, rfl⟩
            have HV := Lib.hid hV
            clear hV
            obtain ⟨pn, hPN⟩ : ∃ x, nextAt l0.length p er m (sizedB m) = x := ⟨_, rfl⟩
            obtain ⟨en, hEN⟩ : ∃ x, nextEr l0.length p er m (sizedB m) = x := ⟨_, rfl⟩
            have HPN := Lib.hid hPN
            have HEN := Lib.hid hEN
            clear hPN hEN
            go_wp2_with fail
            refine wp_region_growI ByteKeep (IR w.heap.size w g h wr.heap.size m l0 p er pn en 3 7) (by kernel_rfl) (by kernel_rfl) (by rfl) ⟨⟨hcur1.ex⟩, ⟨href1.ex⟩, hq1, hB1.drew⟩ ?_
            apply gi_val _ ByteKeep.refl (fun L w' _ h => h.set (show (3 : Nat) ≠ 0 by decide) (show (7 : Nat) ≠ 0 by decide))
            · intro a' w' L hL haf hi hk
              refine ⟨wanted_none rfl, ?_⟩
              simp [Oper.looksAt, Op.operands, Call.operands, KnownAt, List.lookup, consD] at hk
              simp [execOp, Act.eval, hk, go_sem]
              all_goals rfl
            apply gi_val _ ByteKeep.refl (fun L w' _ h => h.set (show (3 : Nat) ≠ 1 by decide) (show (7 : Nat) ≠ 1 by decide))
            · intro a' w' L hL haf hi hk
              refine ⟨wanted_none rfl, ?_⟩
              simp [Oper.looksAt, Op.operands, Call.operands, KnownAt, List.lookup, consD] at hk
              simp [execOp, Act.eval, hk, go_sem]
              all_goals rfl
            apply gi_val _ ByteKeep.refl (fun L w' _ h => h.set (show (3 : Nat) ≠ 2 by decide) (show (7 : Nat) ≠ 2 by decide))
            · intro a' w' L hL haf hi hk
              refine ⟨wanted_none rfl, ?_⟩
              simp [Oper.looksAt, Op.operands, Call.operands, KnownAt, List.lookup, consD] at hk
              have hcell := hi.2.2.1
              simp [execOp, Act.eval, hk, go_sem, hcell]
              all_goals rfl
            refine gi_call _ #[.pointer (some ⟨g, 0, none⟩), .int .i64 m] (fun v _ => v = .int .u64 V) (monoS_eq _) (fun a' w' hk => ?_) (fun w' L hL haf hi => (cBigGet_any g l0 p er m w' (hi.cur hL) hm.1 hm.2).mono ?_) ?_
            · refine ⟨wanted_none rfl, ?_⟩
              simp [Oper.looksAt, Op.operands, Call.operands, KnownAt, List.lookup, consD] at hk
              simp [execOp, Act.eval, hk, go_sem]
              all_goals rfl
            · rw [HV.out]
              rintro e w'' ⟨rfl, hc, hg⟩
              obtain ⟨h1, h2⟩ := hi.c (by rw [← HPN.out, ← HEN.out]; exact hc) hg (by decide) hhg hqg hBg (hi.2.2.2.size)
              exact ⟨_, rfl, rfl, h1, h2⟩
            apply gi_val _ ByteKeep.refl (fun L w' _ h => h.set (show (3 : Nat) ≠ 4 by decide) (show (7 : Nat) ≠ 4 by decide))
            · intro a' w' L hL haf hi hk
              refine ⟨wanted_none rfl, ?_⟩
              simp [Oper.looksAt, Op.operands, Call.operands, KnownAt, List.lookup, consD] at hk
              simp [execOp, Act.eval, hk, go_sem]
              all_goals rfl
            apply gi_val _ ByteKeep.refl (fun L w' _ h => h.set (show (3 : Nat) ≠ 5 by decide) (show (7 : Nat) ≠ 5 by decide))
            · intro a' w' L hL haf hi hk
              refine ⟨wanted_none rfl, ?_⟩
              simp [Oper.looksAt, Op.operands, Call.operands, KnownAt, List.lookup, consD] at hk
              simp [execOp, Act.eval, hk, go_sem]
              all_goals rfl
            apply gi_val _ ByteKeep.refl (fun L w' _ h => h.set (show (3 : Nat) ≠ 6 by decide) (show (7 : Nat) ≠ 6 by decide))
            · intro a' w' L hL haf hi hk
              refine ⟨wanted_none rfl, ?_⟩
              simp [Oper.looksAt, Op.operands, Call.operands, KnownAt, List.lookup, consD] at hk
              have hcell := hi.2.2.1
              simp [execOp, Act.eval, hk, go_sem, hcell]
              all_goals rfl
            refine gi_call _ #[.pointer (some ⟨h, 0, none⟩), .int .i64 m] (fun v _ => v = .int .u64 V) (monoS_eq _) (fun a' w' hk => ?_) (fun w' L hL haf hi => (rBigGet_any h l0 p er m w' (hi.ref hL) hm.1 hm.2).mono ?_) ?_
            · refine ⟨wanted_none rfl, ?_⟩
              simp [Oper.looksAt, Op.operands, Call.operands, KnownAt, List.lookup, consD] at hk
              simp [execOp, Act.eval, hk, go_sem]
              all_goals rfl
            · rw [HV.out]
              rintro e w'' ⟨rfl, hc, hg⟩
              obtain ⟨h1, h2⟩ := hi.r (by rw [← HPN.out, ← HEN.out]; exact hc) hg (by decide) hgh hqh hBh (hi.2.2.2.size)
              exact ⟨_, rfl, rfl, h1, h2⟩
            apply gi_val _ ByteKeep.refl (fun L w' _ h => h.set (show (3 : Nat) ≠ 8 by decide) (show (7 : Nat) ≠ 8 by decide))
            · intro a' w' L hL haf hi hk
              refine ⟨wanted_none rfl, ?_⟩
              simp [Oper.looksAt, Op.operands, Call.operands, KnownAt, List.lookup, consD] at hk
              simp [execOp, Act.eval, hk, go_sem]
              all_goals rfl
            apply gi_val _ ByteKeep.refl (fun L w' _ h => h.set (show (3 : Nat) ≠ 9 by decide) (show (7 : Nat) ≠ 9 by decide))
            · intro a' w' L hL haf hi hk
              refine ⟨wanted_none rfl, ?_⟩
              simp [Oper.looksAt, Op.operands, Call.operands, KnownAt, List.lookup, consD] at hk
              simp [execOp, Act.eval, hk, go_sem]
              all_goals rfl
            intro vs w' L hall hi hval
            simp only [AllS, consD] at hval
            simp only [consD, putAllS, Act.put]
            obtain ⟨h9, -⟩ := hval
            rw [h9]
            simp only [List.setIfInBounds_toArray, List.set_cons_succ, List.set_cons_zero]
            have hcur2 := hi.1
            have href2 := hi.2.1
            have hB2 := hi.2.2.2
            rw [hall 3 (by decide)] at hcur2
            rw [hall 7 (by decide)] at href2
            simp only [cond_true] at hcur2 href2
            clear hi h9
            have hpn := hcur2.place
            have HCUR := Lib.hid hcur2
            have HREF := Lib.hid href2
            have HB := Lib.hid hB2
            rw [HL0.out] at hpn
            clear hcur2 href2 hB2
            go_wp2_with fail
            refine wp_region_grow (by kernel_rfl) (by kernel_rfl) (by rfl) ?_
            apply gw_val
            · intro a' w' hk
              refine ⟨wanted_none rfl, ?_⟩
              simp [Oper.looksAt, Op.operands, Call.operands, KnownAt, List.lookup, consD] at hk
              simp [execOp, Act.eval, hk, go_sem]
              all_goals rfl
            apply gw_val
            · intro a' w' hk
              refine ⟨wanted_none rfl, ?_⟩
              simp [Oper.looksAt, Op.operands, Call.operands, KnownAt, List.lookup, consD] at hk
              simp [execOp, Act.eval, hk, go_sem]
              all_goals rfl
            apply gw_val
            · intro a' w' hk
              refine ⟨wanted_none rfl, ?_⟩
              simp [Oper.looksAt, Op.operands, Call.operands, KnownAt, List.lookup, consD] at hk
              simp [execOp, Act.eval, hk, go_sem]
              all_goals rfl
            apply gw_val
            · intro a' w' hk
              refine ⟨wanted_guard (t := 93) rfl rfl (by simpa [KnownAt, List.lookup, consD] using hk 93 (by decide)), ?_⟩
              simp [Oper.looksAt, Op.operands, Call.operands, KnownAt, List.lookup, consD] at hk
              simp [execOp, Act.eval, hk, go_sem]
              all_goals rfl
            refine gw_call _ #[.pointer (some ⟨g, 0, none⟩)] (fun v _ => v = .int .i64 (pn : Int)) (mono_eq _) (fun a' w' hk => ?_) (fun w' hb => (cAt_any g l0 pn en w' (HCUR.out.below (below_drew0.trans hb))).mono ?_) ?_
            · refine ⟨wanted_guard (t := 93) rfl rfl (by simpa [KnownAt, List.lookup, consD] using hk 93 (by decide)), ?_⟩
              simp [Oper.looksAt, Op.operands, Call.operands, KnownAt, List.lookup, consD] at hk
              simp [execOp, Act.eval, hk, go_sem]
              all_goals rfl
            · rintro e w'' ⟨rfl, rfl⟩
              exact ⟨_, rfl, rfl, Below.refl _ _⟩
            apply gw_val
            · intro a' w' hk
              refine ⟨wanted_guard (t := 93) rfl rfl (by simpa [KnownAt, List.lookup, consD] using hk 93 (by decide)), ?_⟩
              simp [Oper.looksAt, Op.operands, Call.operands, KnownAt, List.lookup, consD] at hk
              simp [execOp, Act.eval, hk, go_sem]
              all_goals rfl
            apply gw_val
            · intro a' w' hk
              refine ⟨wanted_guard (t := 93) rfl rfl (by simpa [KnownAt, List.lookup, consD] using hk 93 (by decide)), ?_⟩
              simp [Oper.looksAt, Op.operands, Call.operands, KnownAt, List.lookup, consD] at hk
              simp [execOp, Act.eval, hk, go_sem]
              all_goals rfl
            apply gw_val
            · intro a' w' hk
              refine ⟨wanted_guard (t := 93) rfl rfl (by simpa [KnownAt, List.lookup, consD] using hk 93 (by decide)), ?_⟩
              simp [Oper.looksAt, Op.operands, Call.operands, KnownAt, List.lookup, consD] at hk
              simp [execOp, Act.eval, hk, go_sem]
              all_goals rfl
            refine gw_valB (fun v _ => v = .int .i64 (pn : Int)) (mono_eq _) ?_ ?_
            · intro a' w' hb' hk
              refine ⟨wanted_guard (t := 93) rfl rfl (by simpa [KnownAt, List.lookup, consD] using hk 93 (by decide)), _, ?_, rfl⟩
              obtain ⟨ar, nr, cr, hbr, -⟩ := (HREF.out.below (below_drew0.trans hb')).ex
              have hc := hbr.cell (i := 1) rfl
              simp [Oper.looksAt, Op.operands, Call.operands, KnownAt, List.lookup, consD] at hk
              simp [execOp, Act.eval, hk, hc, go_sem]
              all_goals rfl
            apply gw_val
            · intro a' w' hk
              refine ⟨wanted_guard (t := 93) rfl rfl (by simpa [KnownAt, List.lookup, consD] using hk 93 (by decide)), ?_⟩
              simp [Oper.looksAt, Op.operands, Call.operands, KnownAt, List.lookup, consD] at hk
              simp [execOp, Act.eval, hk, go_sem]
              all_goals rfl
            apply gw_val
            · intro a' w' hk
              refine ⟨wanted_none rfl, ?_⟩
              simp [Oper.looksAt, Op.operands, Call.operands, KnownAt, List.lookup, consD] at hk
              simp [execOp, Act.eval, hk, go_sem]
              all_goals rfl
            apply gw_val
            · intro a' w' hk
              refine ⟨wanted_none rfl, ?_⟩
              simp [Oper.looksAt, Op.operands, Call.operands, KnownAt, List.lookup, consD] at hk
              simp [execOp, Act.eval, hk, go_sem]
              all_goals rfl
            apply gw_val
            · intro a' w' hk
              refine ⟨wanted_guard (t := 102) rfl rfl (by simpa [KnownAt, List.lookup, consD] using hk 102 (by decide)), ?_⟩
              simp [Oper.looksAt, Op.operands, Call.operands, KnownAt, List.lookup, consD] at hk
              simp [execOp, Act.eval, hk, go_sem]
              all_goals rfl
            refine gw_call _ #[.pointer (some ⟨g, 0, none⟩)] (fun v _ => v = .int .i64 ((n0 : Int) - (pn : Int))) (mono_eq _) (fun a' w' hk => ?_) (fun w' hb => (cLeft_any g l0 pn en w' (HCUR.out.below (below_drew0.trans hb))).mono ?_) ?_
            · refine ⟨wanted_guard (t := 102) rfl rfl (by simpa [KnownAt, List.lookup, consD] using hk 102 (by decide)), ?_⟩
              simp [Oper.looksAt, Op.operands, Call.operands, KnownAt, List.lookup, consD] at hk
              simp [execOp, Act.eval, hk, go_sem]
              all_goals rfl
            · rintro e w'' ⟨rfl, kd, rfl⟩
              exact ⟨_, rfl, by rw [HL0.out], below_drewN _ _ kd⟩
            apply gw_val
            · intro a' w' hk
              refine ⟨wanted_guard (t := 102) rfl rfl (by simpa [KnownAt, List.lookup, consD] using hk 102 (by decide)), ?_⟩
              simp [Oper.looksAt, Op.operands, Call.operands, KnownAt, List.lookup, consD] at hk
              simp [execOp, Act.eval, hk, go_sem]
              all_goals rfl
            apply gw_val
            · intro a' w' hk
              refine ⟨wanted_guard (t := 102) rfl rfl (by simpa [KnownAt, List.lookup, consD] using hk 102 (by decide)), ?_⟩
              simp [Oper.looksAt, Op.operands, Call.operands, KnownAt, List.lookup, consD] at hk
              simp [execOp, Act.eval, hk, go_sem]
              all_goals rfl
            apply gw_val
            · intro a' w' hk
              refine ⟨wanted_guard (t := 102) rfl rfl (by simpa [KnownAt, List.lookup, consD] using hk 102 (by decide)), ?_⟩
              simp [Oper.looksAt, Op.operands, Call.operands, KnownAt, List.lookup, consD] at hk
              simp [execOp, Act.eval, hk, go_sem]
              all_goals rfl
            apply gw_val
            · intro a' w' hk
              refine ⟨wanted_guard (t := 102) rfl rfl (by simpa [KnownAt, List.lookup, consD] using hk 102 (by decide)), ?_⟩
              simp [Oper.looksAt, Op.operands, Call.operands, KnownAt, List.lookup, consD] at hk
              simp [execOp, Act.eval, hk, go_sem]
              all_goals rfl
            apply gw_val
            · intro a' w' hk
              refine ⟨wanted_guard (t := 102) rfl rfl (by simpa [KnownAt, List.lookup, consD] using hk 102 (by decide)), ?_⟩
              simp [Oper.looksAt, Op.operands, Call.operands, KnownAt, List.lookup, consD] at hk
              simp [execOp, Act.eval, hk, go_sem]
              all_goals rfl
            refine gw_valB (fun v _ => v = .int .i64 (pn : Int)) (mono_eq _) ?_ ?_
            · intro a' w' hb' hk
              refine ⟨wanted_guard (t := 102) rfl rfl (by simpa [KnownAt, List.lookup, consD] using hk 102 (by decide)), _, ?_, rfl⟩
              obtain ⟨ar, nr, cr, hbr, -⟩ := (HREF.out.below (below_drew0.trans hb')).ex
              have hc := hbr.cell (i := 1) rfl
              simp [Oper.looksAt, Op.operands, Call.operands, KnownAt, List.lookup, consD] at hk
              simp [execOp, Act.eval, hk, hc, go_sem]
              all_goals rfl
            apply gw_val
            · intro a' w' hk
              refine ⟨wanted_guard (t := 102) rfl rfl (by simpa [KnownAt, List.lookup, consD] using hk 102 (by decide)), ?_⟩
              simp [Oper.looksAt, Op.operands, Call.operands, KnownAt, List.lookup, consD] at hk
              have hw : IntKind.i64.wrap ((n0 : Int) - (pn : Int)) = (n0 : Int) - (pn : Int) := IntWalk.i64_in _ (by omega)
              simp [execOp, Act.eval, hk, go_sem, hw]
              all_goals rfl
            apply gw_val
            · intro a' w' hk
              refine ⟨wanted_guard (t := 102) rfl rfl (by simpa [KnownAt, List.lookup, consD] using hk 102 (by decide)), ?_⟩
              simp [Oper.looksAt, Op.operands, Call.operands, KnownAt, List.lookup, consD] at hk
              simp [execOp, Act.eval, hk, go_sem]
              all_goals rfl
            apply gw_val
            · intro a' w' hk
              refine ⟨wanted_none rfl, ?_⟩
              simp [Oper.looksAt, Op.operands, Call.operands, KnownAt, List.lookup, consD] at hk
              simp [execOp, Act.eval, hk, go_sem]
              all_goals rfl
            apply gw_val
            · intro a' w' hk
              refine ⟨wanted_none rfl, ?_⟩
              simp [Oper.looksAt, Op.operands, Call.operands, KnownAt, List.lookup, consD] at hk
              simp [execOp, Act.eval, hk, go_sem]
              all_goals rfl
            apply gw_val
            · intro a' w' hk
              refine ⟨wanted_guard (t := 114) rfl rfl (by simpa [KnownAt, List.lookup, consD] using hk 114 (by decide)), ?_⟩
              simp [Oper.looksAt, Op.operands, Call.operands, KnownAt, List.lookup, consD] at hk
              simp [execOp, Act.eval, hk, go_sem]
              all_goals rfl
            refine gw_call _ #[.pointer (some ⟨g, 0, none⟩)] (fun v _ => v = .int .i64 en) (mono_eq _) (fun a' w' hk => ?_) (fun w' hb => (cErr_any g l0 pn en w' (HCUR.out.below (below_drew0.trans hb))).mono ?_) ?_
            · refine ⟨wanted_guard (t := 114) rfl rfl (by simpa [KnownAt, List.lookup, consD] using hk 114 (by decide)), ?_⟩
              simp [Oper.looksAt, Op.operands, Call.operands, KnownAt, List.lookup, consD] at hk
              simp [execOp, Act.eval, hk, go_sem]
              all_goals rfl
            · rintro e w'' ⟨rfl, rfl⟩
              exact ⟨_, rfl, rfl, Below.refl _ _⟩
            apply gw_val
            · intro a' w' hk
              refine ⟨wanted_guard (t := 114) rfl rfl (by simpa [KnownAt, List.lookup, consD] using hk 114 (by decide)), ?_⟩
              simp [Oper.looksAt, Op.operands, Call.operands, KnownAt, List.lookup, consD] at hk
              simp [execOp, Act.eval, hk, go_sem]
              all_goals rfl
            apply gw_val
            · intro a' w' hk
              refine ⟨wanted_guard (t := 114) rfl rfl (by simpa [KnownAt, List.lookup, consD] using hk 114 (by decide)), ?_⟩
              simp [Oper.looksAt, Op.operands, Call.operands, KnownAt, List.lookup, consD] at hk
              simp [execOp, Act.eval, hk, go_sem]
              all_goals rfl
            apply gw_val
            · intro a' w' hk
              refine ⟨wanted_guard (t := 114) rfl rfl (by simpa [KnownAt, List.lookup, consD] using hk 114 (by decide)), ?_⟩
              simp [Oper.looksAt, Op.operands, Call.operands, KnownAt, List.lookup, consD] at hk
              simp [execOp, Act.eval, hk, go_sem]
              all_goals rfl
            refine gw_valB (fun v _ => v = .int .i64 en) (mono_eq _) ?_ ?_
            · intro a' w' hb' hk
              refine ⟨wanted_guard (t := 114) rfl rfl (by simpa [KnownAt, List.lookup, consD] using hk 114 (by decide)), _, ?_, rfl⟩
              obtain ⟨ar, nr, cr, hbr, -⟩ := (HREF.out.below (below_drew0.trans hb')).ex
              have hc := hbr.cell (i := 2) rfl
              simp [Oper.looksAt, Op.operands, Call.operands, KnownAt, List.lookup, consD] at hk
              simp [execOp, Act.eval, hk, hc, go_sem]
              all_goals rfl
            apply gw_val
            · intro a' w' hk
              refine ⟨wanted_guard (t := 114) rfl rfl (by simpa [KnownAt, List.lookup, consD] using hk 114 (by decide)), ?_⟩
              simp [Oper.looksAt, Op.operands, Call.operands, KnownAt, List.lookup, consD] at hk
              simp [execOp, Act.eval, hk, go_sem]
              all_goals rfl
            apply gw_val
            · intro a' w' hk
              refine ⟨wanted_none rfl, ?_⟩
              simp [Oper.looksAt, Op.operands, Call.operands, KnownAt, List.lookup, consD] at hk
              simp [execOp, Act.eval, hk, go_sem]
              all_goals rfl
            intro vs w' hb hall
            simp only [AllS, consD] at hall
            simp only [consD, putAllS, Act.put]
            obtain ⟨h6, -⟩ := hall
            rw [h6]
            simp only [List.setIfInBounds_toArray, List.set_cons_succ, List.set_cons_zero]
            have hb' := drew_later hb
            have hcur3 := HCUR.out.below hb'
            have href3 := HREF.out.below hb'
            have hB3 := below_trans0 HB.out HB.out.size hb'
            clear hb hb' h6
            go_wp2
            go_roundw
            case rel => exact ⟨k + 1, pn, en, by omega, by go_num, hcur3, href3, hB3⟩
            case measure => simp [intOf]; omega
          by_cases k1 : kd = 1
          · subst k1
            clear hq0
            obtain ⟨V, hV⟩ : ∃ V, litR (nextL l0 p er m (sizedB m)) (nextL l0 p er m (sizedB m)).length = V := ⟨_, rfl⟩
            have HV := Lib.hid hV
            clear hV
            obtain ⟨pn, hPN⟩ : ∃ x, nextAt l0.length p er m (sizedB m) = x := ⟨_, rfl⟩
            obtain ⟨en, hEN⟩ : ∃ x, nextEr l0.length p er m (sizedB m) = x := ⟨_, rfl⟩
            have HPN := Lib.hid hPN
            have HEN := Lib.hid hEN
            clear hPN hEN
            go_wp2_with fail
            refine wp_region_growI ByteKeep (IR w.heap.size w g h wr.heap.size m l0 p er pn en 3 7) (by kernel_rfl) (by kernel_rfl) (by rfl) ⟨⟨hcur1.ex⟩, ⟨href1.ex⟩, hq1, hB1.drew⟩ ?_
            apply gi_val _ ByteKeep.refl (fun L w' _ h => h.set (show (3 : Nat) ≠ 0 by decide) (show (7 : Nat) ≠ 0 by decide))
            · intro a' w' L hL haf hi hk
              refine ⟨wanted_none rfl, ?_⟩
              simp [Oper.looksAt, Op.operands, Call.operands, KnownAt, List.lookup, consD] at hk
              simp [execOp, Act.eval, hk, go_sem]
              all_goals rfl
            apply gi_val _ ByteKeep.refl (fun L w' _ h => h.set (show (3 : Nat) ≠ 1 by decide) (show (7 : Nat) ≠ 1 by decide))
            · intro a' w' L hL haf hi hk
              refine ⟨wanted_none rfl, ?_⟩
              simp [Oper.looksAt, Op.operands, Call.operands, KnownAt, List.lookup, consD] at hk
              simp [execOp, Act.eval, hk, go_sem]
              all_goals rfl
            apply gi_val _ ByteKeep.refl (fun L w' _ h => h.set (show (3 : Nat) ≠ 2 by decide) (show (7 : Nat) ≠ 2 by decide))
            · intro a' w' L hL haf hi hk
              refine ⟨wanted_none rfl, ?_⟩
              simp [Oper.looksAt, Op.operands, Call.operands, KnownAt, List.lookup, consD] at hk
              have hcell := hi.2.2.1
              simp [execOp, Act.eval, hk, go_sem, hcell]
              all_goals rfl
            refine gi_call _ #[.pointer (some ⟨g, 0, none⟩), .int .i64 m] (fun v _ => v = .int .u64 V) (monoS_eq _) (fun a' w' hk => ?_) (fun w' L hL haf hi => (cLitGet_any g l0 p er m w' (hi.cur hL) hm.1 hm.2).mono ?_) ?_
            · refine ⟨wanted_none rfl, ?_⟩
              simp [Oper.looksAt, Op.operands, Call.operands, KnownAt, List.lookup, consD] at hk
              simp [execOp, Act.eval, hk, go_sem]
              all_goals rfl
            · rw [HV.out]
              rintro e w'' ⟨rfl, hc, hg⟩
              obtain ⟨h1, h2⟩ := hi.c (by rw [← HPN.out, ← HEN.out]; exact hc) hg (by decide) hhg hqg hBg (hi.2.2.2.size)
              exact ⟨_, rfl, rfl, h1, h2⟩
            apply gi_val _ ByteKeep.refl (fun L w' _ h => h.set (show (3 : Nat) ≠ 4 by decide) (show (7 : Nat) ≠ 4 by decide))
            · intro a' w' L hL haf hi hk
              refine ⟨wanted_none rfl, ?_⟩
              simp [Oper.looksAt, Op.operands, Call.operands, KnownAt, List.lookup, consD] at hk
              simp [execOp, Act.eval, hk, go_sem]
              all_goals rfl
            apply gi_val _ ByteKeep.refl (fun L w' _ h => h.set (show (3 : Nat) ≠ 5 by decide) (show (7 : Nat) ≠ 5 by decide))
            · intro a' w' L hL haf hi hk
              refine ⟨wanted_none rfl, ?_⟩
              simp [Oper.looksAt, Op.operands, Call.operands, KnownAt, List.lookup, consD] at hk
              simp [execOp, Act.eval, hk, go_sem]
              all_goals rfl
            apply gi_val _ ByteKeep.refl (fun L w' _ h => h.set (show (3 : Nat) ≠ 6 by decide) (show (7 : Nat) ≠ 6 by decide))
            · intro a' w' L hL haf hi hk
              refine ⟨wanted_none rfl, ?_⟩
              simp [Oper.looksAt, Op.operands, Call.operands, KnownAt, List.lookup, consD] at hk
              have hcell := hi.2.2.1
              simp [execOp, Act.eval, hk, go_sem, hcell]
              all_goals rfl
            refine gi_call _ #[.pointer (some ⟨h, 0, none⟩), .int .i64 m] (fun v _ => v = .int .u64 V) (monoS_eq _) (fun a' w' hk => ?_) (fun w' L hL haf hi => (rLitGet_any h l0 p er m w' (hi.ref hL) hm.1 hm.2).mono ?_) ?_
            · refine ⟨wanted_none rfl, ?_⟩
              simp [Oper.looksAt, Op.operands, Call.operands, KnownAt, List.lookup, consD] at hk
              simp [execOp, Act.eval, hk, go_sem]
              all_goals rfl
            · rw [HV.out]
              rintro e w'' ⟨rfl, hc, hg⟩
              obtain ⟨h1, h2⟩ := hi.r (by rw [← HPN.out, ← HEN.out]; exact hc) hg (by decide) hgh hqh hBh (hi.2.2.2.size)
              exact ⟨_, rfl, rfl, h1, h2⟩
            apply gi_val _ ByteKeep.refl (fun L w' _ h => h.set (show (3 : Nat) ≠ 8 by decide) (show (7 : Nat) ≠ 8 by decide))
            · intro a' w' L hL haf hi hk
              refine ⟨wanted_none rfl, ?_⟩
              simp [Oper.looksAt, Op.operands, Call.operands, KnownAt, List.lookup, consD] at hk
              simp [execOp, Act.eval, hk, go_sem]
              all_goals rfl
            apply gi_val _ ByteKeep.refl (fun L w' _ h => h.set (show (3 : Nat) ≠ 9 by decide) (show (7 : Nat) ≠ 9 by decide))
            · intro a' w' L hL haf hi hk
              refine ⟨wanted_none rfl, ?_⟩
              simp [Oper.looksAt, Op.operands, Call.operands, KnownAt, List.lookup, consD] at hk
              simp [execOp, Act.eval, hk, go_sem]
              all_goals rfl
            intro vs w' L hall hi hval
            simp only [AllS, consD] at hval
            simp only [consD, putAllS, Act.put]
            obtain ⟨h9, -⟩ := hval
            rw [h9]
            simp only [List.setIfInBounds_toArray, List.set_cons_succ, List.set_cons_zero]
            have hcur2 := hi.1
            have href2 := hi.2.1
            have hB2 := hi.2.2.2
            rw [hall 3 (by decide)] at hcur2
            rw [hall 7 (by decide)] at href2
            simp only [cond_true] at hcur2 href2
            clear hi h9
            have hpn := hcur2.place
            have HCUR := Lib.hid hcur2
            have HREF := Lib.hid href2
            have HB := Lib.hid hB2
            rw [HL0.out] at hpn
            clear hcur2 href2 hB2
            go_wp2_with fail
            refine wp_region_grow (by kernel_rfl) (by kernel_rfl) (by rfl) ?_
            apply gw_val
            · intro a' w' hk
              refine ⟨wanted_none rfl, ?_⟩
              simp [Oper.looksAt, Op.operands, Call.operands, KnownAt, List.lookup, consD] at hk
              simp [execOp, Act.eval, hk, go_sem]
              all_goals rfl
            apply gw_val
            · intro a' w' hk
              refine ⟨wanted_none rfl, ?_⟩
              simp [Oper.looksAt, Op.operands, Call.operands, KnownAt, List.lookup, consD] at hk
              simp [execOp, Act.eval, hk, go_sem]
              all_goals rfl
            apply gw_val
            · intro a' w' hk
              refine ⟨wanted_none rfl, ?_⟩
              simp [Oper.looksAt, Op.operands, Call.operands, KnownAt, List.lookup, consD] at hk
              simp [execOp, Act.eval, hk, go_sem]
              all_goals rfl
            apply gw_val
            · intro a' w' hk
              refine ⟨wanted_guard (t := 93) rfl rfl (by simpa [KnownAt, List.lookup, consD] using hk 93 (by decide)), ?_⟩
              simp [Oper.looksAt, Op.operands, Call.operands, KnownAt, List.lookup, consD] at hk
              simp [execOp, Act.eval, hk, go_sem]
              all_goals rfl
            refine gw_call _ #[.pointer (some ⟨g, 0, none⟩)] (fun v _ => v = .int .i64 (pn : Int)) (mono_eq _) (fun a' w' hk => ?_) (fun w' hb => (cAt_any g l0 pn en w' (HCUR.out.below (below_drew0.trans hb))).mono ?_) ?_
            · refine ⟨wanted_guard (t := 93) rfl rfl (by simpa [KnownAt, List.lookup, consD] using hk 93 (by decide)), ?_⟩
              simp [Oper.looksAt, Op.operands, Call.operands, KnownAt, List.lookup, consD] at hk
              simp [execOp, Act.eval, hk, go_sem]
              all_goals rfl
            · rintro e w'' ⟨rfl, rfl⟩
              exact ⟨_, rfl, rfl, Below.refl _ _⟩
            apply gw_val
            · intro a' w' hk
              refine ⟨wanted_guard (t := 93) rfl rfl (by simpa [KnownAt, List.lookup, consD] using hk 93 (by decide)), ?_⟩
              simp [Oper.looksAt, Op.operands, Call.operands, KnownAt, List.lookup, consD] at hk
              simp [execOp, Act.eval, hk, go_sem]
              all_goals rfl
            apply gw_val
            · intro a' w' hk
              refine ⟨wanted_guard (t := 93) rfl rfl (by simpa [KnownAt, List.lookup, consD] using hk 93 (by decide)), ?_⟩
              simp [Oper.looksAt, Op.operands, Call.operands, KnownAt, List.lookup, consD] at hk
              simp [execOp, Act.eval, hk, go_sem]
              all_goals rfl
            apply gw_val
            · intro a' w' hk
              refine ⟨wanted_guard (t := 93) rfl rfl (by simpa [KnownAt, List.lookup, consD] using hk 93 (by decide)), ?_⟩
              simp [Oper.looksAt, Op.operands, Call.operands, KnownAt, List.lookup, consD] at hk
              simp [execOp, Act.eval, hk, go_sem]
              all_goals rfl
            refine gw_valB (fun v _ => v = .int .i64 (pn : Int)) (mono_eq _) ?_ ?_
            · intro a' w' hb' hk
              refine ⟨wanted_guard (t := 93) rfl rfl (by simpa [KnownAt, List.lookup, consD] using hk 93 (by decide)), _, ?_, rfl⟩
              obtain ⟨ar, nr, cr, hbr, -⟩ := (HREF.out.below (below_drew0.trans hb')).ex
              have hc := hbr.cell (i := 1) rfl
              simp [Oper.looksAt, Op.operands, Call.operands, KnownAt, List.lookup, consD] at hk
              simp [execOp, Act.eval, hk, hc, go_sem]
              all_goals rfl
            apply gw_val
            · intro a' w' hk
              refine ⟨wanted_guard (t := 93) rfl rfl (by simpa [KnownAt, List.lookup, consD] using hk 93 (by decide)), ?_⟩
              simp [Oper.looksAt, Op.operands, Call.operands, KnownAt, List.lookup, consD] at hk
              simp [execOp, Act.eval, hk, go_sem]
              all_goals rfl
            apply gw_val
            · intro a' w' hk
              refine ⟨wanted_none rfl, ?_⟩
              simp [Oper.looksAt, Op.operands, Call.operands, KnownAt, List.lookup, consD] at hk
              simp [execOp, Act.eval, hk, go_sem]
              all_goals rfl
            apply gw_val
            · intro a' w' hk
              refine ⟨wanted_none rfl, ?_⟩
              simp [Oper.looksAt, Op.operands, Call.operands, KnownAt, List.lookup, consD] at hk
              simp [execOp, Act.eval, hk, go_sem]
              all_goals rfl
            apply gw_val
            · intro a' w' hk
              refine ⟨wanted_guard (t := 102) rfl rfl (by simpa [KnownAt, List.lookup, consD] using hk 102 (by decide)), ?_⟩
              simp [Oper.looksAt, Op.operands, Call.operands, KnownAt, List.lookup, consD] at hk
              simp [execOp, Act.eval, hk, go_sem]
              all_goals rfl
            refine gw_call _ #[.pointer (some ⟨g, 0, none⟩)] (fun v _ => v = .int .i64 ((n0 : Int) - (pn : Int))) (mono_eq _) (fun a' w' hk => ?_) (fun w' hb => (cLeft_any g l0 pn en w' (HCUR.out.below (below_drew0.trans hb))).mono ?_) ?_
            · refine ⟨wanted_guard (t := 102) rfl rfl (by simpa [KnownAt, List.lookup, consD] using hk 102 (by decide)), ?_⟩
              simp [Oper.looksAt, Op.operands, Call.operands, KnownAt, List.lookup, consD] at hk
              simp [execOp, Act.eval, hk, go_sem]
              all_goals rfl
            · rintro e w'' ⟨rfl, kd, rfl⟩
              exact ⟨_, rfl, by rw [HL0.out], below_drewN _ _ kd⟩
            apply gw_val
            · intro a' w' hk
              refine ⟨wanted_guard (t := 102) rfl rfl (by simpa [KnownAt, List.lookup, consD] using hk 102 (by decide)), ?_⟩
              simp [Oper.looksAt, Op.operands, Call.operands, KnownAt, List.lookup, consD] at hk
              simp [execOp, Act.eval, hk, go_sem]
              all_goals rfl
            apply gw_val
            · intro a' w' hk
              refine ⟨wanted_guard (t := 102) rfl rfl (by simpa [KnownAt, List.lookup, consD] using hk 102 (by decide)), ?_⟩
              simp [Oper.looksAt, Op.operands, Call.operands, KnownAt, List.lookup, consD] at hk
              simp [execOp, Act.eval, hk, go_sem]
              all_goals rfl
            apply gw_val
            · intro a' w' hk
              refine ⟨wanted_guard (t := 102) rfl rfl (by simpa [KnownAt, List.lookup, consD] using hk 102 (by decide)), ?_⟩
              simp [Oper.looksAt, Op.operands, Call.operands, KnownAt, List.lookup, consD] at hk
              simp [execOp, Act.eval, hk, go_sem]
              all_goals rfl
            apply gw_val
            · intro a' w' hk
              refine ⟨wanted_guard (t := 102) rfl rfl (by simpa [KnownAt, List.lookup, consD] using hk 102 (by decide)), ?_⟩
              simp [Oper.looksAt, Op.operands, Call.operands, KnownAt, List.lookup, consD] at hk
              simp [execOp, Act.eval, hk, go_sem]
              all_goals rfl
            apply gw_val
            · intro a' w' hk
              refine ⟨wanted_guard (t := 102) rfl rfl (by simpa [KnownAt, List.lookup, consD] using hk 102 (by decide)), ?_⟩
              simp [Oper.looksAt, Op.operands, Call.operands, KnownAt, List.lookup, consD] at hk
              simp [execOp, Act.eval, hk, go_sem]
              all_goals rfl
            refine gw_valB (fun v _ => v = .int .i64 (pn : Int)) (mono_eq _) ?_ ?_
            · intro a' w' hb' hk
              refine ⟨wanted_guard (t := 102) rfl rfl (by simpa [KnownAt, List.lookup, consD] using hk 102 (by decide)), _, ?_, rfl⟩
              obtain ⟨ar, nr, cr, hbr, -⟩ := (HREF.out.below (below_drew0.trans hb')).ex
              have hc := hbr.cell (i := 1) rfl
              simp [Oper.looksAt, Op.operands, Call.operands, KnownAt, List.lookup, consD] at hk
              simp [execOp, Act.eval, hk, hc, go_sem]
              all_goals rfl
            apply gw_val
            · intro a' w' hk
              refine ⟨wanted_guard (t := 102) rfl rfl (by simpa [KnownAt, List.lookup, consD] using hk 102 (by decide)), ?_⟩
              simp [Oper.looksAt, Op.operands, Call.operands, KnownAt, List.lookup, consD] at hk
              have hw : IntKind.i64.wrap ((n0 : Int) - (pn : Int)) = (n0 : Int) - (pn : Int) := IntWalk.i64_in _ (by omega)
              simp [execOp, Act.eval, hk, go_sem, hw]
              all_goals rfl
            apply gw_val
            · intro a' w' hk
              refine ⟨wanted_guard (t := 102) rfl rfl (by simpa [KnownAt, List.lookup, consD] using hk 102 (by decide)), ?_⟩
              simp [Oper.looksAt, Op.operands, Call.operands, KnownAt, List.lookup, consD] at hk
              simp [execOp, Act.eval, hk, go_sem]
              all_goals rfl
            apply gw_val
            · intro a' w' hk
              refine ⟨wanted_none rfl, ?_⟩
              simp [Oper.looksAt, Op.operands, Call.operands, KnownAt, List.lookup, consD] at hk
              simp [execOp, Act.eval, hk, go_sem]
              all_goals rfl
            apply gw_val
            · intro a' w' hk
              refine ⟨wanted_none rfl, ?_⟩
              simp [Oper.looksAt, Op.operands, Call.operands, KnownAt, List.lookup, consD] at hk
              simp [execOp, Act.eval, hk, go_sem]
              all_goals rfl
            apply gw_val
            · intro a' w' hk
              refine ⟨wanted_guard (t := 114) rfl rfl (by simpa [KnownAt, List.lookup, consD] using hk 114 (by decide)), ?_⟩
              simp [Oper.looksAt, Op.operands, Call.operands, KnownAt, List.lookup, consD] at hk
              simp [execOp, Act.eval, hk, go_sem]
              all_goals rfl
            refine gw_call _ #[.pointer (some ⟨g, 0, none⟩)] (fun v _ => v = .int .i64 en) (mono_eq _) (fun a' w' hk => ?_) (fun w' hb => (cErr_any g l0 pn en w' (HCUR.out.below (below_drew0.trans hb))).mono ?_) ?_
            · refine ⟨wanted_guard (t := 114) rfl rfl (by simpa [KnownAt, List.lookup, consD] using hk 114 (by decide)), ?_⟩
              simp [Oper.looksAt, Op.operands, Call.operands, KnownAt, List.lookup, consD] at hk
              simp [execOp, Act.eval, hk, go_sem]
              all_goals rfl
            · rintro e w'' ⟨rfl, rfl⟩
              exact ⟨_, rfl, rfl, Below.refl _ _⟩
            apply gw_val
            · intro a' w' hk
              refine ⟨wanted_guard (t := 114) rfl rfl (by simpa [KnownAt, List.lookup, consD] using hk 114 (by decide)), ?_⟩
              simp [Oper.looksAt, Op.operands, Call.operands, KnownAt, List.lookup, consD] at hk
              simp [execOp, Act.eval, hk, go_sem]
              all_goals rfl
            apply gw_val
            · intro a' w' hk
              refine ⟨wanted_guard (t := 114) rfl rfl (by simpa [KnownAt, List.lookup, consD] using hk 114 (by decide)), ?_⟩
              simp [Oper.looksAt, Op.operands, Call.operands, KnownAt, List.lookup, consD] at hk
              simp [execOp, Act.eval, hk, go_sem]
              all_goals rfl
            apply gw_val
            · intro a' w' hk
              refine ⟨wanted_guard (t := 114) rfl rfl (by simpa [KnownAt, List.lookup, consD] using hk 114 (by decide)), ?_⟩
              simp [Oper.looksAt, Op.operands, Call.operands, KnownAt, List.lookup, consD] at hk
              simp [execOp, Act.eval, hk, go_sem]
              all_goals rfl
            refine gw_valB (fun v _ => v = .int .i64 en) (mono_eq _) ?_ ?_
            · intro a' w' hb' hk
              refine ⟨wanted_guard (t := 114) rfl rfl (by simpa [KnownAt, List.lookup, consD] using hk 114 (by decide)), _, ?_, rfl⟩
              obtain ⟨ar, nr, cr, hbr, -⟩ := (HREF.out.below (below_drew0.trans hb')).ex
              have hc := hbr.cell (i := 2) rfl
              simp [Oper.looksAt, Op.operands, Call.operands, KnownAt, List.lookup, consD] at hk
              simp [execOp, Act.eval, hk, hc, go_sem]
              all_goals rfl
            apply gw_val
            · intro a' w' hk
              refine ⟨wanted_guard (t := 114) rfl rfl (by simpa [KnownAt, List.lookup, consD] using hk 114 (by decide)), ?_⟩
              simp [Oper.looksAt, Op.operands, Call.operands, KnownAt, List.lookup, consD] at hk
              simp [execOp, Act.eval, hk, go_sem]
              all_goals rfl
            apply gw_val
            · intro a' w' hk
              refine ⟨wanted_none rfl, ?_⟩
              simp [Oper.looksAt, Op.operands, Call.operands, KnownAt, List.lookup, consD] at hk
              simp [execOp, Act.eval, hk, go_sem]
              all_goals rfl
            intro vs w' hb hall
            simp only [AllS, consD] at hall
            simp only [consD, putAllS, Act.put]
            obtain ⟨h6, -⟩ := hall
            rw [h6]
            simp only [List.setIfInBounds_toArray, List.set_cons_succ, List.set_cons_zero]
            have hb' := drew_later hb
            have hcur3 := HCUR.out.below hb'
            have href3 := HREF.out.below hb'
            have hB3 := below_trans0 HB.out HB.out.size hb'
            clear hb hb' h6
            go_wp2
            go_roundw
            case rel => exact ⟨k + 1, pn, en, by omega, by go_num, hcur3, href3, hB3⟩
            case measure => simp [intOf]; omega
          by_cases k2 : kd = 2
          · subst k2
            clear hq0
            obtain ⟨X, hX⟩ : ∃ X, nextL l0 p er m true = X := ⟨_, rfl⟩
            have HX := Lib.hid hX
            clear hX
            obtain ⟨pn, hPN⟩ : ∃ x, nextAt l0.length p er m (true) = x := ⟨_, rfl⟩
            obtain ⟨en, hEN⟩ : ∃ x, nextEr l0.length p er m (true) = x := ⟨_, rfl⟩
            have HPN := Lib.hid hPN
            have HEN := Lib.hid hEN
            clear hPN hEN
            go_wp2_with fail
            refine wp_region_growI ByteKeep (IR w.heap.size w g h wr.heap.size m l0 p er pn en 3 8) (by kernel_rfl) (by kernel_rfl) (by rfl) ⟨⟨hcur1.ex⟩, ⟨href1.ex⟩, hq1, hB1.drew⟩ ?_
            apply gi_val _ ByteKeep.refl (fun L w' _ h => h.set (show (3 : Nat) ≠ 0 by decide) (show (8 : Nat) ≠ 0 by decide))
            · intro a' w' L hL haf hi hk
              refine ⟨wanted_none rfl, ?_⟩
              simp [Oper.looksAt, Op.operands, Call.operands, KnownAt, List.lookup, consD] at hk
              simp [execOp, Act.eval, hk, go_sem]
              all_goals rfl
            apply gi_val _ ByteKeep.refl (fun L w' _ h => h.set (show (3 : Nat) ≠ 1 by decide) (show (8 : Nat) ≠ 1 by decide))
            · intro a' w' L hL haf hi hk
              refine ⟨wanted_none rfl, ?_⟩
              simp [Oper.looksAt, Op.operands, Call.operands, KnownAt, List.lookup, consD] at hk
              simp [execOp, Act.eval, hk, go_sem]
              all_goals rfl
            apply gi_val _ ByteKeep.refl (fun L w' _ h => h.set (show (3 : Nat) ≠ 2 by decide) (show (8 : Nat) ≠ 2 by decide))
            · intro a' w' L hL haf hi hk
              refine ⟨wanted_none rfl, ?_⟩
              simp [Oper.looksAt, Op.operands, Call.operands, KnownAt, List.lookup, consD] at hk
              have hcell := hi.2.2.1
              simp [execOp, Act.eval, hk, go_sem, hcell]
              all_goals rfl
            refine gi_call _ #[.pointer (some ⟨g, 0, none⟩), .int .i64 m] (BytesG X) (monoS_bytes _) (fun a' w' hk => ?_) (fun w' L hL haf hi => (cTake_any g l0 p er m w' (hi.cur hL) hm.1 hm.2).mono ?_) ?_
            · refine ⟨wanted_none rfl, ?_⟩
              simp [Oper.looksAt, Op.operands, Call.operands, KnownAt, List.lookup, consD] at hk
              simp [execOp, Act.eval, hk, go_sem]
              all_goals rfl
            · rintro e w'' ⟨a', k', c', rfl, hown, hc, hg⟩
              rw [HX.out] at hown
              obtain ⟨h1, h2⟩ := hi.c (by rw [← HPN.out, ← HEN.out]; exact hc) hg (by decide) hhg hqg hBg (hi.2.2.2.size)
              exact ⟨_, rfl, ⟨a', k', c', rfl, hown.len, hown.rd⟩, h1, h2⟩
            refine gi_str Try.underlying32 Try.underlying5 Try.underlying9 76 (X) ByteKeep.refl (fun L w' _ h => h.set (show (3 : Nat) ≠ 4 by decide) (show (8 : Nat) ≠ 4 by decide)) rfl (fun a' w' L hi hk => ?_) ?_
            · exact ⟨wanted_none rfl, by simpa [KnownAt, List.lookup, consD] using hk 76 (by decide)⟩
            apply gi_val _ ByteKeep.refl (fun L w' _ h => h.set (show (3 : Nat) ≠ 5 by decide) (show (8 : Nat) ≠ 5 by decide))
            · intro a' w' L hL haf hi hk
              refine ⟨wanted_none rfl, ?_⟩
              simp [Oper.looksAt, Op.operands, Call.operands, KnownAt, List.lookup, consD] at hk
              simp [execOp, Act.eval, hk, go_sem]
              all_goals rfl
            apply gi_val _ ByteKeep.refl (fun L w' _ h => h.set (show (3 : Nat) ≠ 6 by decide) (show (8 : Nat) ≠ 6 by decide))
            · intro a' w' L hL haf hi hk
              refine ⟨wanted_none rfl, ?_⟩
              simp [Oper.looksAt, Op.operands, Call.operands, KnownAt, List.lookup, consD] at hk
              simp [execOp, Act.eval, hk, go_sem]
              all_goals rfl
            apply gi_val _ ByteKeep.refl (fun L w' _ h => h.set (show (3 : Nat) ≠ 7 by decide) (show (8 : Nat) ≠ 7 by decide))
            · intro a' w' L hL haf hi hk
              refine ⟨wanted_none rfl, ?_⟩
              simp [Oper.looksAt, Op.operands, Call.operands, KnownAt, List.lookup, consD] at hk
              have hcell := hi.2.2.1
              simp [execOp, Act.eval, hk, go_sem, hcell]
              all_goals rfl
            refine gi_call _ #[.pointer (some ⟨h, 0, none⟩), .int .i64 m] (BytesG X) (monoS_bytes _) (fun a' w' hk => ?_) (fun w' L hL haf hi => (rTake_any h l0 p er m w' (hi.ref hL) hm.1 hm.2).mono ?_) ?_
            · refine ⟨wanted_none rfl, ?_⟩
              simp [Oper.looksAt, Op.operands, Call.operands, KnownAt, List.lookup, consD] at hk
              simp [execOp, Act.eval, hk, go_sem]
              all_goals rfl
            · rintro e w'' ⟨a', k', c', rfl, hlen, hrd, hc, hg⟩
              rw [HX.out] at hlen hrd
              obtain ⟨h1, h2⟩ := hi.r (by rw [← HPN.out, ← HEN.out]; exact hc) hg (by decide) hgh hqh hBh (hi.2.2.2.size)
              exact ⟨_, rfl, ⟨a', k', c', rfl, hlen, hrd⟩, h1, h2⟩
            refine gi_str Try.underlying32 Try.underlying5 Try.underlying9 81 (X) ByteKeep.refl (fun L w' _ h => h.set (show (3 : Nat) ≠ 9 by decide) (show (8 : Nat) ≠ 9 by decide)) rfl (fun a' w' L hi hk => ?_) ?_
            · exact ⟨wanted_none rfl, by simpa [KnownAt, List.lookup, consD] using hk 81 (by decide)⟩
            apply gi_val _ ByteKeep.refl (fun L w' _ h => h.set (show (3 : Nat) ≠ 10 by decide) (show (8 : Nat) ≠ 10 by decide))
            · intro a' w' L hL haf hi hk
              refine ⟨wanted_none rfl, ?_⟩
              simp [Oper.looksAt, Op.operands, Call.operands, KnownAt, List.lookup, consD] at hk
              simp [execOp, Act.eval, hk, go_sem]
              all_goals rfl
            apply gi_val _ ByteKeep.refl (fun L w' _ h => h.set (show (3 : Nat) ≠ 11 by decide) (show (8 : Nat) ≠ 11 by decide))
            · intro a' w' L hL haf hi hk
              refine ⟨wanted_none rfl, ?_⟩
              simp [Oper.looksAt, Op.operands, Call.operands, KnownAt, List.lookup, consD] at hk
              simp [execOp, Act.eval, hk, go_sem]
              all_goals rfl
            intro vs w' L hall hi hval
            simp only [AllS, consD] at hval
            simp only [consD, putAllS, Act.put]
            obtain ⟨h9, -⟩ := hval
            rw [h9]
            simp only [List.setIfInBounds_toArray, List.set_cons_succ, List.set_cons_zero]
            have hcur2 := hi.1
            have href2 := hi.2.1
            have hB2 := hi.2.2.2
            rw [hall 3 (by decide)] at hcur2
            rw [hall 8 (by decide)] at href2
            simp only [cond_true] at hcur2 href2
            clear hi h9
            have hpn := hcur2.place
            have HCUR := Lib.hid hcur2
            have HREF := Lib.hid href2
            have HB := Lib.hid hB2
            rw [HL0.out] at hpn
            clear hcur2 href2 hB2
            go_wp2_with fail
            refine wp_region_grow (by kernel_rfl) (by kernel_rfl) (by rfl) ?_
            apply gw_val
            · intro a' w' hk
              refine ⟨wanted_none rfl, ?_⟩
              simp [Oper.looksAt, Op.operands, Call.operands, KnownAt, List.lookup, consD] at hk
              simp [execOp, Act.eval, hk, go_sem]
              all_goals rfl
            apply gw_val
            · intro a' w' hk
              refine ⟨wanted_none rfl, ?_⟩
              simp [Oper.looksAt, Op.operands, Call.operands, KnownAt, List.lookup, consD] at hk
              simp [execOp, Act.eval, hk, go_sem]
              all_goals rfl
            apply gw_val
            · intro a' w' hk
              refine ⟨wanted_none rfl, ?_⟩
              simp [Oper.looksAt, Op.operands, Call.operands, KnownAt, List.lookup, consD] at hk
              simp [execOp, Act.eval, hk, go_sem]
              all_goals rfl
            apply gw_val
            · intro a' w' hk
              refine ⟨wanted_guard (t := 93) rfl rfl (by simpa [KnownAt, List.lookup, consD] using hk 93 (by decide)), ?_⟩
              simp [Oper.looksAt, Op.operands, Call.operands, KnownAt, List.lookup, consD] at hk
              simp [execOp, Act.eval, hk, go_sem]
              all_goals rfl
            refine gw_call _ #[.pointer (some ⟨g, 0, none⟩)] (fun v _ => v = .int .i64 (pn : Int)) (mono_eq _) (fun a' w' hk => ?_) (fun w' hb => (cAt_any g l0 pn en w' (HCUR.out.below (below_drew0.trans hb))).mono ?_) ?_
            · refine ⟨wanted_guard (t := 93) rfl rfl (by simpa [KnownAt, List.lookup, consD] using hk 93 (by decide)), ?_⟩
              simp [Oper.looksAt, Op.operands, Call.operands, KnownAt, List.lookup, consD] at hk
              simp [execOp, Act.eval, hk, go_sem]
              all_goals rfl
            · rintro e w'' ⟨rfl, rfl⟩
              exact ⟨_, rfl, rfl, Below.refl _ _⟩
            apply gw_val
            · intro a' w' hk
              refine ⟨wanted_guard (t := 93) rfl rfl (by simpa [KnownAt, List.lookup, consD] using hk 93 (by decide)), ?_⟩
              simp [Oper.looksAt, Op.operands, Call.operands, KnownAt, List.lookup, consD] at hk
              simp [execOp, Act.eval, hk, go_sem]
              all_goals rfl
            apply gw_val
            · intro a' w' hk
              refine ⟨wanted_guard (t := 93) rfl rfl (by simpa [KnownAt, List.lookup, consD] using hk 93 (by decide)), ?_⟩
              simp [Oper.looksAt, Op.operands, Call.operands, KnownAt, List.lookup, consD] at hk
              simp [execOp, Act.eval, hk, go_sem]
              all_goals rfl
            apply gw_val
            · intro a' w' hk
              refine ⟨wanted_guard (t := 93) rfl rfl (by simpa [KnownAt, List.lookup, consD] using hk 93 (by decide)), ?_⟩
              simp [Oper.looksAt, Op.operands, Call.operands, KnownAt, List.lookup, consD] at hk
              simp [execOp, Act.eval, hk, go_sem]
              all_goals rfl
            refine gw_valB (fun v _ => v = .int .i64 (pn : Int)) (mono_eq _) ?_ ?_
            · intro a' w' hb' hk
              refine ⟨wanted_guard (t := 93) rfl rfl (by simpa [KnownAt, List.lookup, consD] using hk 93 (by decide)), _, ?_, rfl⟩
              obtain ⟨ar, nr, cr, hbr, -⟩ := (HREF.out.below (below_drew0.trans hb')).ex
              have hc := hbr.cell (i := 1) rfl
              simp [Oper.looksAt, Op.operands, Call.operands, KnownAt, List.lookup, consD] at hk
              simp [execOp, Act.eval, hk, hc, go_sem]
              all_goals rfl
            apply gw_val
            · intro a' w' hk
              refine ⟨wanted_guard (t := 93) rfl rfl (by simpa [KnownAt, List.lookup, consD] using hk 93 (by decide)), ?_⟩
              simp [Oper.looksAt, Op.operands, Call.operands, KnownAt, List.lookup, consD] at hk
              simp [execOp, Act.eval, hk, go_sem]
              all_goals rfl
            apply gw_val
            · intro a' w' hk
              refine ⟨wanted_none rfl, ?_⟩
              simp [Oper.looksAt, Op.operands, Call.operands, KnownAt, List.lookup, consD] at hk
              simp [execOp, Act.eval, hk, go_sem]
              all_goals rfl
            apply gw_val
            · intro a' w' hk
              refine ⟨wanted_none rfl, ?_⟩
              simp [Oper.looksAt, Op.operands, Call.operands, KnownAt, List.lookup, consD] at hk
              simp [execOp, Act.eval, hk, go_sem]
              all_goals rfl
            apply gw_val
            · intro a' w' hk
              refine ⟨wanted_guard (t := 102) rfl rfl (by simpa [KnownAt, List.lookup, consD] using hk 102 (by decide)), ?_⟩
              simp [Oper.looksAt, Op.operands, Call.operands, KnownAt, List.lookup, consD] at hk
              simp [execOp, Act.eval, hk, go_sem]
              all_goals rfl
            refine gw_call _ #[.pointer (some ⟨g, 0, none⟩)] (fun v _ => v = .int .i64 ((n0 : Int) - (pn : Int))) (mono_eq _) (fun a' w' hk => ?_) (fun w' hb => (cLeft_any g l0 pn en w' (HCUR.out.below (below_drew0.trans hb))).mono ?_) ?_
            · refine ⟨wanted_guard (t := 102) rfl rfl (by simpa [KnownAt, List.lookup, consD] using hk 102 (by decide)), ?_⟩
              simp [Oper.looksAt, Op.operands, Call.operands, KnownAt, List.lookup, consD] at hk
              simp [execOp, Act.eval, hk, go_sem]
              all_goals rfl
            · rintro e w'' ⟨rfl, kd, rfl⟩
              exact ⟨_, rfl, by rw [HL0.out], below_drewN _ _ kd⟩
            apply gw_val
            · intro a' w' hk
              refine ⟨wanted_guard (t := 102) rfl rfl (by simpa [KnownAt, List.lookup, consD] using hk 102 (by decide)), ?_⟩
              simp [Oper.looksAt, Op.operands, Call.operands, KnownAt, List.lookup, consD] at hk
              simp [execOp, Act.eval, hk, go_sem]
              all_goals rfl
            apply gw_val
            · intro a' w' hk
              refine ⟨wanted_guard (t := 102) rfl rfl (by simpa [KnownAt, List.lookup, consD] using hk 102 (by decide)), ?_⟩
              simp [Oper.looksAt, Op.operands, Call.operands, KnownAt, List.lookup, consD] at hk
              simp [execOp, Act.eval, hk, go_sem]
              all_goals rfl
            apply gw_val
            · intro a' w' hk
              refine ⟨wanted_guard (t := 102) rfl rfl (by simpa [KnownAt, List.lookup, consD] using hk 102 (by decide)), ?_⟩
              simp [Oper.looksAt, Op.operands, Call.operands, KnownAt, List.lookup, consD] at hk
              simp [execOp, Act.eval, hk, go_sem]
              all_goals rfl
            apply gw_val
            · intro a' w' hk
              refine ⟨wanted_guard (t := 102) rfl rfl (by simpa [KnownAt, List.lookup, consD] using hk 102 (by decide)), ?_⟩
              simp [Oper.looksAt, Op.operands, Call.operands, KnownAt, List.lookup, consD] at hk
              simp [execOp, Act.eval, hk, go_sem]
              all_goals rfl
            apply gw_val
            · intro a' w' hk
              refine ⟨wanted_guard (t := 102) rfl rfl (by simpa [KnownAt, List.lookup, consD] using hk 102 (by decide)), ?_⟩
              simp [Oper.looksAt, Op.operands, Call.operands, KnownAt, List.lookup, consD] at hk
              simp [execOp, Act.eval, hk, go_sem]
              all_goals rfl
            refine gw_valB (fun v _ => v = .int .i64 (pn : Int)) (mono_eq _) ?_ ?_
            · intro a' w' hb' hk
              refine ⟨wanted_guard (t := 102) rfl rfl (by simpa [KnownAt, List.lookup, consD] using hk 102 (by decide)), _, ?_, rfl⟩
              obtain ⟨ar, nr, cr, hbr, -⟩ := (HREF.out.below (below_drew0.trans hb')).ex
              have hc := hbr.cell (i := 1) rfl
              simp [Oper.looksAt, Op.operands, Call.operands, KnownAt, List.lookup, consD] at hk
              simp [execOp, Act.eval, hk, hc, go_sem]
              all_goals rfl
            apply gw_val
            · intro a' w' hk
              refine ⟨wanted_guard (t := 102) rfl rfl (by simpa [KnownAt, List.lookup, consD] using hk 102 (by decide)), ?_⟩
              simp [Oper.looksAt, Op.operands, Call.operands, KnownAt, List.lookup, consD] at hk
              have hw : IntKind.i64.wrap ((n0 : Int) - (pn : Int)) = (n0 : Int) - (pn : Int) := IntWalk.i64_in _ (by omega)
              simp [execOp, Act.eval, hk, go_sem, hw]
              all_goals rfl
            apply gw_val
            · intro a' w' hk
              refine ⟨wanted_guard (t := 102) rfl rfl (by simpa [KnownAt, List.lookup, consD] using hk 102 (by decide)), ?_⟩
              simp [Oper.looksAt, Op.operands, Call.operands, KnownAt, List.lookup, consD] at hk
              simp [execOp, Act.eval, hk, go_sem]
              all_goals rfl
            apply gw_val
            · intro a' w' hk
              refine ⟨wanted_none rfl, ?_⟩
              simp [Oper.looksAt, Op.operands, Call.operands, KnownAt, List.lookup, consD] at hk
              simp [execOp, Act.eval, hk, go_sem]
              all_goals rfl
            apply gw_val
            · intro a' w' hk
              refine ⟨wanted_none rfl, ?_⟩
              simp [Oper.looksAt, Op.operands, Call.operands, KnownAt, List.lookup, consD] at hk
              simp [execOp, Act.eval, hk, go_sem]
              all_goals rfl
            apply gw_val
            · intro a' w' hk
              refine ⟨wanted_guard (t := 114) rfl rfl (by simpa [KnownAt, List.lookup, consD] using hk 114 (by decide)), ?_⟩
              simp [Oper.looksAt, Op.operands, Call.operands, KnownAt, List.lookup, consD] at hk
              simp [execOp, Act.eval, hk, go_sem]
              all_goals rfl
            refine gw_call _ #[.pointer (some ⟨g, 0, none⟩)] (fun v _ => v = .int .i64 en) (mono_eq _) (fun a' w' hk => ?_) (fun w' hb => (cErr_any g l0 pn en w' (HCUR.out.below (below_drew0.trans hb))).mono ?_) ?_
            · refine ⟨wanted_guard (t := 114) rfl rfl (by simpa [KnownAt, List.lookup, consD] using hk 114 (by decide)), ?_⟩
              simp [Oper.looksAt, Op.operands, Call.operands, KnownAt, List.lookup, consD] at hk
              simp [execOp, Act.eval, hk, go_sem]
              all_goals rfl
            · rintro e w'' ⟨rfl, rfl⟩
              exact ⟨_, rfl, rfl, Below.refl _ _⟩
            apply gw_val
            · intro a' w' hk
              refine ⟨wanted_guard (t := 114) rfl rfl (by simpa [KnownAt, List.lookup, consD] using hk 114 (by decide)), ?_⟩
              simp [Oper.looksAt, Op.operands, Call.operands, KnownAt, List.lookup, consD] at hk
              simp [execOp, Act.eval, hk, go_sem]
              all_goals rfl
            apply gw_val
            · intro a' w' hk
              refine ⟨wanted_guard (t := 114) rfl rfl (by simpa [KnownAt, List.lookup, consD] using hk 114 (by decide)), ?_⟩
              simp [Oper.looksAt, Op.operands, Call.operands, KnownAt, List.lookup, consD] at hk
              simp [execOp, Act.eval, hk, go_sem]
              all_goals rfl
            apply gw_val
            · intro a' w' hk
              refine ⟨wanted_guard (t := 114) rfl rfl (by simpa [KnownAt, List.lookup, consD] using hk 114 (by decide)), ?_⟩
              simp [Oper.looksAt, Op.operands, Call.operands, KnownAt, List.lookup, consD] at hk
              simp [execOp, Act.eval, hk, go_sem]
              all_goals rfl
            refine gw_valB (fun v _ => v = .int .i64 en) (mono_eq _) ?_ ?_
            · intro a' w' hb' hk
              refine ⟨wanted_guard (t := 114) rfl rfl (by simpa [KnownAt, List.lookup, consD] using hk 114 (by decide)), _, ?_, rfl⟩
              obtain ⟨ar, nr, cr, hbr, -⟩ := (HREF.out.below (below_drew0.trans hb')).ex
              have hc := hbr.cell (i := 2) rfl
              simp [Oper.looksAt, Op.operands, Call.operands, KnownAt, List.lookup, consD] at hk
              simp [execOp, Act.eval, hk, hc, go_sem]
              all_goals rfl
            apply gw_val
            · intro a' w' hk
              refine ⟨wanted_guard (t := 114) rfl rfl (by simpa [KnownAt, List.lookup, consD] using hk 114 (by decide)), ?_⟩
              simp [Oper.looksAt, Op.operands, Call.operands, KnownAt, List.lookup, consD] at hk
              simp [execOp, Act.eval, hk, go_sem]
              all_goals rfl
            apply gw_val
            · intro a' w' hk
              refine ⟨wanted_none rfl, ?_⟩
              simp [Oper.looksAt, Op.operands, Call.operands, KnownAt, List.lookup, consD] at hk
              simp [execOp, Act.eval, hk, go_sem]
              all_goals rfl
            intro vs w' hb hall
            simp only [AllS, consD] at hall
            simp only [consD, putAllS, Act.put]
            obtain ⟨h6, -⟩ := hall
            rw [h6]
            simp only [List.setIfInBounds_toArray, List.set_cons_succ, List.set_cons_zero]
            have hb' := drew_later hb
            have hcur3 := HCUR.out.below hb'
            have href3 := HREF.out.below hb'
            have hB3 := below_trans0 HB.out HB.out.size hb'
            clear hb hb' h6
            go_wp2
            go_roundw
            case rel => exact ⟨k + 1, pn, en, by omega, by go_num, hcur3, href3, hB3⟩
            case measure => simp [intOf]; omega
          by_cases k3 : kd = 3
          · subst k3
            clear hq0 hq1
            obtain ⟨pn, hPN⟩ : ∃ x, x = p := ⟨_, rfl⟩
            obtain ⟨en, hEN⟩ : ∃ x, endEr l0.length p er = x := ⟨_, rfl⟩
            go_wp2_with fail
            refine (cEnd_any g l0 p er _ hcur1).mono ?_
            unfold EndPost
            rw [hEN, ← hPN]
            rintro e wc ⟨rfl, hc, hg⟩
            have hk1 := keep_of_grown hg hcur1.nobyte
            have href3 := href1.keep hk1 hg hhg
            have hBc := below_of_grown hB1 hB1.size hg hBg
            clear hcur1 href1 hB1 hk1 hg
            go_wp2_with fail
            refine (rEnd_any h l0 p er _ href3).mono ?_
            unfold REndPost
            rw [hEN, ← hPN]
            rintro e wd ⟨rfl, href2, hg2⟩
            have hcur2 := hc.keep (keep_of_grown hg2 href3.nobyte) hg2 hgh
            have hB2 := below_of_grown hBc hBc.size hg2 hBh
            clear hc hg2 href3 hBc hPN hEN
            have hpn := hcur2.place
            have HCUR := Lib.hid hcur2
            have HREF := Lib.hid href2
            have HB := Lib.hid hB2
            rw [HL0.out] at hpn
            clear hcur2 href2 hB2
            go_wp2_with fail
            refine wp_region_grow (by kernel_rfl) (by kernel_rfl) (by rfl) ?_
            apply gw_val
            · intro a' w' hk
              refine ⟨wanted_none rfl, ?_⟩
              simp [Oper.looksAt, Op.operands, Call.operands, KnownAt, List.lookup, consD] at hk
              simp [execOp, Act.eval, hk, go_sem]
              all_goals rfl
            apply gw_val
            · intro a' w' hk
              refine ⟨wanted_none rfl, ?_⟩
              simp [Oper.looksAt, Op.operands, Call.operands, KnownAt, List.lookup, consD] at hk
              simp [execOp, Act.eval, hk, go_sem]
              all_goals rfl
            apply gw_val
            · intro a' w' hk
              refine ⟨wanted_none rfl, ?_⟩
              simp [Oper.looksAt, Op.operands, Call.operands, KnownAt, List.lookup, consD] at hk
              simp [execOp, Act.eval, hk, go_sem]
              all_goals rfl
            apply gw_val
            · intro a' w' hk
              refine ⟨wanted_guard (t := 93) rfl rfl (by simpa [KnownAt, List.lookup, consD] using hk 93 (by decide)), ?_⟩
              simp [Oper.looksAt, Op.operands, Call.operands, KnownAt, List.lookup, consD] at hk
              simp [execOp, Act.eval, hk, go_sem]
              all_goals rfl
            refine gw_call _ #[.pointer (some ⟨g, 0, none⟩)] (fun v _ => v = .int .i64 (pn : Int)) (mono_eq _) (fun a' w' hk => ?_) (fun w' hb => (cAt_any g l0 pn en w' (HCUR.out.below (below_drew0.trans hb))).mono ?_) ?_
            · refine ⟨wanted_guard (t := 93) rfl rfl (by simpa [KnownAt, List.lookup, consD] using hk 93 (by decide)), ?_⟩
              simp [Oper.looksAt, Op.operands, Call.operands, KnownAt, List.lookup, consD] at hk
              simp [execOp, Act.eval, hk, go_sem]
              all_goals rfl
            · rintro e w'' ⟨rfl, rfl⟩
              exact ⟨_, rfl, rfl, Below.refl _ _⟩
            apply gw_val
            · intro a' w' hk
              refine ⟨wanted_guard (t := 93) rfl rfl (by simpa [KnownAt, List.lookup, consD] using hk 93 (by decide)), ?_⟩
              simp [Oper.looksAt, Op.operands, Call.operands, KnownAt, List.lookup, consD] at hk
              simp [execOp, Act.eval, hk, go_sem]
              all_goals rfl
            apply gw_val
            · intro a' w' hk
              refine ⟨wanted_guard (t := 93) rfl rfl (by simpa [KnownAt, List.lookup, consD] using hk 93 (by decide)), ?_⟩
              simp [Oper.looksAt, Op.operands, Call.operands, KnownAt, List.lookup, consD] at hk
              simp [execOp, Act.eval, hk, go_sem]
              all_goals rfl
            apply gw_val
            · intro a' w' hk
              refine ⟨wanted_guard (t := 93) rfl rfl (by simpa [KnownAt, List.lookup, consD] using hk 93 (by decide)), ?_⟩
              simp [Oper.looksAt, Op.operands, Call.operands, KnownAt, List.lookup, consD] at hk
              simp [execOp, Act.eval, hk, go_sem]
              all_goals rfl
            refine gw_valB (fun v _ => v = .int .i64 (pn : Int)) (mono_eq _) ?_ ?_
            · intro a' w' hb' hk
              refine ⟨wanted_guard (t := 93) rfl rfl (by simpa [KnownAt, List.lookup, consD] using hk 93 (by decide)), _, ?_, rfl⟩
              obtain ⟨ar, nr, cr, hbr, -⟩ := (HREF.out.below (below_drew0.trans hb')).ex
              have hc := hbr.cell (i := 1) rfl
              simp [Oper.looksAt, Op.operands, Call.operands, KnownAt, List.lookup, consD] at hk
              simp [execOp, Act.eval, hk, hc, go_sem]
              all_goals rfl
            apply gw_val
            · intro a' w' hk
              refine ⟨wanted_guard (t := 93) rfl rfl (by simpa [KnownAt, List.lookup, consD] using hk 93 (by decide)), ?_⟩
              simp [Oper.looksAt, Op.operands, Call.operands, KnownAt, List.lookup, consD] at hk
              simp [execOp, Act.eval, hk, go_sem]
              all_goals rfl
            apply gw_val
            · intro a' w' hk
              refine ⟨wanted_none rfl, ?_⟩
              simp [Oper.looksAt, Op.operands, Call.operands, KnownAt, List.lookup, consD] at hk
              simp [execOp, Act.eval, hk, go_sem]
              all_goals rfl
            apply gw_val
            · intro a' w' hk
              refine ⟨wanted_none rfl, ?_⟩
              simp [Oper.looksAt, Op.operands, Call.operands, KnownAt, List.lookup, consD] at hk
              simp [execOp, Act.eval, hk, go_sem]
              all_goals rfl
            apply gw_val
            · intro a' w' hk
              refine ⟨wanted_guard (t := 102) rfl rfl (by simpa [KnownAt, List.lookup, consD] using hk 102 (by decide)), ?_⟩
              simp [Oper.looksAt, Op.operands, Call.operands, KnownAt, List.lookup, consD] at hk
              simp [execOp, Act.eval, hk, go_sem]
              all_goals rfl
            refine gw_call _ #[.pointer (some ⟨g, 0, none⟩)] (fun v _ => v = .int .i64 ((n0 : Int) - (pn : Int))) (mono_eq _) (fun a' w' hk => ?_) (fun w' hb => (cLeft_any g l0 pn en w' (HCUR.out.below (below_drew0.trans hb))).mono ?_) ?_
            · refine ⟨wanted_guard (t := 102) rfl rfl (by simpa [KnownAt, List.lookup, consD] using hk 102 (by decide)), ?_⟩
              simp [Oper.looksAt, Op.operands, Call.operands, KnownAt, List.lookup, consD] at hk
              simp [execOp, Act.eval, hk, go_sem]
              all_goals rfl
            · rintro e w'' ⟨rfl, kd, rfl⟩
              exact ⟨_, rfl, by rw [HL0.out], below_drewN _ _ kd⟩
            apply gw_val
            · intro a' w' hk
              refine ⟨wanted_guard (t := 102) rfl rfl (by simpa [KnownAt, List.lookup, consD] using hk 102 (by decide)), ?_⟩
              simp [Oper.looksAt, Op.operands, Call.operands, KnownAt, List.lookup, consD] at hk
              simp [execOp, Act.eval, hk, go_sem]
              all_goals rfl
            apply gw_val
            · intro a' w' hk
              refine ⟨wanted_guard (t := 102) rfl rfl (by simpa [KnownAt, List.lookup, consD] using hk 102 (by decide)), ?_⟩
              simp [Oper.looksAt, Op.operands, Call.operands, KnownAt, List.lookup, consD] at hk
              simp [execOp, Act.eval, hk, go_sem]
              all_goals rfl
            apply gw_val
            · intro a' w' hk
              refine ⟨wanted_guard (t := 102) rfl rfl (by simpa [KnownAt, List.lookup, consD] using hk 102 (by decide)), ?_⟩
              simp [Oper.looksAt, Op.operands, Call.operands, KnownAt, List.lookup, consD] at hk
              simp [execOp, Act.eval, hk, go_sem]
              all_goals rfl
            apply gw_val
            · intro a' w' hk
              refine ⟨wanted_guard (t := 102) rfl rfl (by simpa [KnownAt, List.lookup, consD] using hk 102 (by decide)), ?_⟩
              simp [Oper.looksAt, Op.operands, Call.operands, KnownAt, List.lookup, consD] at hk
              simp [execOp, Act.eval, hk, go_sem]
              all_goals rfl
            apply gw_val
            · intro a' w' hk
              refine ⟨wanted_guard (t := 102) rfl rfl (by simpa [KnownAt, List.lookup, consD] using hk 102 (by decide)), ?_⟩
              simp [Oper.looksAt, Op.operands, Call.operands, KnownAt, List.lookup, consD] at hk
              simp [execOp, Act.eval, hk, go_sem]
              all_goals rfl
            refine gw_valB (fun v _ => v = .int .i64 (pn : Int)) (mono_eq _) ?_ ?_
            · intro a' w' hb' hk
              refine ⟨wanted_guard (t := 102) rfl rfl (by simpa [KnownAt, List.lookup, consD] using hk 102 (by decide)), _, ?_, rfl⟩
              obtain ⟨ar, nr, cr, hbr, -⟩ := (HREF.out.below (below_drew0.trans hb')).ex
              have hc := hbr.cell (i := 1) rfl
              simp [Oper.looksAt, Op.operands, Call.operands, KnownAt, List.lookup, consD] at hk
              simp [execOp, Act.eval, hk, hc, go_sem]
              all_goals rfl
            apply gw_val
            · intro a' w' hk
              refine ⟨wanted_guard (t := 102) rfl rfl (by simpa [KnownAt, List.lookup, consD] using hk 102 (by decide)), ?_⟩
              simp [Oper.looksAt, Op.operands, Call.operands, KnownAt, List.lookup, consD] at hk
              have hw : IntKind.i64.wrap ((n0 : Int) - (pn : Int)) = (n0 : Int) - (pn : Int) := IntWalk.i64_in _ (by omega)
              simp [execOp, Act.eval, hk, go_sem, hw]
              all_goals rfl
            apply gw_val
            · intro a' w' hk
              refine ⟨wanted_guard (t := 102) rfl rfl (by simpa [KnownAt, List.lookup, consD] using hk 102 (by decide)), ?_⟩
              simp [Oper.looksAt, Op.operands, Call.operands, KnownAt, List.lookup, consD] at hk
              simp [execOp, Act.eval, hk, go_sem]
              all_goals rfl
            apply gw_val
            · intro a' w' hk
              refine ⟨wanted_none rfl, ?_⟩
              simp [Oper.looksAt, Op.operands, Call.operands, KnownAt, List.lookup, consD] at hk
              simp [execOp, Act.eval, hk, go_sem]
              all_goals rfl
            apply gw_val
            · intro a' w' hk
              refine ⟨wanted_none rfl, ?_⟩
              simp [Oper.looksAt, Op.operands, Call.operands, KnownAt, List.lookup, consD] at hk
              simp [execOp, Act.eval, hk, go_sem]
              all_goals rfl
            apply gw_val
            · intro a' w' hk
              refine ⟨wanted_guard (t := 114) rfl rfl (by simpa [KnownAt, List.lookup, consD] using hk 114 (by decide)), ?_⟩
              simp [Oper.looksAt, Op.operands, Call.operands, KnownAt, List.lookup, consD] at hk
              simp [execOp, Act.eval, hk, go_sem]
              all_goals rfl
            refine gw_call _ #[.pointer (some ⟨g, 0, none⟩)] (fun v _ => v = .int .i64 en) (mono_eq _) (fun a' w' hk => ?_) (fun w' hb => (cErr_any g l0 pn en w' (HCUR.out.below (below_drew0.trans hb))).mono ?_) ?_
            · refine ⟨wanted_guard (t := 114) rfl rfl (by simpa [KnownAt, List.lookup, consD] using hk 114 (by decide)), ?_⟩
              simp [Oper.looksAt, Op.operands, Call.operands, KnownAt, List.lookup, consD] at hk
              simp [execOp, Act.eval, hk, go_sem]
              all_goals rfl
            · rintro e w'' ⟨rfl, rfl⟩
              exact ⟨_, rfl, rfl, Below.refl _ _⟩
            apply gw_val
            · intro a' w' hk
              refine ⟨wanted_guard (t := 114) rfl rfl (by simpa [KnownAt, List.lookup, consD] using hk 114 (by decide)), ?_⟩
              simp [Oper.looksAt, Op.operands, Call.operands, KnownAt, List.lookup, consD] at hk
              simp [execOp, Act.eval, hk, go_sem]
              all_goals rfl
            apply gw_val
            · intro a' w' hk
              refine ⟨wanted_guard (t := 114) rfl rfl (by simpa [KnownAt, List.lookup, consD] using hk 114 (by decide)), ?_⟩
              simp [Oper.looksAt, Op.operands, Call.operands, KnownAt, List.lookup, consD] at hk
              simp [execOp, Act.eval, hk, go_sem]
              all_goals rfl
            apply gw_val
            · intro a' w' hk
              refine ⟨wanted_guard (t := 114) rfl rfl (by simpa [KnownAt, List.lookup, consD] using hk 114 (by decide)), ?_⟩
              simp [Oper.looksAt, Op.operands, Call.operands, KnownAt, List.lookup, consD] at hk
              simp [execOp, Act.eval, hk, go_sem]
              all_goals rfl
            refine gw_valB (fun v _ => v = .int .i64 en) (mono_eq _) ?_ ?_
            · intro a' w' hb' hk
              refine ⟨wanted_guard (t := 114) rfl rfl (by simpa [KnownAt, List.lookup, consD] using hk 114 (by decide)), _, ?_, rfl⟩
              obtain ⟨ar, nr, cr, hbr, -⟩ := (HREF.out.below (below_drew0.trans hb')).ex
              have hc := hbr.cell (i := 2) rfl
              simp [Oper.looksAt, Op.operands, Call.operands, KnownAt, List.lookup, consD] at hk
              simp [execOp, Act.eval, hk, hc, go_sem]
              all_goals rfl
            apply gw_val
            · intro a' w' hk
              refine ⟨wanted_guard (t := 114) rfl rfl (by simpa [KnownAt, List.lookup, consD] using hk 114 (by decide)), ?_⟩
              simp [Oper.looksAt, Op.operands, Call.operands, KnownAt, List.lookup, consD] at hk
              simp [execOp, Act.eval, hk, go_sem]
              all_goals rfl
            apply gw_val
            · intro a' w' hk
              refine ⟨wanted_none rfl, ?_⟩
              simp [Oper.looksAt, Op.operands, Call.operands, KnownAt, List.lookup, consD] at hk
              simp [execOp, Act.eval, hk, go_sem]
              all_goals rfl
            intro vs w' hb hall
            simp only [AllS, consD] at hall
            simp only [consD, putAllS, Act.put]
            obtain ⟨h6, -⟩ := hall
            rw [h6]
            simp only [List.setIfInBounds_toArray, List.set_cons_succ, List.set_cons_zero]
            have hb' := drew_later hb
            have hcur3 := HCUR.out.below hb'
            have href3 := HREF.out.below hb'
            have hB3 := below_trans0 HB.out HB.out.size hb'
            clear hb hb' h6
            go_wp2
            go_roundw
            case rel => exact ⟨k + 1, pn, en, by omega, by go_num, hcur3, href3, hB3⟩
            case measure => simp [intOf]; omega
          have hcur2a := hcur1
          go_wp2_with fail
          refine (cFail_any g l0 p er kd _ hcur1).mono ?_
          rintro e wc ⟨rfl, hc, hg⟩
          have hk1 := keep_of_grown hg hcur1.nobyte
          have href3 := href1.keep hk1 hg hhg
          have hBc := below_of_grown hB1 hB1.size hg hBg
          have hq0c := hg.cell hq0 (by simpa using hqg)
          obtain ⟨pn, hPN⟩ : ∃ x, x = p := ⟨_, rfl⟩
          obtain ⟨en, hEN⟩ : ∃ x, failE er kd = x := ⟨_, rfl⟩
          rw [hEN, ← hPN] at hc
          clear hcur1 href1 hB1 hk1 hg hcur2a hq0 hq1
          by_cases he0 : er = 0
          · have he : en = kd := by rw [← hEN, he0]; rfl
            subst he0 he
            have href4 := href3.setE en
            have hgs := grownBy_setCell wc ⟨h, 2, none⟩ (.int .i64 en)
            have hcur2 := hc.keep (keep_of_grown hgs href3.nobyte) hgs hgh
            have hB2 := below_of_grown hBc hBc.size hgs hBh
            obtain ⟨ar, nr, cr, hbr, -⟩ := href3.ex
            have hr2 := hbr.cell (i := 2) rfl
            have hfz := hbr.frozen 2
            rw [← hPN] at href4
            have HC2 := Lib.hid hcur2
            have HR4 := Lib.hid href4
            have HB2 := Lib.hid hB2
            clear hc href3 hBc hPN hEN hgs hbr href4 hcur2 hB2
            go_wp2_with fail
            have hcur2 := HC2.out
            have href2 := HR4.out
            have hB2 := HB2.out
            clear HC2 HR4 HB2 hr2 hfz hq0c
            have hpn := hcur2.place
            have HCUR := Lib.hid hcur2
            have HREF := Lib.hid href2
            have HB := Lib.hid hB2
            rw [HL0.out] at hpn
            clear hcur2 href2 hB2
            go_wp2_with fail
            refine wp_region_grow (by kernel_rfl) (by kernel_rfl) (by rfl) ?_
            apply gw_val
            · intro a' w' hk
              refine ⟨wanted_none rfl, ?_⟩
              simp [Oper.looksAt, Op.operands, Call.operands, KnownAt, List.lookup, consD] at hk
              simp [execOp, Act.eval, hk, go_sem]
              all_goals rfl
            apply gw_val
            · intro a' w' hk
              refine ⟨wanted_none rfl, ?_⟩
              simp [Oper.looksAt, Op.operands, Call.operands, KnownAt, List.lookup, consD] at hk
              simp [execOp, Act.eval, hk, go_sem]
              all_goals rfl
            apply gw_val
            · intro a' w' hk
              refine ⟨wanted_none rfl, ?_⟩
              simp [Oper.looksAt, Op.operands, Call.operands, KnownAt, List.lookup, consD] at hk
              simp [execOp, Act.eval, hk, go_sem]
              all_goals rfl
            apply gw_val
            · intro a' w' hk
              refine ⟨wanted_guard (t := 93) rfl rfl (by simpa [KnownAt, List.lookup, consD] using hk 93 (by decide)), ?_⟩
              simp [Oper.looksAt, Op.operands, Call.operands, KnownAt, List.lookup, consD] at hk
              simp [execOp, Act.eval, hk, go_sem]
              all_goals rfl
            refine gw_call _ #[.pointer (some ⟨g, 0, none⟩)] (fun v _ => v = .int .i64 (pn : Int)) (mono_eq _) (fun a' w' hk => ?_) (fun w' hb => (cAt_any g l0 pn en w' (HCUR.out.below (below_drew0.trans hb))).mono ?_) ?_
            · refine ⟨wanted_guard (t := 93) rfl rfl (by simpa [KnownAt, List.lookup, consD] using hk 93 (by decide)), ?_⟩
              simp [Oper.looksAt, Op.operands, Call.operands, KnownAt, List.lookup, consD] at hk
              simp [execOp, Act.eval, hk, go_sem]
              all_goals rfl
            · rintro e w'' ⟨rfl, rfl⟩
              exact ⟨_, rfl, rfl, Below.refl _ _⟩
            apply gw_val
            · intro a' w' hk
              refine ⟨wanted_guard (t := 93) rfl rfl (by simpa [KnownAt, List.lookup, consD] using hk 93 (by decide)), ?_⟩
              simp [Oper.looksAt, Op.operands, Call.operands, KnownAt, List.lookup, consD] at hk
              simp [execOp, Act.eval, hk, go_sem]
              all_goals rfl
            apply gw_val
            · intro a' w' hk
              refine ⟨wanted_guard (t := 93) rfl rfl (by simpa [KnownAt, List.lookup, consD] using hk 93 (by decide)), ?_⟩
              simp [Oper.looksAt, Op.operands, Call.operands, KnownAt, List.lookup, consD] at hk
              simp [execOp, Act.eval, hk, go_sem]
              all_goals rfl
            apply gw_val
            · intro a' w' hk
              refine ⟨wanted_guard (t := 93) rfl rfl (by simpa [KnownAt, List.lookup, consD] using hk 93 (by decide)), ?_⟩
              simp [Oper.looksAt, Op.operands, Call.operands, KnownAt, List.lookup, consD] at hk
              simp [execOp, Act.eval, hk, go_sem]
              all_goals rfl
            refine gw_valB (fun v _ => v = .int .i64 (pn : Int)) (mono_eq _) ?_ ?_
            · intro a' w' hb' hk
              refine ⟨wanted_guard (t := 93) rfl rfl (by simpa [KnownAt, List.lookup, consD] using hk 93 (by decide)), _, ?_, rfl⟩
              obtain ⟨ar, nr, cr, hbr, -⟩ := (HREF.out.below (below_drew0.trans hb')).ex
              have hc := hbr.cell (i := 1) rfl
              simp [Oper.looksAt, Op.operands, Call.operands, KnownAt, List.lookup, consD] at hk
              simp [execOp, Act.eval, hk, hc, go_sem]
              all_goals rfl
            apply gw_val
            · intro a' w' hk
              refine ⟨wanted_guard (t := 93) rfl rfl (by simpa [KnownAt, List.lookup, consD] using hk 93 (by decide)), ?_⟩
              simp [Oper.looksAt, Op.operands, Call.operands, KnownAt, List.lookup, consD] at hk
              simp [execOp, Act.eval, hk, go_sem]
              all_goals rfl
            apply gw_val
            · intro a' w' hk
              refine ⟨wanted_none rfl, ?_⟩
              simp [Oper.looksAt, Op.operands, Call.operands, KnownAt, List.lookup, consD] at hk
              simp [execOp, Act.eval, hk, go_sem]
              all_goals rfl
            apply gw_val
            · intro a' w' hk
              refine ⟨wanted_none rfl, ?_⟩
              simp [Oper.looksAt, Op.operands, Call.operands, KnownAt, List.lookup, consD] at hk
              simp [execOp, Act.eval, hk, go_sem]
              all_goals rfl
            apply gw_val
            · intro a' w' hk
              refine ⟨wanted_guard (t := 102) rfl rfl (by simpa [KnownAt, List.lookup, consD] using hk 102 (by decide)), ?_⟩
              simp [Oper.looksAt, Op.operands, Call.operands, KnownAt, List.lookup, consD] at hk
              simp [execOp, Act.eval, hk, go_sem]
              all_goals rfl
            refine gw_call _ #[.pointer (some ⟨g, 0, none⟩)] (fun v _ => v = .int .i64 ((n0 : Int) - (pn : Int))) (mono_eq _) (fun a' w' hk => ?_) (fun w' hb => (cLeft_any g l0 pn en w' (HCUR.out.below (below_drew0.trans hb))).mono ?_) ?_
            · refine ⟨wanted_guard (t := 102) rfl rfl (by simpa [KnownAt, List.lookup, consD] using hk 102 (by decide)), ?_⟩
              simp [Oper.looksAt, Op.operands, Call.operands, KnownAt, List.lookup, consD] at hk
              simp [execOp, Act.eval, hk, go_sem]
              all_goals rfl
            · rintro e w'' ⟨rfl, kd, rfl⟩
              exact ⟨_, rfl, by rw [HL0.out], below_drewN _ _ kd⟩
            apply gw_val
            · intro a' w' hk
              refine ⟨wanted_guard (t := 102) rfl rfl (by simpa [KnownAt, List.lookup, consD] using hk 102 (by decide)), ?_⟩
              simp [Oper.looksAt, Op.operands, Call.operands, KnownAt, List.lookup, consD] at hk
              simp [execOp, Act.eval, hk, go_sem]
              all_goals rfl
            apply gw_val
            · intro a' w' hk
              refine ⟨wanted_guard (t := 102) rfl rfl (by simpa [KnownAt, List.lookup, consD] using hk 102 (by decide)), ?_⟩
              simp [Oper.looksAt, Op.operands, Call.operands, KnownAt, List.lookup, consD] at hk
              simp [execOp, Act.eval, hk, go_sem]
              all_goals rfl
            apply gw_val
            · intro a' w' hk
              refine ⟨wanted_guard (t := 102) rfl rfl (by simpa [KnownAt, List.lookup, consD] using hk 102 (by decide)), ?_⟩
              simp [Oper.looksAt, Op.operands, Call.operands, KnownAt, List.lookup, consD] at hk
              simp [execOp, Act.eval, hk, go_sem]
              all_goals rfl
            apply gw_val
            · intro a' w' hk
              refine ⟨wanted_guard (t := 102) rfl rfl (by simpa [KnownAt, List.lookup, consD] using hk 102 (by decide)), ?_⟩
              simp [Oper.looksAt, Op.operands, Call.operands, KnownAt, List.lookup, consD] at hk
              simp [execOp, Act.eval, hk, go_sem]
              all_goals rfl
            apply gw_val
            · intro a' w' hk
              refine ⟨wanted_guard (t := 102) rfl rfl (by simpa [KnownAt, List.lookup, consD] using hk 102 (by decide)), ?_⟩
              simp [Oper.looksAt, Op.operands, Call.operands, KnownAt, List.lookup, consD] at hk
              simp [execOp, Act.eval, hk, go_sem]
              all_goals rfl
            refine gw_valB (fun v _ => v = .int .i64 (pn : Int)) (mono_eq _) ?_ ?_
            · intro a' w' hb' hk
              refine ⟨wanted_guard (t := 102) rfl rfl (by simpa [KnownAt, List.lookup, consD] using hk 102 (by decide)), _, ?_, rfl⟩
              obtain ⟨ar, nr, cr, hbr, -⟩ := (HREF.out.below (below_drew0.trans hb')).ex
              have hc := hbr.cell (i := 1) rfl
              simp [Oper.looksAt, Op.operands, Call.operands, KnownAt, List.lookup, consD] at hk
              simp [execOp, Act.eval, hk, hc, go_sem]
              all_goals rfl
            apply gw_val
            · intro a' w' hk
              refine ⟨wanted_guard (t := 102) rfl rfl (by simpa [KnownAt, List.lookup, consD] using hk 102 (by decide)), ?_⟩
              simp [Oper.looksAt, Op.operands, Call.operands, KnownAt, List.lookup, consD] at hk
              have hw : IntKind.i64.wrap ((n0 : Int) - (pn : Int)) = (n0 : Int) - (pn : Int) := IntWalk.i64_in _ (by omega)
              simp [execOp, Act.eval, hk, go_sem, hw]
              all_goals rfl
            apply gw_val
            · intro a' w' hk
              refine ⟨wanted_guard (t := 102) rfl rfl (by simpa [KnownAt, List.lookup, consD] using hk 102 (by decide)), ?_⟩
              simp [Oper.looksAt, Op.operands, Call.operands, KnownAt, List.lookup, consD] at hk
              simp [execOp, Act.eval, hk, go_sem]
              all_goals rfl
            apply gw_val
            · intro a' w' hk
              refine ⟨wanted_none rfl, ?_⟩
              simp [Oper.looksAt, Op.operands, Call.operands, KnownAt, List.lookup, consD] at hk
              simp [execOp, Act.eval, hk, go_sem]
              all_goals rfl
            apply gw_val
            · intro a' w' hk
              refine ⟨wanted_none rfl, ?_⟩
              simp [Oper.looksAt, Op.operands, Call.operands, KnownAt, List.lookup, consD] at hk
              simp [execOp, Act.eval, hk, go_sem]
              all_goals rfl
            apply gw_val
            · intro a' w' hk
              refine ⟨wanted_guard (t := 114) rfl rfl (by simpa [KnownAt, List.lookup, consD] using hk 114 (by decide)), ?_⟩
              simp [Oper.looksAt, Op.operands, Call.operands, KnownAt, List.lookup, consD] at hk
              simp [execOp, Act.eval, hk, go_sem]
              all_goals rfl
            refine gw_call _ #[.pointer (some ⟨g, 0, none⟩)] (fun v _ => v = .int .i64 en) (mono_eq _) (fun a' w' hk => ?_) (fun w' hb => (cErr_any g l0 pn en w' (HCUR.out.below (below_drew0.trans hb))).mono ?_) ?_
            · refine ⟨wanted_guard (t := 114) rfl rfl (by simpa [KnownAt, List.lookup, consD] using hk 114 (by decide)), ?_⟩
              simp [Oper.looksAt, Op.operands, Call.operands, KnownAt, List.lookup, consD] at hk
              simp [execOp, Act.eval, hk, go_sem]
              all_goals rfl
            · rintro e w'' ⟨rfl, rfl⟩
              exact ⟨_, rfl, rfl, Below.refl _ _⟩
            apply gw_val
            · intro a' w' hk
              refine ⟨wanted_guard (t := 114) rfl rfl (by simpa [KnownAt, List.lookup, consD] using hk 114 (by decide)), ?_⟩
              simp [Oper.looksAt, Op.operands, Call.operands, KnownAt, List.lookup, consD] at hk
              simp [execOp, Act.eval, hk, go_sem]
              all_goals rfl
            apply gw_val
            · intro a' w' hk
              refine ⟨wanted_guard (t := 114) rfl rfl (by simpa [KnownAt, List.lookup, consD] using hk 114 (by decide)), ?_⟩
              simp [Oper.looksAt, Op.operands, Call.operands, KnownAt, List.lookup, consD] at hk
              simp [execOp, Act.eval, hk, go_sem]
              all_goals rfl
            apply gw_val
            · intro a' w' hk
              refine ⟨wanted_guard (t := 114) rfl rfl (by simpa [KnownAt, List.lookup, consD] using hk 114 (by decide)), ?_⟩
              simp [Oper.looksAt, Op.operands, Call.operands, KnownAt, List.lookup, consD] at hk
              simp [execOp, Act.eval, hk, go_sem]
              all_goals rfl
            refine gw_valB (fun v _ => v = .int .i64 en) (mono_eq _) ?_ ?_
            · intro a' w' hb' hk
              refine ⟨wanted_guard (t := 114) rfl rfl (by simpa [KnownAt, List.lookup, consD] using hk 114 (by decide)), _, ?_, rfl⟩
              obtain ⟨ar, nr, cr, hbr, -⟩ := (HREF.out.below (below_drew0.trans hb')).ex
              have hc := hbr.cell (i := 2) rfl
              simp [Oper.looksAt, Op.operands, Call.operands, KnownAt, List.lookup, consD] at hk
              simp [execOp, Act.eval, hk, hc, go_sem]
              all_goals rfl
            apply gw_val
            · intro a' w' hk
              refine ⟨wanted_guard (t := 114) rfl rfl (by simpa [KnownAt, List.lookup, consD] using hk 114 (by decide)), ?_⟩
              simp [Oper.looksAt, Op.operands, Call.operands, KnownAt, List.lookup, consD] at hk
              simp [execOp, Act.eval, hk, go_sem]
              all_goals rfl
            apply gw_val
            · intro a' w' hk
              refine ⟨wanted_none rfl, ?_⟩
              simp [Oper.looksAt, Op.operands, Call.operands, KnownAt, List.lookup, consD] at hk
              simp [execOp, Act.eval, hk, go_sem]
              all_goals rfl
            intro vs w' hb hall
            simp only [AllS, consD] at hall
            simp only [consD, putAllS, Act.put]
            obtain ⟨h6, -⟩ := hall
            rw [h6]
            simp only [List.setIfInBounds_toArray, List.set_cons_succ, List.set_cons_zero]
            have hb' := drew_later hb
            have hcur3 := HCUR.out.below hb'
            have href3 := HREF.out.below hb'
            have hB3 := below_trans0 HB.out HB.out.size hb'
            clear hb hb' h6
            go_wp2
            go_roundw
            case rel => exact ⟨k + 1, pn, en, by omega, by go_num, hcur3, href3, hB3⟩
            case measure => simp [intOf]; omega
          · have he : en = er := by rw [← hEN]; unfold failE; rw [if_neg he0]
            subst he
            have hee : (en == 0) = false := by simpa using he0
            obtain ⟨ar, nr, cr, hbr, -⟩ := href3.ex
            have hr2 := hbr.cell (i := 2) rfl
            rw [← hPN] at href3
            have HC2 := Lib.hid hc
            have HR4 := Lib.hid href3
            have HB2 := Lib.hid hBc
            clear hc href3 hBc hPN hEN hbr he0
            go_wp2_with fail
            have hcur2 := HC2.out
            have href2 := HR4.out
            have hB2 := HB2.out
            clear HC2 HR4 HB2 hr2 hq0c
            have hpn := hcur2.place
            have HCUR := Lib.hid hcur2
            have HREF := Lib.hid href2
            have HB := Lib.hid hB2
            rw [HL0.out] at hpn
            clear hcur2 href2 hB2
            go_wp2_with fail
            refine wp_region_grow (by kernel_rfl) (by kernel_rfl) (by rfl) ?_
            apply gw_val
            · intro a' w' hk
              refine ⟨wanted_none rfl, ?_⟩
              simp [Oper.looksAt, Op.operands, Call.operands, KnownAt, List.lookup, consD] at hk
              simp [execOp, Act.eval, hk, go_sem]
              all_goals rfl
            apply gw_val
            · intro a' w' hk
              refine ⟨wanted_none rfl, ?_⟩
              simp [Oper.looksAt, Op.operands, Call.operands, KnownAt, List.lookup, consD] at hk
              simp [execOp, Act.eval, hk, go_sem]
              all_goals rfl
            apply gw_val
            · intro a' w' hk
              refine ⟨wanted_none rfl, ?_⟩
              simp [Oper.looksAt, Op.operands, Call.operands, KnownAt, List.lookup, consD] at hk
              simp [execOp, Act.eval, hk, go_sem]
              all_goals rfl
            apply gw_val
            · intro a' w' hk
              refine ⟨wanted_guard (t := 93) rfl rfl (by simpa [KnownAt, List.lookup, consD] using hk 93 (by decide)), ?_⟩
              simp [Oper.looksAt, Op.operands, Call.operands, KnownAt, List.lookup, consD] at hk
              simp [execOp, Act.eval, hk, go_sem]
              all_goals rfl
            refine gw_call _ #[.pointer (some ⟨g, 0, none⟩)] (fun v _ => v = .int .i64 (pn : Int)) (mono_eq _) (fun a' w' hk => ?_) (fun w' hb => (cAt_any g l0 pn en w' (HCUR.out.below (below_drew0.trans hb))).mono ?_) ?_
            · refine ⟨wanted_guard (t := 93) rfl rfl (by simpa [KnownAt, List.lookup, consD] using hk 93 (by decide)), ?_⟩
              simp [Oper.looksAt, Op.operands, Call.operands, KnownAt, List.lookup, consD] at hk
              simp [execOp, Act.eval, hk, go_sem]
              all_goals rfl
            · rintro e w'' ⟨rfl, rfl⟩
              exact ⟨_, rfl, rfl, Below.refl _ _⟩
            apply gw_val
            · intro a' w' hk
              refine ⟨wanted_guard (t := 93) rfl rfl (by simpa [KnownAt, List.lookup, consD] using hk 93 (by decide)), ?_⟩
              simp [Oper.looksAt, Op.operands, Call.operands, KnownAt, List.lookup, consD] at hk
              simp [execOp, Act.eval, hk, go_sem]
              all_goals rfl
            apply gw_val
            · intro a' w' hk
              refine ⟨wanted_guard (t := 93) rfl rfl (by simpa [KnownAt, List.lookup, consD] using hk 93 (by decide)), ?_⟩
              simp [Oper.looksAt, Op.operands, Call.operands, KnownAt, List.lookup, consD] at hk
              simp [execOp, Act.eval, hk, go_sem]
              all_goals rfl
            apply gw_val
            · intro a' w' hk
              refine ⟨wanted_guard (t := 93) rfl rfl (by simpa [KnownAt, List.lookup, consD] using hk 93 (by decide)), ?_⟩
              simp [Oper.looksAt, Op.operands, Call.operands, KnownAt, List.lookup, consD] at hk
              simp [execOp, Act.eval, hk, go_sem]
              all_goals rfl
            refine gw_valB (fun v _ => v = .int .i64 (pn : Int)) (mono_eq _) ?_ ?_
            · intro a' w' hb' hk
              refine ⟨wanted_guard (t := 93) rfl rfl (by simpa [KnownAt, List.lookup, consD] using hk 93 (by decide)), _, ?_, rfl⟩
              obtain ⟨ar, nr, cr, hbr, -⟩ := (HREF.out.below (below_drew0.trans hb')).ex
              have hc := hbr.cell (i := 1) rfl
              simp [Oper.looksAt, Op.operands, Call.operands, KnownAt, List.lookup, consD] at hk
              simp [execOp, Act.eval, hk, hc, go_sem]
              all_goals rfl
            apply gw_val
            · intro a' w' hk
              refine ⟨wanted_guard (t := 93) rfl rfl (by simpa [KnownAt, List.lookup, consD] using hk 93 (by decide)), ?_⟩
              simp [Oper.looksAt, Op.operands, Call.operands, KnownAt, List.lookup, consD] at hk
              simp [execOp, Act.eval, hk, go_sem]
              all_goals rfl
            apply gw_val
            · intro a' w' hk
              refine ⟨wanted_none rfl, ?_⟩
              simp [Oper.looksAt, Op.operands, Call.operands, KnownAt, List.lookup, consD] at hk
              simp [execOp, Act.eval, hk, go_sem]
              all_goals rfl
            apply gw_val
            · intro a' w' hk
              refine ⟨wanted_none rfl, ?_⟩
              simp [Oper.looksAt, Op.operands, Call.operands, KnownAt, List.lookup, consD] at hk
              simp [execOp, Act.eval, hk, go_sem]
              all_goals rfl
            apply gw_val
            · intro a' w' hk
              refine ⟨wanted_guard (t := 102) rfl rfl (by simpa [KnownAt, List.lookup, consD] using hk 102 (by decide)), ?_⟩
              simp [Oper.looksAt, Op.operands, Call.operands, KnownAt, List.lookup, consD] at hk
              simp [execOp, Act.eval, hk, go_sem]
              all_goals rfl
            refine gw_call _ #[.pointer (some ⟨g, 0, none⟩)] (fun v _ => v = .int .i64 ((n0 : Int) - (pn : Int))) (mono_eq _) (fun a' w' hk => ?_) (fun w' hb => (cLeft_any g l0 pn en w' (HCUR.out.below (below_drew0.trans hb))).mono ?_) ?_
            · refine ⟨wanted_guard (t := 102) rfl rfl (by simpa [KnownAt, List.lookup, consD] using hk 102 (by decide)), ?_⟩
              simp [Oper.looksAt, Op.operands, Call.operands, KnownAt, List.lookup, consD] at hk
              simp [execOp, Act.eval, hk, go_sem]
              all_goals rfl
            · rintro e w'' ⟨rfl, kd, rfl⟩
              exact ⟨_, rfl, by rw [HL0.out], below_drewN _ _ kd⟩
            apply gw_val
            · intro a' w' hk
              refine ⟨wanted_guard (t := 102) rfl rfl (by simpa [KnownAt, List.lookup, consD] using hk 102 (by decide)), ?_⟩
              simp [Oper.looksAt, Op.operands, Call.operands, KnownAt, List.lookup, consD] at hk
              simp [execOp, Act.eval, hk, go_sem]
              all_goals rfl
            apply gw_val
            · intro a' w' hk
              refine ⟨wanted_guard (t := 102) rfl rfl (by simpa [KnownAt, List.lookup, consD] using hk 102 (by decide)), ?_⟩
              simp [Oper.looksAt, Op.operands, Call.operands, KnownAt, List.lookup, consD] at hk
              simp [execOp, Act.eval, hk, go_sem]
              all_goals rfl
            apply gw_val
            · intro a' w' hk
              refine ⟨wanted_guard (t := 102) rfl rfl (by simpa [KnownAt, List.lookup, consD] using hk 102 (by decide)), ?_⟩
              simp [Oper.looksAt, Op.operands, Call.operands, KnownAt, List.lookup, consD] at hk
              simp [execOp, Act.eval, hk, go_sem]
              all_goals rfl
            apply gw_val
            · intro a' w' hk
              refine ⟨wanted_guard (t := 102) rfl rfl (by simpa [KnownAt, List.lookup, consD] using hk 102 (by decide)), ?_⟩
              simp [Oper.looksAt, Op.operands, Call.operands, KnownAt, List.lookup, consD] at hk
              simp [execOp, Act.eval, hk, go_sem]
              all_goals rfl
            apply gw_val
            · intro a' w' hk
              refine ⟨wanted_guard (t := 102) rfl rfl (by simpa [KnownAt, List.lookup, consD] using hk 102 (by decide)), ?_⟩
              simp [Oper.looksAt, Op.operands, Call.operands, KnownAt, List.lookup, consD] at hk
              simp [execOp, Act.eval, hk, go_sem]
              all_goals rfl
            refine gw_valB (fun v _ => v = .int .i64 (pn : Int)) (mono_eq _) ?_ ?_
            · intro a' w' hb' hk
              refine ⟨wanted_guard (t := 102) rfl rfl (by simpa [KnownAt, List.lookup, consD] using hk 102 (by decide)), _, ?_, rfl⟩
              obtain ⟨ar, nr, cr, hbr, -⟩ := (HREF.out.below (below_drew0.trans hb')).ex
              have hc := hbr.cell (i := 1) rfl
              simp [Oper.looksAt, Op.operands, Call.operands, KnownAt, List.lookup, consD] at hk
              simp [execOp, Act.eval, hk, hc, go_sem]
              all_goals rfl
            apply gw_val
            · intro a' w' hk
              refine ⟨wanted_guard (t := 102) rfl rfl (by simpa [KnownAt, List.lookup, consD] using hk 102 (by decide)), ?_⟩
              simp [Oper.looksAt, Op.operands, Call.operands, KnownAt, List.lookup, consD] at hk
              have hw : IntKind.i64.wrap ((n0 : Int) - (pn : Int)) = (n0 : Int) - (pn : Int) := IntWalk.i64_in _ (by omega)
              simp [execOp, Act.eval, hk, go_sem, hw]
              all_goals rfl
            apply gw_val
            · intro a' w' hk
              refine ⟨wanted_guard (t := 102) rfl rfl (by simpa [KnownAt, List.lookup, consD] using hk 102 (by decide)), ?_⟩
              simp [Oper.looksAt, Op.operands, Call.operands, KnownAt, List.lookup, consD] at hk
              simp [execOp, Act.eval, hk, go_sem]
              all_goals rfl
            apply gw_val
            · intro a' w' hk
              refine ⟨wanted_none rfl, ?_⟩
              simp [Oper.looksAt, Op.operands, Call.operands, KnownAt, List.lookup, consD] at hk
              simp [execOp, Act.eval, hk, go_sem]
              all_goals rfl
            apply gw_val
            · intro a' w' hk
              refine ⟨wanted_none rfl, ?_⟩
              simp [Oper.looksAt, Op.operands, Call.operands, KnownAt, List.lookup, consD] at hk
              simp [execOp, Act.eval, hk, go_sem]
              all_goals rfl
            apply gw_val
            · intro a' w' hk
              refine ⟨wanted_guard (t := 114) rfl rfl (by simpa [KnownAt, List.lookup, consD] using hk 114 (by decide)), ?_⟩
              simp [Oper.looksAt, Op.operands, Call.operands, KnownAt, List.lookup, consD] at hk
              simp [execOp, Act.eval, hk, go_sem]
              all_goals rfl
            refine gw_call _ #[.pointer (some ⟨g, 0, none⟩)] (fun v _ => v = .int .i64 en) (mono_eq _) (fun a' w' hk => ?_) (fun w' hb => (cErr_any g l0 pn en w' (HCUR.out.below (below_drew0.trans hb))).mono ?_) ?_
            · refine ⟨wanted_guard (t := 114) rfl rfl (by simpa [KnownAt, List.lookup, consD] using hk 114 (by decide)), ?_⟩
              simp [Oper.looksAt, Op.operands, Call.operands, KnownAt, List.lookup, consD] at hk
              simp [execOp, Act.eval, hk, go_sem]
              all_goals rfl
            · rintro e w'' ⟨rfl, rfl⟩
              exact ⟨_, rfl, rfl, Below.refl _ _⟩
            apply gw_val
            · intro a' w' hk
              refine ⟨wanted_guard (t := 114) rfl rfl (by simpa [KnownAt, List.lookup, consD] using hk 114 (by decide)), ?_⟩
              simp [Oper.looksAt, Op.operands, Call.operands, KnownAt, List.lookup, consD] at hk
              simp [execOp, Act.eval, hk, go_sem]
              all_goals rfl
            apply gw_val
            · intro a' w' hk
              refine ⟨wanted_guard (t := 114) rfl rfl (by simpa [KnownAt, List.lookup, consD] using hk 114 (by decide)), ?_⟩
              simp [Oper.looksAt, Op.operands, Call.operands, KnownAt, List.lookup, consD] at hk
              simp [execOp, Act.eval, hk, go_sem]
              all_goals rfl
            apply gw_val
            · intro a' w' hk
              refine ⟨wanted_guard (t := 114) rfl rfl (by simpa [KnownAt, List.lookup, consD] using hk 114 (by decide)), ?_⟩
              simp [Oper.looksAt, Op.operands, Call.operands, KnownAt, List.lookup, consD] at hk
              simp [execOp, Act.eval, hk, go_sem]
              all_goals rfl
            refine gw_valB (fun v _ => v = .int .i64 en) (mono_eq _) ?_ ?_
            · intro a' w' hb' hk
              refine ⟨wanted_guard (t := 114) rfl rfl (by simpa [KnownAt, List.lookup, consD] using hk 114 (by decide)), _, ?_, rfl⟩
              obtain ⟨ar, nr, cr, hbr, -⟩ := (HREF.out.below (below_drew0.trans hb')).ex
              have hc := hbr.cell (i := 2) rfl
              simp [Oper.looksAt, Op.operands, Call.operands, KnownAt, List.lookup, consD] at hk
              simp [execOp, Act.eval, hk, hc, go_sem]
              all_goals rfl
            apply gw_val
            · intro a' w' hk
              refine ⟨wanted_guard (t := 114) rfl rfl (by simpa [KnownAt, List.lookup, consD] using hk 114 (by decide)), ?_⟩
              simp [Oper.looksAt, Op.operands, Call.operands, KnownAt, List.lookup, consD] at hk
              simp [execOp, Act.eval, hk, go_sem]
              all_goals rfl
            apply gw_val
            · intro a' w' hk
              refine ⟨wanted_none rfl, ?_⟩
              simp [Oper.looksAt, Op.operands, Call.operands, KnownAt, List.lookup, consD] at hk
              simp [execOp, Act.eval, hk, go_sem]
              all_goals rfl
            intro vs w' hb hall
            simp only [AllS, consD] at hall
            simp only [consD, putAllS, Act.put]
            obtain ⟨h6, -⟩ := hall
            rw [h6]
            simp only [List.setIfInBounds_toArray, List.set_cons_succ, List.set_cons_zero]
            have hb' := drew_later hb
            have hcur3 := HCUR.out.below hb'
            have href3 := HREF.out.below hb'
            have hB3 := below_trans0 HB.out HB.out.size hb'
            clear hb hb' h6
            go_wp2
            go_roundw
            case rel => exact ⟨k + 1, pn, en, by omega, by go_num, hcur3, href3, hB3⟩
            case measure => simp [intOf]; omega
        · have hk' : n1 = k := by omega
          subst hk'
          go_wp2
          go_ret
          exact ⟨rfl, hB⟩
end Go.Proofs.Ytnfdbljeinlblaa
