/- The walks of packsaddleref03.Seal, Burst, Hits. -/
import Derived.Test.YtnmdgmjheopolaaRef01B
import Derived.Test.YtnmdgmjheopolaaRef03W
import Derived.Test.YtnmdgmjheopolaaRef02P
import Derived.Test.YtnmdgmjheopolaaCrcB
import Derived.Test.YtnmdgmjheopolaaGrow2
namespace Go.Proofs.Ytnmdgmjheopolaa
open Go.RowKit
set_option linter.unusedVariables false
set_option linter.unusedSimpArgs false

theorem refSumI_any (a : Option Addr) (n c : Nat) (b : List UInt8) (w : World) (hl : b.length = n) (hn : n ≤ 1000000000) (hr : Rd w byteV a b) :
  Calls Try.prog 82 #[.slice a n c] w fun e w' => e = .returned (.int .u32 (crcSumI b)) ∧ Below w.heap.size w w' :=
  (refSum_any a n c b w hl hn hr).mono fun e w' ⟨h1, h2⟩ => ⟨by rw [h1, refSum_eq], h2⟩

set_option maxRecDepth 100000 in
set_option maxHeartbeats 1000000 in
theorem rSeal_any (a : Option Addr) (n c : Nat) (l : List UInt8) (w : World) (hl : l.length = n) (hn : n ≤ 1000000000) (hr : Rd w bE a l) :
  Calls Try.prog 44 #[.slice a n c] w fun e w' => ∃ a' n' c', e = .returned (.slice a' n' c') ∧ Own w' w.heap.size 5 bE a' n' c' (sealL l) ∧ Below w.heap.size w w' := by
  have hrg := crcSumI_range l
  obtain ⟨s, hs⟩ : ∃ s : Nat, crcSumI l = s := ⟨(crcSumI l).toNat, by omega⟩
  have hse : sealL l = l ++ putL s 4 := by unfold sealL; rw [hs]; rfl
  have HSE := Lib.hid hse
  clear hse
  go_enter Try.func44, Try.ntmps44
  go_wp2_with fail
  refine (refSumI_any a n c l w hl hn hr).mono ?_
  rintro e w1 ⟨rfl, hB1⟩
  rw [hs] at hrg ⊢
  have hs1 := hB1.size
  go_wp2_with fail
  refine (rLittle_any a n c l s 4 w1 hl hn (by omega) (hr.below hB1)).mono ?_
  rintro e w2 ⟨a2, n2, c2, rfl, hbuf, hB2⟩
  go_wp2
  go_ret
  exact ⟨_, _, _, rfl, by rw [HSE.out]; exact hbuf.mono hs1, below_trans0 hB1 hs1 hB2⟩

/-- The row behind k of the pattern's bits. -/
def burstX (l : List UInt8) (at' pat : Int) (k : Nat) : List UInt8 := if at' < -32 ∨ at' ≥ 8 * (l.length : Int) then l else burstRun l at' pat k
theorem burstX_len (l : List UInt8) (at' pat : Int) (k : Nat) : (burstX l at' pat k).length = l.length := by unfold burstX; split; rfl; exact burstRun_len _ _ _ _
theorem pat_bit (pt k : Nat) (hp : pt < 4294967296) : (bits .and .u32 ((pt : Int) / 2 ^ k) 1 == 1) = decide (pt / 2 ^ k % 2 = 1) := by
  have hle : pt / 2 ^ k ≤ pt := Nat.div_le_self _ _
  have e : (pt : Int) / 2 ^ k = ((pt / 2 ^ k : Nat) : Int) := by push_cast; rfl
  have h := u32_and_nat (pt / 2 ^ k) 1 (by omega) (by omega)
  rw [e, show ((1 : Int)) = ((1 : Nat) : Int) from rfl, h, Nat.and_one_is_mod]
  generalize pt / 2 ^ k % 2 = x
  by_cases h1 : x = 1
  · subst h1; rfl
  · rw [decide_eq_false h1]; exact beq_eq_false_iff_ne.2 (by omega)
theorem ofL_set (l : List UInt8) (p : Nat) (hp : p < 8 * l.length) : (ofL l).set p (!(ofL l).getD p false) = ofL (l.set (p / 8) (flipB (l.getD (p / 8) 0) (p % 8))) := by
  apply bits_ext
  · simp [ofL_length]
  · intro i
    rw [getD_set _ _ _ _ (by rw [ofL_length]; exact hp), ofL_flip l p hp]
theorem burstX_hit (l : List UInt8) (at' pat : Int) (k : Nat) (h1 : -32 ≤ at') (h2 : at' < 8 * (l.length : Int)) (h3 : 0 ≤ at' + k) (h4 : at' + k < 8 * (l.length : Int)) (hb : (bits .and .u32 (pat / 2 ^ k) 1 == 1) = true) :
    (ofL (burstX l at' pat k)).set (at' + k).toNat (!(ofL (burstX l at' pat k)).getD (at' + k).toNat false) = ofL (burstX l at' pat (k + 1)) := by
  rw [ofL_set _ _ (by rw [burstX_len]; omega)]
  unfold burstX
  rw [if_neg (by omega), if_neg (by omega), burstRun, burstStep, if_pos (by unfold hitsB; rw [hb, burstRun_len]; simp; omega)]
theorem burstX_miss (l : List UInt8) (at' pat : Int) (k : Nat) (h : at' < -32 ∨ at' ≥ 8 * (l.length : Int) ∨ at' + k < 0 ∨ at' + k ≥ 8 * (l.length : Int) ∨ (bits .and .u32 (pat / 2 ^ k) 1 == 1) = false) :
    burstX l at' pat (k + 1) = burstX l at' pat k := by
  unfold burstX
  by_cases hout : at' < -32 ∨ at' ≥ 8 * (l.length : Int)
  · rw [if_pos hout, if_pos hout]
  · rw [if_neg hout, if_neg hout, burstRun, burstStep, if_neg]
    unfold hitsB
    rw [burstRun_len]
    rcases h with h | h | h | h | h
    · omega
    · omega
    · simp; omega
    · simp; omega
    · rw [h]; simp

set_option maxRecDepth 100000 in
set_option maxHeartbeats 8000000 in
theorem rBurst_any (a : Option Addr) (n c : Nat) (l : List UInt8) (at' pat : Int) (w : World) (hl : l.length = n) (hn : n ≤ 1000000000) (hr : Rd w bE a l)
    (ha1 : -9223372036854775808 ≤ at') (ha2 : at' ≤ 9223372036854775807) (hp : 0 ≤ pat ∧ pat < 4294967296) :
  Calls Try.prog 55 #[.slice a n c, .int .i64 at', .int .u32 pat] w fun e w' => ∃ a' n' c', e = .returned (.slice a' n' c') ∧ Own w' w.heap.size 5 bE a' n' c' (burstL l at' pat) ∧ Below w.heap.size w w' := by
  obtain ⟨pt, rfl⟩ := Int.eq_ofNat_of_zero_le hp.1
  have hpt : pt < 4294967296 := by omega
  go_enter Try.func55, Try.ntmps55
  go_wp2_with fail
  refine (of_any a n c l w hl (by omega) hr).mono ?_
  rintro e w1 ⟨a7, c7, rfl, hown7, hb1⟩
  have hs1 := hb1.size
  have hg7 : ∀ g, a7 = some ⟨g, 0, none⟩ → g < w1.heap.size := by
    intro g h
    rcases hown7.blk with ⟨h2, _⟩ | ⟨g', h2, _, h3⟩
    · rw [h2] at h; cases h
    · rw [h2] at h; simp at h; omega
  go_wp2_with fail
  refine (bits_any pt 32 w1 hpt (by decide)).mono ?_
  rintro e w2 ⟨a13, c13, rfl, hown13, hb⟩
  rw [show (32 : Int).toNat = 32 from rfl] at hown13 ⊢
  have hown7b := hown7.below hb
  have hb2 := below_trans0 hb1 hs1 hb
  have HG7 := Lib.hid hg7
  have HLL := Lib.hid hl
  have hX0 : ofL l = ofL (burstX l at' pt 0) := by unfold burstX; split <;> rfl
  rw [hX0] at hown7b
  clear hb hb1 hown7 hr hl hg7 hX0
  go_wp2
  go_loopw [15] (fun i wr => ∃ k : Nat, k ≤ 32 ∧ i = .int .i64 k ∧ Own wr w.heap.size 4 Value.bool a7 (8 * n) c7 (ofL (burstX l at' pt k)) ∧ Own wr w1.heap.size 4 Value.bool a13 32 c13 (bitsL pt 32) ∧ Below w.heap.size w wr) (fun i _ => 32 - (intOf i).toNat)
  case atStart => exact ⟨0, by omega, rfl, hown7b, hown13, hb2⟩
  case round =>
    obtain ⟨k, hk, rfl, hown, hbits, hB⟩ := hrel
    clear hown7b hown13 hb2
    by_cases hlt : k < 32
    · obtain ⟨g13, y, rfl, hg13, -, hy, hc13, -⟩ := hbits.at (i := k) hlt
      have hyv : y = (bits .and .u32 ((pt : Int) / 2 ^ k) 1 == 1) := by
        rw [pat_bit pt k hpt]
        simp [bitsL, hlt] at hy
        rw [← hy]
      have HYV := Lib.hid hyv
      clear hyv hy
      cases y with
      | false =>
        have hst : burstX l at' pt (k + 1) = burstX l at' pt k := burstX_miss l at' pt k (.inr (.inr (.inr (.inr HYV.out.symm))))
        have HST := Lib.hid hst
        clear hst
        go_wp2
        go_roundw
        case rel => exact ⟨k + 1, by omega, by go_num, by rw [HST.out]; exact hown, hbits, hB⟩
        case measure => simp [intOf]; omega
      | true =>
        by_cases hlo : -32 ≤ at'
        · by_cases hhi : at' < 8 * (n : Int)
          · by_cases hin : 0 ≤ at' + k
            · by_cases hin2 : at' + k < 8 * (n : Int)
              · have hst := burstX_hit l at' pt k hlo (by rw [HLL.out]; exact hhi) hin (by rw [HLL.out]; exact hin2) HYV.out.symm
                obtain ⟨g7, old, rfl, hgb, -, hold, hc7, hf7⟩ := hown.at (i := (at' + k).toNat) (by omega)
                have hne : g7 < w1.heap.size := HG7.out g7 rfl
                have hset := hown.set (at' + k).toNat (by omega) (!old)
                rw [show (ofL (burstX l at' pt k)).set (at' + k).toNat (!old) = ofL (burstX l at' pt (k + 1)) from by rw [← hst, List.getD, hold]; rfl] at hset
                have hbset := hbits.setCell_below (p := ⟨g7, (at' + k).toNat, none⟩) hne (.bool (!old))
                have hBset := hB.setCell (p := ⟨g7, (at' + k).toNat, none⟩) hgb (.bool (!old))
                clear hst hold hown hbits hB
                go_wp2
                go_roundw
                case rel => exact ⟨k + 1, by omega, by go_num, hset, hbset, hBset⟩
                case measure => simp [intOf]; omega
              · have hst : burstX l at' pt (k + 1) = burstX l at' pt k := burstX_miss l at' pt k (.inr (.inr (.inr (.inl (by rw [HLL.out]; omega)))))
                have HST := Lib.hid hst
                clear hst
                go_wp2
                go_roundw
                case rel => exact ⟨k + 1, by omega, by go_num, by rw [HST.out]; exact hown, hbits, hB⟩
                case measure => simp [intOf]; omega
            · have hst : burstX l at' pt (k + 1) = burstX l at' pt k := burstX_miss l at' pt k (.inr (.inr (.inl (by omega))))
              have HST := Lib.hid hst
              clear hst
              go_wp2
              go_roundw
              case rel => exact ⟨k + 1, by omega, by go_num, by rw [HST.out]; exact hown, hbits, hB⟩
              case measure => simp [intOf]; omega
          · have hst : burstX l at' pt (k + 1) = burstX l at' pt k := burstX_miss l at' pt k (.inr (.inl (by rw [HLL.out]; omega)))
            have HST := Lib.hid hst
            clear hst
            go_wp2
            go_roundw
            case rel => exact ⟨k + 1, by omega, by go_num, by rw [HST.out]; exact hown, hbits, hB⟩
            case measure => simp [intOf]; omega
        · have hst : burstX l at' pt (k + 1) = burstX l at' pt k := burstX_miss l at' pt k (.inl (by omega))
          have HST := Lib.hid hst
          clear hst
          go_wp2
          go_roundw
          case rel => exact ⟨k + 1, by omega, by go_num, by rw [HST.out]; exact hown, hbits, hB⟩
          case measure => simp [intOf]; omega
    · have hk' : k = 32 := by omega
      subst hk'
      have hfin : burstX l at' pt 32 = burstL l at' pt := rfl
      rw [hfin] at hown
      have hlb := burstL_len l at' pt
      go_wp2_with fail
      refine (rBytes_any a7 (8 * n) c7 _ wr (by rw [ofL_length, hlb, HLL.out]) (by omega) hown.le_cap hown.cap_max hown.rd).mono ?_
      rw [bytesL_ofL]
      rintro e w5 ⟨a5, n5, c5, rfl, hown5, hb5⟩
      go_wp2
      go_ret
      exact ⟨_, _, _, rfl, hown5.mono hB.size, below_trans0 hB hB.size hb5⟩

set_option maxRecDepth 100000 in
set_option maxHeartbeats 4000000 in
theorem rHits_any (a : Option Addr) (n c : Nat) (l : List UInt8) (at' pat : Int) (w : World) (hl : l.length = n) (hn : n ≤ 1000000000) (hr : Rd w bE a l)
    (ha1 : -9223372036854775808 ≤ at') (ha2 : at' ≤ 9223372036854775807) (hp : 0 ≤ pat ∧ pat < 4294967296) :
  Calls Try.prog 56 #[.slice a n c, .int .i64 at', .int .u32 pat] w fun e w' => e = .returned (.bool (burstL l at' pat != l)) ∧ Below w.heap.size w w' := by
  have HR := Lib.hid hr
  have HL := Lib.hid hl
  clear hr hl
  go_enter Try.func56, Try.ntmps56
  go_wp2_with fail
  refine wp_region_grow (by kernel_rfl) (by kernel_rfl) (by rfl) ?_
  apply gw_val
  · intro a' w' hk
    refine ⟨wanted_none rfl, ?_⟩
    simp [Oper.looksAt, Op.operands, Call.operands, KnownAt, List.lookup, consD] at hk
    simp [execOp, Act.eval, hk, go_sem]
    all_goals rfl
  apply gw_val
  · intro a' w' hk
    refine ⟨wanted_none rfl, ?_⟩
    simp [Oper.looksAt, Op.operands, Call.operands, KnownAt, List.lookup, consD] at hk
    simp [execOp, Act.eval, hk, go_sem]
    all_goals rfl
  apply gw_val
  · intro a' w' hk
    refine ⟨wanted_none rfl, ?_⟩
    simp [Oper.looksAt, Op.operands, Call.operands, KnownAt, List.lookup, consD] at hk
    simp [execOp, Act.eval, hk, go_sem]
    all_goals rfl
  refine gw_call _ #[.slice a n c, .int .i64 at', .int .u32 pat] (BytesG (burstL l at' pat)) (mono_bytes _) (fun a' w' hk => ?_) (fun w' hb => (rBurst_any a n c l at' pat w' HL.out hn (HR.out.drew.later hb) ha1 ha2 hp).mono ?_) ?_
  · refine ⟨wanted_none rfl, ?_⟩
    simp [Oper.looksAt, Op.operands, Call.operands, KnownAt, List.lookup, consD] at hk
    simp [execOp, Act.eval, hk, go_sem]
    all_goals rfl
  · rintro e w'' ⟨p, q, r, rfl, hbuf, hB⟩
    exact ⟨_, rfl, ⟨p, q, r, rfl, hbuf.len, hbuf.rd⟩, hB⟩
  refine gw_str Try.underlying26 Try.underlying5 Try.underlying9 10 (burstL l at' pat) rfl (fun a' w' hb hk => ?_) ?_
  · exact ⟨wanted_none rfl, by simpa [KnownAt, List.lookup, consD] using hk 10 (by decide)⟩
  apply gw_val
  · intro a' w' hk
    refine ⟨wanted_none rfl, ?_⟩
    simp [Oper.looksAt, Op.operands, Call.operands, KnownAt, List.lookup, consD] at hk
    simp [execOp, Act.eval, hk, go_sem]
    all_goals rfl
  refine gw_str Try.underlying26 Try.underlying5 Try.underlying9 12 (l) rfl (fun a' w' hb hk => ?_) ?_
  · exact ⟨wanted_none rfl, _, _, _, by simpa [KnownAt, List.lookup, consD] using hk 12 (by decide), HL.out, HR.out.drew.later hb⟩
  apply gw_val
  · intro a' w' hk
    refine ⟨wanted_none rfl, ?_⟩
    simp [Oper.looksAt, Op.operands, Call.operands, KnownAt, List.lookup, consD] at hk
    simp [execOp, Act.eval, hk, go_sem]
    all_goals rfl
  apply gw_val
  · intro a' w' hk
    refine ⟨wanted_none rfl, ?_⟩
    simp [Oper.looksAt, Op.operands, Call.operands, KnownAt, List.lookup, consD] at hk
    simp [execOp, Act.eval, hk, go_sem]
    all_goals rfl
  intro vs w' hb hall
  simp only [AllS, consD] at hall
  simp only [consD, putAllS, Act.put]
  obtain ⟨h6, -⟩ := hall
  rw [h6]
  simp only [List.setIfInBounds_toArray, List.set_cons_succ, List.set_cons_zero]
  go_wp2
  go_ret
  exact ⟨ret_bool (by rw [strOf_toList, strOf_toList]; rfl), (Below.refl _ _).drew.trans hb⟩
end Go.Proofs.Ytnmdgmjheopolaa
