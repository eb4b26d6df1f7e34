/- The walk of BhsdRows. -/
import Derived.Test.YtnmdgmjheopolaaBhsQ
namespace Go.Proofs.Ytnmdgmjheopolaa
open Go.RowKit
set_option linter.unusedVariables false
set_option linter.unusedSimpArgs false

set_option maxHeartbeats 16000000 in
set_option maxRecDepth 100000 in
theorem walkBhsdRows (b h s d : Int) (a1 : Option Addr) (n1 c1 : Nat) (l1 : List Int) (w : World)
    (hb0 : In64 b) (hh0 : In64 h) (hs0 : In64 s) (hd0 : In64 d) (hl1 : l1.length = n1) (hm1 : n1 ≤ c1 ∧ c1 ≤ maxLen) (hr1 : Rd w iE a1 l1) (hi1 : ∀ x ∈ l1, In64 x) :
    Calls Try.prog 11 #[.agg #[.int .i64 b, .int .i64 h, .int .i64 s, .int .i64 d], .slice a1 n1 c1] w fun e w' => e = .returned (.bool true) ∧ Below w.heap.size w w' := by
  unfold maxLen at hm1
  have hBa := below_alloc w (.cells #[.int .i64 b, .int .i64 h, .int .i64 s, .int .i64 d] 23)
  have hblk0 := Blk.new w 23 #[.int .i64 b, .int .i64 h, .int .i64 s, .int .i64 d]
  have HR := Lib.hid hr1
  have HI := Lib.hid hi1
  have HL := Lib.hid hl1
  clear hr1 hi1 hl1
  go_enter Try.func11, Try.ntmps11
  go_wp2_with fail
  refine (fixed24_any _).mono ?_
  rintro e w1 ⟨rfl, hb1⟩
  have hblk1 := hblk0.below hb1
  have hB1 := hBa.trans (hb1.mono hBa.size)
  have hs1 : w.heap.size < w1.heap.size := hblk1.lt
  clear hBa hblk0 hb1
  obtain ⟨hc0, hc1, hc2, hc3⟩ := hblk1.four
  by_cases h300 : n1 > 300
  · go_wp2
    go_ret
    exact ⟨rfl, hB1⟩
  · go_wp2_with fail
    refine (bRow_any a1 n1 c1 l1 b h s d w1 HL.out (by omega) (HR.out.later hB1) HI.out hb0 hh0 hs0 hd0).mono ?_
    rintro e w2 ⟨a2, n2, c2, rfl, hl2, hn2, hr2, hb2⟩
    have hblk2 := hblk1.below hb2
    have hB2 := hB1.trans (hb2.mono hB1.size)
    have hs2 : w.heap.size < w2.heap.size := hblk2.lt
    clear hc0 hc1 hc2 hc3 hblk1 hB1 hb2 hs1
    obtain ⟨hc0, hc1, hc2, hc3⟩ := hblk2.four
    have HR2 := Lib.hid hr2
    clear hr2
    go_wp2_with fail
    refine (rRow_any a1 n1 c1 l1 b h s d w2 HL.out (by omega) (HR.out.later hB2) HI.out hb0 hh0 hs0 hd0).mono ?_
    rintro e w3 ⟨a3, n3, c3, rfl, hl3, hn3, hr3, hb3⟩
    have hblk3 := hblk2.below hb3
    have hB3 := hB2.trans (hb3.mono hB2.size)
    have hr23 := HR2.out.below hb3
    have hs3 : w.heap.size < w3.heap.size := hblk3.lt
    clear hc0 hc1 hc2 hc3 hblk2 hB2 hb3 hs2 HR2
    obtain ⟨hc0, hc1, hc2, hc3⟩ := hblk3.four
    have hcv1 := conv_str (P := Try.prog) Try.underlying26 Try.underlying5 Try.underlying9 c2 hl2 hr23
    have hcv2 := conv_str (P := Try.prog) Try.underlying26 Try.underlying5 Try.underlying9 c3 hl3 hr3
    have HBK := Lib.hid (fun he => row_back b h s d l1 he)
    have hn2' : n2 ≤ 10000 := by rw [HL.out] at hn2; omega
    have HR23 := Lib.hid hr23
    have HL2 := Lib.hid hl2
    clear hr23 hr3 hl2 hl3
    generalize rowErr b h s d l1 = er at HBK ⊢
    generalize rowRes b h s d l1 = R at hcv1 hcv2 HBK HR23 HL2
    by_cases her : er = 0
    · subst her
      have hbk := HBK.out rfl
      have HBACK := Lib.hid hbk
      clear HBK hbk
      go_wp2_with fail
      clear hcv1 hcv2
      refine (cNew_any a2 n2 c2 R w3 HL2.out (by omega) HR23.out).mono ?_
      rintro e w4 ⟨g, rfl, hg, hcu4, hb4⟩
      have hblk4 := hblk3.below hb4
      have hB4 := hB3.trans (hb4.mono hB3.size)
      have hgl := hcu4.lt
      clear hc0 hc1 hc2 hc3 hblk3 hB3 hb4 HR23
      obtain ⟨hc0, hc1, hc2, hc3⟩ := hblk4.four
      go_wp2_with fail
      refine (bReadRow_any g R 0 0 b h s d n1 w4 hcu4 hb0 hh0 hs0 hd0 (by unfold In64; omega)).mono ?_
      unfold RdPost
      rw [show ((n1 : Nat) : Int) = (l1.length : Int) by rw [HL.out], HBACK.out]
      rintro e w5 ⟨a5, k5, c5, rfl, hl5, hk5, hown5, hcu5, hg5⟩
      have hB5 := below_of_grown' hB4 hB4.size hg5 (by omega)
      clear hc0 hc1 hc2 hc3 hblk4 hcu4 hB4 hg5
      have hrd5 := hown5.rd
      clear hown5
      go_wp2_with fail
      refine (same24_any a5 k5 c5 l1 a1 n1 c1 l1 w5 hl5 HL.out hk5 (by omega) hrd5 (HR.out.later hB5)).mono ?_
      rw [decide_eq_true rfl]
      rintro e w6 ⟨rfl, hb6⟩
      have hcu6 := hcu5.below hb6
      have hB6 := hB5.trans (hb6.mono hB5.size)
      clear hcu5 hB5 hb6 hrd5
      go_wp2_with fail
      refine (cEnd_any g R _ 0 w6 hcu6).mono ?_
      rintro e w7 ⟨rfl, hcu7, hg7⟩
      have hB7 := below_of_grown' hB6 hB6.size hg7 (by omega)
      rw [show endEr R.length R.length 0 = 0 by unfold endEr; rw [if_neg (by omega)]]
      clear hcu7 hg7 hcu6 hB6
      go_wp2
      go_ret
      exact ⟨rfl, hB7⟩
    · have her2 : (er != 0) = true := bne_iff_ne.2 her
      clear HBK
      go_wp2
      go_ret
      exact ⟨rfl, hB3⟩
end Go.Proofs.Ytnmdgmjheopolaa
