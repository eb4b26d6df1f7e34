/- The walks of crc.Seal, crc.Open, crc.Burst. -/
import Derived.Test.YtnmdgmjheopolaaCurO
import Derived.Test.YtnmdgmjheopolaaCrcW
namespace Go.Proofs.Ytnmdgmjheopolaa
open Go.RowKit
set_option linter.unusedVariables false
set_option linter.unusedSimpArgs false

theorem Buf.le_cap {α : Type} {w : World} {E : α → Value} {a : Option Addr} {l : List α} {base : Nat} {e : TypeId} {n c : Nat} (h : Buf w base e E a n c l) : n ≤ c := by
  rcases h with h | ⟨h1, _⟩
  · exact h.le_cap
  · omega
theorem Buf.cap_max {α : Type} {w : World} {E : α → Value} {a : Option Addr} {l : List α} {base : Nat} {e : TypeId} {n c : Nat} (h : Buf w base e E a n c l) : c ≤ maxLen := by
  rcases h with h | ⟨h1, h2, _⟩
  · exact h.cap_max
  · omega
def sealL (l : List UInt8) : List UInt8 := l ++ putL (crcSumI l).toNat 4
theorem putL4_len (v : Nat) : (putL v 4).length = 4 := by simp [putL, sizedB, littleL]
theorem sealL_len (l : List UInt8) : (sealL l).length = l.length + 4 := by simp [sealL, putL4_len]

set_option maxRecDepth 100000 in
set_option maxHeartbeats 1000000 in
theorem crcSeal_any (a : Option Addr) (n c : Nat) (l : List UInt8) (w : World) (hl : l.length = n) (hn : n ≤ 1000000000) (hr : Rd w bE a l) :
  Calls Try.prog 75 #[.slice a n c] w fun e w' => ∃ a' n' c', e = .returned (.slice a' n' c') ∧ Buf w' w.heap.size 5 bE a' n' c' (sealL l) ∧ Below w.heap.size w w' := by
  have hrg := crcSumI_range l
  obtain ⟨s, hs⟩ : ∃ s : Nat, crcSumI l = s := ⟨(crcSumI l).toNat, by omega⟩
  have hse : sealL l = l ++ putL s 4 := by unfold sealL; rw [hs]; rfl
  have HSE := Lib.hid hse
  clear hse
  go_enter Try.func75, Try.ntmps75
  go_wp2_with fail
  refine (crcSum_any a n c l w hl (by unfold maxLen; omega) hr).mono ?_
  rintro e w1 ⟨rfl, hB1⟩
  rw [hs] at hrg ⊢
  have hs1 := hB1.size
  go_wp2_with fail
  refine (cLittle_any a n c l s 4 w1 hl hn (by omega) (by omega) (by omega) (hr.below hB1)).mono ?_
  rintro e w2 ⟨a2, n2, c2, rfl, hbuf, hB2⟩
  go_wp2
  go_ret
  exact ⟨_, _, _, rfl, by rw [HSE.out]; exact hbuf.mono hs1, below_trans0 hB1 hs1 hB2⟩

/-- What is opened, and the error. -/
def bodyL (l : List UInt8) : List UInt8 := l.take (l.length - 4)
def tailL (l : List UInt8) : List UInt8 := l.drop (l.length - 4)
def openOk (l : List UInt8) : Bool := crcSumI (bodyL l) == litR (tailL l) 4
def openL (l : List UInt8) : List UInt8 := if 4 ≤ l.length ∧ openOk l = true then bodyL l else []
def openEr (l : List UInt8) : Int := if l.length < 4 then 6 else if openOk l then 0 else 7
def OpenPost (w : World) (l : List UInt8) (e : Ending) (w' : World) : Prop :=
  ∃ a' n' c', e = .returned (.tuple #[.slice a' n' c', .int .i64 (openEr l)]) ∧ Own w' w.heap.size 5 bE a' n' c' (openL l) ∧ Below w.heap.size w w'
theorem litR_lt (l : List UInt8) (j : Nat) : 0 ≤ litR l j ∧ litR l j < 18446744073709551616 := litR_range l j

set_option maxRecDepth 100000 in
set_option maxHeartbeats 2000000 in
theorem crcOpen_any (a : Option Addr) (n c : Nat) (l : List UInt8) (w : World) (hl : l.length = n) (hn : n ≤ 1000000000) (hnc : n ≤ c) (hc : c ≤ maxLen) (hr : Rd w bE a l) :
  Calls Try.prog 77 #[.slice a n c] w (OpenPost w l) := by
  unfold maxLen at hc
  by_cases h4 : n < 4
  · have HF : Hid (OpenPost w l (.returned (.tuple #[.slice none 0 0, .int .i64 6])) w) :=
      Lib.hid ⟨none, 0, 0, by unfold openEr; rw [if_pos (by omega)], by unfold openL; rw [if_neg (by omega)]; exact Own.nil, Below.refl _ _⟩
    clear hr hl
    go_enter Try.func77, Try.ntmps77
    go_wp2
    go_ret2
    exact HF.out
  · cases a with
    | none =>
      rcases hr with h | ⟨b, off, h, _⟩
      · rw [h] at hl; simp at hl; omega
      · cases h
    | some ad =>
      obtain ⟨b, off, spot⟩ := ad
      have hspot : spot = none := by
        rcases hr with h | ⟨b', off', h, _⟩
        · rw [h] at hl; simp at hl; omega
        · simp only [Option.some.injEq, Addr.mk.injEq] at h; exact h.2.2
      subst hspot
      obtain ⟨m, rfl⟩ : ∃ m, n = m + 4 := ⟨n - 4, by omega⟩
      have hbl : (bodyL l).length = m := by unfold bodyL; rw [List.length_take]; omega
      have htl : (tailL l).length = 4 := by unfold tailL; rw [List.length_drop]; omega
      have hr1 : Rd w bE (some ⟨b, off, none⟩) (bodyL l) := hr.take _
      have hr2 : Rd w bE (some ⟨b, off + m, none⟩) (tailL l) := by have := hr.drop m; unfold tailL; rw [hl, Nat.add_sub_cancel]; exact this
      have hrg := crcSumI_range (bodyL l)
      have hrg2 := litR_range (tailL l) 4
      have HF1 : Hid (openOk l = true → ∀ a' c' w', Own w' w.heap.size 5 bE a' m c' (bodyL l) → Below w.heap.size w w' → OpenPost w l (.returned (.tuple #[.slice a' m c', .int .i64 0])) w') :=
        Lib.hid fun ho a' c' w' h1 h2 => ⟨a', m, c', by unfold openEr; rw [if_neg (by omega), if_pos ho], by unfold openL; rw [if_pos ⟨by omega, ho⟩]; exact h1, h2⟩
      have HF2 : Hid (openOk l = false → ∀ w', Below w.heap.size w w' → OpenPost w l (.returned (.tuple #[.slice none 0 0, .int .i64 7])) w') :=
        Lib.hid fun ho w' h2 => ⟨none, 0, 0, by unfold openEr; rw [if_neg (by omega), if_neg (by rw [ho]; simp)], by unfold openL; rw [if_neg (by rw [ho]; simp)]; exact Own.nil, h2⟩
      have hok : openOk l = (crcSumI (bodyL l) == litR (tailL l) 4) := rfl
      generalize openOk l = ok at HF1 HF2 hok
      generalize bodyL l = body at hbl hr1 hrg HF1 hok
      generalize tailL l = tail at htl hr2 hrg2 hok
      have HOK := Lib.hid hok
      clear hok hr hl
      go_enter Try.func77, Try.ntmps77
      go_wp2_with fail
      go_quiet (fail)
      go_wp2_with fail
      have hd := below_drewN w w.heap.size nq
      have hd2 := hd.size
      refine (crcSum_any _ m c body (w.drewN nq) hbl (by unfold maxLen; omega) (hr1.below hd)).mono ?_
      rintro e w1 ⟨rfl, hb1⟩
      have hB1 := below_trans0 hd hd2 hb1
      have hs1 := hB1.size
      have HR1 := Lib.hid hr1
      have hrt := hr2.below hB1
      clear hr1 hr2 hd hd2 hb1
      obtain ⟨s, hs⟩ : ∃ s : Nat, crcSumI body = s := ⟨(crcSumI body).toNat, by omega⟩
      rw [hs] at hrg HOK ⊢
      clear hs
      go_wp2_with fail
      refine (cNew_any _ 4 (c - m) tail w1 htl (by omega) hrt).mono ?_
      rintro e w2 ⟨g, rfl, hg, hcur, hb2⟩
      have hB2 := below_trans0 hB1 hs1 hb2
      have hs2 := hB2.size
      clear hrt hB1
      go_wp2_with fail
      refine (cLitGet_any g tail 0 0 4 w2 hcur (by omega) (by omega)).mono ?_
      have hnx : nextL tail 0 0 4 (sizedB 4) = tail := by
        unfold nextL nextOk
        rw [if_pos (decide_eq_true ⟨rfl, by omega, by decide, by rw [htl]; simp⟩)]
        rw [List.drop_zero, List.take_of_length_le (by rw [htl]; decide)]
      rw [hnx, htl]
      rintro e w3 ⟨rfl, hcur3, hg3⟩
      have hB3 := hB2.grown hg3 hs2 (by intro k hk; cases hk; omega)
      have hs3 := hB3.size
      have hR3 := HR1.out.below hB3
      clear HR1 hcur hcur3 hg hg3 hB2
      by_cases hq : (s : Int) = litR tail 4
      · have hok : ok = true := by rw [HOK.out]; exact beq_iff_eq.2 hq
        have hne : ((s : Int) != litR tail 4) = false := by rw [hq]; simp
        have HF := Lib.hid (HF1.out hok)
        have HBL := Lib.hid hbl
        clear HF1 HF2 HOK hok hnx hbl htl
        go_wp2_with fail
        refine (clone_any _ m c body w3 HBL.out (by omega) hR3).mono ?_
        rintro e w4 ⟨a4, c4, rfl, hown4, hb4⟩
        go_wp2
        go_ret2
        exact HF.out _ _ _ (hown4.mono hs3) (below_trans0 hB3 hs3 hb4)
      · have hok : ok = false := by rw [HOK.out]; exact beq_eq_false_iff_ne.2 hq
        have hne : ((s : Int) != litR tail 4) = true := bne_iff_ne.2 hq
        have HF := Lib.hid (HF2.out hok)
        clear HF1 HF2 HOK hok hnx hbl htl
        go_wp2
        go_ret2
        exact HF.out _ hB3

/-- A bit of a byte turned over. -/
def flipB (x : UInt8) (j : Nat) : UInt8 := x ^^^ UInt8.ofNat (2 ^ j)
theorem flipB_val (x : UInt8) (j : Nat) (hj : j < 8) : bits .xor .u8 (x.toNat : Int) ((2 : Int) ^ j) = ((flipB x j).toNat : Int) := by
  have h2 : (2 : Nat) ^ j < 256 := by
    have : 2 ^ j ≤ 2 ^ 7 := Nat.pow_le_pow_right (by omega) (by omega)
    omega
  have := u8_xor_nat x.toNat (2 ^ j) x.toNat_lt h2
  rw [show ((2 ^ j : Nat) : Int) = (2 : Int) ^ j from by simp] at this
  rw [this]
  unfold flipB
  rw [UInt8.toNat_xor, show (UInt8.ofNat (2 ^ j)).toNat = 2 ^ j from by simp [UInt8.toNat_ofNat', Nat.mod_eq_of_lt h2]]
theorem and7_i64 (n : Nat) (h : n < 2 ^ 62) : bits .and .i64 (n : Int) 7 = ((n % 8 : Nat) : Int) :=
  (bits_mask .i64 62 (by decide) (fun m h1 h2 => by rw [IntKind.wrap_i64]; omega) 3 (by decide) (n : Int) (by omega) (by omega)).trans (by omega)
theorem flip_val (y : UInt8) (p : Int) (h0 : 0 ≤ p) (h1 : p < 4611686018427387904) : Value.int .u8 (bits .xor .u8 (y.toNat : Int) (2 ^ min (IntKind.u64.wrap (bits .and .i64 p 7)).toNat 8 % 256)) = bE (flipB y (p.toNat % 8)) := by
  obtain ⟨n, rfl⟩ := Int.eq_ofNat_of_zero_le h0
  have hm : n % 8 < 8 := Nat.mod_lt _ (by omega)
  have hw : IntKind.u64.wrap (bits .and .i64 (n : Int) 7) = ((n % 8 : Nat) : Int) := by
    rw [and7_i64 n (by omega), IntKind.wrap_u64]; omega
  rw [hw, Int.toNat_natCast, Int.toNat_natCast, Nat.min_eq_left (by omega)]
  have h2 : (2 : Nat) ^ (n % 8) < 256 := by
    have : 2 ^ (n % 8) ≤ 2 ^ 7 := Nat.pow_le_pow_right (by omega) (by omega)
    omega
  have h3 : (2 : Int) ^ (n % 8) % 256 = 2 ^ (n % 8) := by
    have : (((2 ^ (n % 8) : Nat) : Int)) = (2 : Int) ^ (n % 8) := by simp
    rw [← this]
    generalize 2 ^ (n % 8) = z at h2
    omega
  rw [h3, flipB_val y _ hm]
/-- Is bit k of the pattern set, and does it fall into the row? -/
def hitsB (n : Nat) (at' pat : Int) (k : Nat) : Bool := (bits .and .u32 (pat / 2 ^ k) 1 == 1) && decide (0 ≤ at' + k) && decide (at' + k < 8 * n)
def burstStep (at' pat : Int) (l : List UInt8) (k : Nat) : List UInt8 :=
  if hitsB l.length at' pat k then l.set ((at' + k).toNat / 8) (flipB (l.getD ((at' + k).toNat / 8) 0) ((at' + k).toNat % 8)) else l
def burstRun (l : List UInt8) (at' pat : Int) : Nat → List UInt8
  | 0 => l
  | k+1 => burstStep at' pat (burstRun l at' pat k) k
def burstL (l : List UInt8) (at' pat : Int) : List UInt8 := if at' < -32 ∨ at' ≥ 8 * (l.length : Int) then l else burstRun l at' pat 32
theorem burstStep_len (at' pat : Int) (l : List UInt8) (k : Nat) : (burstStep at' pat l k).length = l.length := by unfold burstStep; split <;> simp
theorem burstRun_len (l : List UInt8) (at' pat : Int) (k : Nat) : (burstRun l at' pat k).length = l.length := by
  induction k with
  | zero => rfl
  | succ k ih => rw [burstRun, burstStep_len, ih]
theorem burstL_len (l : List UInt8) (at' pat : Int) : (burstL l at' pat).length = l.length := by unfold burstL; split; rfl; exact burstRun_len _ _ _ _

set_option maxRecDepth 100000 in
set_option maxHeartbeats 2000000 in
theorem crcBurst_any (a : Option Addr) (n c : Nat) (l : List UInt8) (at' pat : Int) (w : World) (hl : l.length = n) (hn : n ≤ 1000000000) (hr : Rd w bE a l)
    (ha1 : -9223372036854775808 ≤ at') (ha2 : at' ≤ 9223372036854775807) (hp : 0 ≤ pat ∧ pat < 4294967296) :
  Calls Try.prog 54 #[.slice a n c, .int .i64 at', .int .u32 pat] w fun e w' => ∃ a' c', e = .returned (.slice a' n c') ∧ Own w' w.heap.size 5 bE a' n c' (burstL l at' pat) ∧ Below w.heap.size w w' := by
  go_enter Try.func54, Try.ntmps54
  go_wp2_with fail
  refine (clone_any a n c l w hl (by omega) hr).mono ?_
  rintro e w1 ⟨a1, c1, rfl, hown1, hb1⟩
  have hs1 := hb1.size
  clear hr
  by_cases hlo : at' < -32
  · have hL : burstL l at' pat = l := by unfold burstL; rw [if_pos (.inl hlo)]
    have HL := Lib.hid hL
    clear hL
    go_wp2
    go_ret
    exact ⟨_, _, rfl, by rw [HL.out]; exact hown1, hb1⟩
  · by_cases hhi : at' ≥ 8 * (n : Int)
    · have hL : burstL l at' pat = l := by unfold burstL; rw [if_pos (.inr (by rw [hl]; exact hhi))]
      have HL := Lib.hid hL
      clear hL
      go_wp2
      go_ret
      exact ⟨_, _, rfl, by rw [HL.out]; exact hown1, hb1⟩
    · have hL : burstL l at' pat = burstRun l at' pat 32 := by unfold burstL; rw [if_neg (by rw [hl]; omega)]
      have HL := Lib.hid hL
      have HLL := Lib.hid hl
      clear hL hl
      go_wp2
      go_loopw [22] (fun i wr => ∃ k : Nat, k ≤ 32 ∧ i = .int .i64 k ∧ Own wr w.heap.size 5 bE a1 n c1 (burstRun l at' pat k) ∧ Below w.heap.size w wr) (fun i _ => 32 - (intOf i).toNat)
      case atStart => exact ⟨0, by omega, rfl, hown1, hb1⟩
      case round =>
        obtain ⟨k, hk, rfl, hown, hB⟩ := hrel
        clear hown1 hb1
        by_cases hlt : k < 32
        · have hblen := burstRun_len l at' pat k
          by_cases hbit : (bits .and .u32 (pat / 2 ^ k) 1 == 1) = true
          · by_cases hin : 0 ≤ at' + k
            · by_cases hin2 : at' + k < 8 * n
              · have hlt8 : ((at' + k) / 8).toNat < n := by omega
                obtain ⟨g, y, rfl, hgb, hglt, hy, hcell, hfr⟩ := hown.at (i := ((at' + k) / 8).toNat) hlt8
                have hstep : burstRun l at' pat (k + 1) = (burstRun l at' pat k).set ((at' + k) / 8).toNat (flipB y ((at' + k).toNat % 8)) := by
                  rw [burstRun, burstStep, if_pos (by unfold hitsB; rw [hbit, hblen, HLL.out]; simp; omega)]
                  rw [show (at' + k).toNat / 8 = ((at' + k) / 8).toNat from by omega]
                  simp [List.getD, hy]
                have HST := Lib.hid hstep
                clear hstep
                have hval := flip_val y (at' + k) hin (by omega)
                have HV := Lib.hid hval
                clear hval
                go_wp2
                go_roundw
                case rel => exact ⟨k + 1, by omega, by go_num, by rw [HST.out, HV.out]; exact hown.set _ hlt8 _, hB.setCell hgb _⟩
                case measure => simp [intOf]; omega
              · have hstep : burstRun l at' pat (k + 1) = burstRun l at' pat k := by
                  rw [burstRun, burstStep, if_neg (by unfold hitsB; rw [hblen, HLL.out]; simp; omega)]
                have HST := Lib.hid hstep
                clear hstep
                go_wp2
                go_roundw
                case rel => exact ⟨k + 1, by omega, by go_num, by rw [HST.out]; exact hown, hB⟩
                case measure => simp [intOf]; omega
            · have hstep : burstRun l at' pat (k + 1) = burstRun l at' pat k := by
                rw [burstRun, burstStep, if_neg (by unfold hitsB; simp; omega)]
              have HST := Lib.hid hstep
              clear hstep
              go_wp2
              go_roundw
              case rel => exact ⟨k + 1, by omega, by go_num, by rw [HST.out]; exact hown, hB⟩
              case measure => simp [intOf]; omega
          · have hbit2 : (bits .and .u32 (pat / 2 ^ k) 1 == 1) = false := by simpa using hbit
            have hstep : burstRun l at' pat (k + 1) = burstRun l at' pat k := by
              rw [burstRun, burstStep, if_neg (by unfold hitsB; rw [hbit2]; simp)]
            have HST := Lib.hid hstep
            clear hstep hbit
            go_wp2
            go_roundw
            case rel => exact ⟨k + 1, by omega, by go_num, by rw [HST.out]; exact hown, hB⟩
            case measure => simp [intOf]; omega
        · have hk' : k = 32 := by omega
          subst hk'
          go_wp2
          go_ret
          exact ⟨_, _, rfl, by rw [HL.out]; exact hown, hB⟩
end Go.Proofs.Ytnmdgmjheopolaa
