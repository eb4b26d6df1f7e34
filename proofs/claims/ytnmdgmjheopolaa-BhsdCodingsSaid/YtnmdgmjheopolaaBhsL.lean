/- packsaddleref24.Row. -/
import Derived.Test.YtnmdgmjheopolaaBhsK
namespace Go.Proofs.Ytnmdgmjheopolaa
open Go.RowKit
set_option linter.unusedVariables false
set_option linter.unusedSimpArgs false

set_option maxRecDepth 100000 in
set_option maxHeartbeats 16000000 in
theorem rRow_any (a : Option Addr) (n c : Nat) (l : List Int) (b h s d : Int) (w : World) (hl : l.length = n) (hn : n ≤ 1000000) (hr : Rd w iE a l) (hi : ∀ x ∈ l, In64 x) (hb0 : In64 b) (hh0 : In64 h) (hs0 : In64 s) (hd0 : In64 d) :
  Calls Try.prog 58 #[.agg #[.int .i64 b, .int .i64 h, .int .i64 s, .int .i64 d], .slice a n c] w (RowPost w b h s d l) := by
  by_cases hR : RightC b h s d
  · have hD := Lib.hid (decide_eq_true hR)
    have HS : Hid (0 ≤ s ∧ s ≤ 2) := Lib.hid ⟨hR.2.2.2.2.1, hR.2.2.2.2.2.1⟩
    have HBR : Hid (1 ≤ b ∧ b ≤ 5) := Lib.hid ⟨hR.1, hR.2.1⟩
    have HHR : Hid (2 ≤ h ∧ h ≤ 256) := Lib.hid ⟨hR.2.2.1, hR.2.2.2.1⟩
    have HR := Lib.hid hR
    have HL := Lib.hid hl
    have HI := Lib.hid hi
    have HRD := Lib.hid hr
    clear hR hl hi hr
    go_enter Try.func58, Try.ntmps58
    go_wp2_with fail
    refine (rRight_any b h s d _ hb0 hh0 hs0 hd0).mono ?_
    rw [hD.out]
    rintro e w1 ⟨rfl, hB⟩
    obtain ⟨hblk, hc0, hc1, hc2, hc3, hB1⟩ := cod_cells hB
    have hsz1 : w.heap.size + 1 ≤ w1.heap.size := hblk.lt
    clear hB
    go_wp2
    go_loopw [6, 7, 18] (fun x6 x7 xi wr => ∃ (j n' c' : Nat) (a' : Option Addr) (acc : List UInt8) (last : Int), xi = .int .i64 j ∧ j ≤ n ∧ x6 = .slice a' n' c' ∧ x7 = .int .i64 last ∧ n' ≤ 5 * j ∧ (-4294967296 ≤ last ∧ last ≤ 4294967296) ∧ Own wr (w.heap.size + 1) 5 bE a' n' c' acc ∧ rowRun b h s d (l.drop j) last acc = rowRun b h s d l 0 [] ∧ Blk wr w.heap.size 23 #[.int .i64 b, .int .i64 h, .int .i64 s, .int .i64 d] ∧ w.heap.size + 1 ≤ wr.heap.size ∧ Below w.heap.size w wr) (fun _ _ xi _ => n - (intOf xi).toNat)
    case atStart => exact ⟨0, 0, 0, none, [], 0, rfl, by omega, rfl, rfl, by omega, by omega, Own.nil, by rw [List.drop_zero], hblk, hsz1, hB1⟩
    case round =>
      clear hc0 hc1 hc2 hc3 hblk hB1 hsz1
      obtain ⟨j, n', c', a', acc, last, rfl, hj, rfl, rfl, hn5, hlast, hown, hrun, hblk, hsz, hB⟩ := hrel
      obtain ⟨hc0, hc1, hc2, hc3⟩ := hblk.four
      have HRUN := Lib.hid hrun
      clear hrun
      by_cases hlt : j < n
      · have hjl : j < l.length := by rw [HL.out]; exact hlt
        obtain ⟨bq, oq, hq, -, cq⟩ := (HRD.out.below hB).at (k := j) hjl
        subst hq
        have hvi := HI.out l[j] (List.getElem_mem hjl)
        have HYES := Lib.hid (fun hn => rowRun_yes hjl hn HRUN.out)
        have HNO := Lib.hid (fun hn => rowRun_no hjl hn HRUN.out)
        unfold iE at cq
        generalize l[j] = v at cq hvi HYES HNO
        go_wp2_with fail
        refine (rBound_any b h s d v _ hvi).mono ?_
        rintro e w2 ⟨rfl, hB2⟩
        have hblk2 := hblk.below hB2
        have hown2 := hown.below hB2
        have hBw2 := hB.trans (hB2.mono hB.size)
        clear hc0 hc1 hc2 hc3 hblk hown hB hB2 hsz cq
        obtain ⟨hc0, hc1, hc2, hc3⟩ := hblk2.four
        by_cases hbd : BoundC s v
        · rw [decide_eq_true hbd]
          have hvs := hbd.small
          have HBD := Lib.hid hbd
          clear hbd
          by_cases hd1 : d = 1
          · have hw : rowW s d last v = roundC s (v - last) := if_pos hd1
            rw [hw] at HYES HNO
            clear hw
            have hd1' : (d == 1) = true := beq_iff_eq.2 hd1
            clear hd1
            go_wp2_with fail
            refine (rRound_any b h s d (v - last) _ (by omega)).mono ?_
            rintro e w4 ⟨rfl, hB4⟩
            have hblk4 := hblk2.below hB4
            have hown4 := hown2.below hB4
            have hBw4 := hBw2.trans (hB4.mono hBw2.size)
            clear hc0 hc1 hc2 hc3 hblk2 hown2 hBw2 hB4
            obtain ⟨x, hx⟩ : ∃ x, x = roundC s (v - last) := ⟨_, rfl⟩
            rw [← hx] at HYES HNO ⊢
            clear hx
            obtain ⟨hc0, hc1, hc2, hc3⟩ := hblk4.four
            go_wp2_with fail
            refine (rFits_any b h s d x _ hb0 hh0 hs0 hd0).mono ?_
            rintro e w5 ⟨rfl, hB5⟩
            have hblk5 := hblk4.below hB5
            have hown5 := hown4.below hB5
            have hBw5 := hBw4.trans (hB5.mono hBw4.size)
            clear hc0 hc1 hc2 hc3 hblk4 hown4 hBw4 hB5
            obtain ⟨hc0, hc1, hc2, hc3⟩ := hblk5.four
            by_cases hft : FitsC b h s d (plainC s x)
            · have hst := HYES.out ⟨HBD.out, hft⟩
              have HST := Lib.hid hst
              have hur : 0 ≤ plainC s x ∧ plainC s x ≤ 4294967296 := ⟨hft.2.1, by have := hft.2.2; have := reachC_range b h HHR.out; omega⟩
              rw [decide_eq_true hft]
              have hpk : plainOk x := by
                by_cases hp : plainOk x
                · exact hp
                · have := plainC_bad s x hp; omega
              have HPK := Lib.hid hpk
              clear hft hst HYES HNO hpk
              go_wp2_with fail
              refine (rPlain_any b h s d x _ HS.out).mono ?_
              rw [if_pos HPK.out, decide_eq_true HPK.out]
              rintro e w6 ⟨rfl, hB6⟩
              have hblk6 := hblk5.below hB6
              have hown6 := hown5.below hB6
              have hBw6 := hBw5.trans (hB6.mono hBw5.size)
              clear hc0 hc1 hc2 hc3 hblk5 hown5 hBw5 hB6
              obtain ⟨hc0, hc1, hc2, hc3⟩ := hblk6.four
              obtain ⟨u, hu⟩ : ∃ u, u = plainC s x := ⟨_, rfl⟩
              rw [← hu] at HST hur ⊢
              clear hu
              go_wp2_with fail
              refine (rBytes_any b h s d u _ HBR.out HHR.out hur).mono ?_
              rintro e w7 ⟨a7, n7, c7, rfl, hn7, hown7, hB7⟩
              have hblk7 := hblk6.below hB7
              have hownr := hown6.below hB7
              have hBw7 := hBw6.trans (hB7.mono hBw6.size)
              have hsz7 : w.heap.size + 1 ≤ w7.heap.size := hblk7.lt
              have hne := hownr.ne_blk hblk7 (by decide)
              have hrd7 := hown7.rd
              have hlen7 := hown7.len
              clear hc0 hc1 hc2 hc3 hblk6 hown6 hBw6 hB7 hown7
              go_wp2_with (at_builtin; refine wpList_cat slByte rfl _ _ rfl rfl hownr rfl hlen7 hrd7 (byteOne _) (by omega) (by unfold maxLen; omega) hsz7 ?_; intro a8 c8 w8 hown8 hg8 _ _; have hblk8 := hblk7.grown hg8 hne; have hBw8 := hBw7.trans (hownr.step (Below.refl _ _) hg8 hsz7 |>.mono (by omega)); clear hownr hg8 hblk7 hBw7 hlen7 hrd7)
              have hsz8 : w.heap.size + 1 ≤ w8.heap.size := hblk8.lt
              obtain ⟨hc0, hc1, hc2, hc3⟩ := hblk8.four
              go_wp2
              go_roundw
              case rel => exact ⟨j + 1, n' + n7, c8, a8, _, v, by go_num, by omega, rfl, rfl, by omega, hvs, hown8, HST.out, hblk8, hsz8, hBw8⟩
              case measure => simp [intOf]; omega
            · have hfin := rowPost_bad HR.out (HNO.out (fun h => hft h.2)) hBw5
              have HFIN := Lib.hid hfin
              rw [decide_eq_false hft]
              clear hft hfin HYES HNO
              go_wp2
              go_ret2
              exact HFIN.out
          · have hw : rowW s d last v = v := if_neg hd1
            rw [hw] at HYES HNO
            clear hw
            have hd1' : (d == 1) = false := beq_eq_false_iff_ne.2 hd1
            clear hd1
            have hblk4 := hblk2
            have hown4 := hown2
            have hBw4 := hBw2
            clear hblk2 hown2 hBw2
            go_wp2_with fail
            refine (rFits_any b h s d v _ hb0 hh0 hs0 hd0).mono ?_
            rintro e w5 ⟨rfl, hB5⟩
            have hblk5 := hblk4.below hB5
            have hown5 := hown4.below hB5
            have hBw5 := hBw4.trans (hB5.mono hBw4.size)
            clear hc0 hc1 hc2 hc3 hblk4 hown4 hBw4 hB5
            obtain ⟨hc0, hc1, hc2, hc3⟩ := hblk5.four
            by_cases hft : FitsC b h s d (plainC s v)
            · have hst := HYES.out ⟨HBD.out, hft⟩
              have HST := Lib.hid hst
              have hur : 0 ≤ plainC s v ∧ plainC s v ≤ 4294967296 := ⟨hft.2.1, by have := hft.2.2; have := reachC_range b h HHR.out; omega⟩
              rw [decide_eq_true hft]
              have hpk : plainOk v := by
                by_cases hp : plainOk v
                · exact hp
                · have := plainC_bad s v hp; omega
              have HPK := Lib.hid hpk
              clear hft hst HYES HNO hpk
              go_wp2_with fail
              refine (rPlain_any b h s d v _ HS.out).mono ?_
              rw [if_pos HPK.out, decide_eq_true HPK.out]
              rintro e w6 ⟨rfl, hB6⟩
              have hblk6 := hblk5.below hB6
              have hown6 := hown5.below hB6
              have hBw6 := hBw5.trans (hB6.mono hBw5.size)
              clear hc0 hc1 hc2 hc3 hblk5 hown5 hBw5 hB6
              obtain ⟨hc0, hc1, hc2, hc3⟩ := hblk6.four
              obtain ⟨u, hu⟩ : ∃ u, u = plainC s v := ⟨_, rfl⟩
              rw [← hu] at HST hur ⊢
              clear hu
              go_wp2_with fail
              refine (rBytes_any b h s d u _ HBR.out HHR.out hur).mono ?_
              rintro e w7 ⟨a7, n7, c7, rfl, hn7, hown7, hB7⟩
              have hblk7 := hblk6.below hB7
              have hownr := hown6.below hB7
              have hBw7 := hBw6.trans (hB7.mono hBw6.size)
              have hsz7 : w.heap.size + 1 ≤ w7.heap.size := hblk7.lt
              have hne := hownr.ne_blk hblk7 (by decide)
              have hrd7 := hown7.rd
              have hlen7 := hown7.len
              clear hc0 hc1 hc2 hc3 hblk6 hown6 hBw6 hB7 hown7
              go_wp2_with (at_builtin; refine wpList_cat slByte rfl _ _ rfl rfl hownr rfl hlen7 hrd7 (byteOne _) (by omega) (by unfold maxLen; omega) hsz7 ?_; intro a8 c8 w8 hown8 hg8 _ _; have hblk8 := hblk7.grown hg8 hne; have hBw8 := hBw7.trans (hownr.step (Below.refl _ _) hg8 hsz7 |>.mono (by omega)); clear hownr hg8 hblk7 hBw7 hlen7 hrd7)
              have hsz8 : w.heap.size + 1 ≤ w8.heap.size := hblk8.lt
              obtain ⟨hc0, hc1, hc2, hc3⟩ := hblk8.four
              go_wp2
              go_roundw
              case rel => exact ⟨j + 1, n' + n7, c8, a8, _, v, by go_num, by omega, rfl, rfl, by omega, hvs, hown8, HST.out, hblk8, hsz8, hBw8⟩
              case measure => simp [intOf]; omega
            · have hfin := rowPost_bad HR.out (HNO.out (fun h => hft h.2)) hBw5
              have HFIN := Lib.hid hfin
              rw [decide_eq_false hft]
              clear hft hfin HYES HNO
              go_wp2
              go_ret2
              exact HFIN.out
        · have hfin := rowPost_bad HR.out (HNO.out (fun h => hbd h.1)) hBw2
          have HFIN := Lib.hid hfin
          rw [decide_eq_false hbd]
          clear hbd hfin
          go_wp2
          go_ret2
          exact HFIN.out
      · have hjn : j = n := by omega
        have hfin : RowPost w b h s d l (.returned (.tuple #[.slice a' n' c', .int .i64 0])) wr := rowPost_ok HR.out (by rw [HL.out, ← hjn]; exact HRUN.out) hown.len (by rw [HL.out]; omega) hown.rd hB
        have HFIN := Lib.hid hfin
        clear hfin hown
        subst hjn
        go_wp2
        go_ret2
        exact HFIN.out
  · have hD := Lib.hid (decide_eq_false hR)
    have HR := Lib.hid hR
    clear hR hr hi
    go_enter Try.func58, Try.ntmps58
    go_wp2_with fail
    refine (rRight_any b h s d _ hb0 hh0 hs0 hd0).mono ?_
    rw [hD.out]
    rintro e w1 ⟨rfl, hB⟩
    go_wp2
    go_ret2
    exact rowPost_wrong HR.out ((below_alloc _ _).trans (hB.mono (by simp)))
end Go.Proofs.Ytnmdgmjheopolaa
