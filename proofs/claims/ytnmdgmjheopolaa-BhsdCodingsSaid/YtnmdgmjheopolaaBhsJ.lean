/- packsaddleref24.Get. -/
import Derived.Test.YtnmdgmjheopolaaBhsI
namespace Go.Proofs.Ytnmdgmjheopolaa
open Go.RowKit
set_option linter.unusedVariables false
set_option linter.unusedSimpArgs false

theorem RefOk.cellE {w : World} {g : Nat} {l : List UInt8} {p : Nat} {er : Int} (h : RefOk w g l p er) : w.cell? ⟨g, 2, none⟩ = some (.int .i64 er) := by
  obtain ⟨a, n, c, hb, _⟩ := h.ex; exact hb.cell rfl
theorem RefOk.frozenE {w : World} {g : Nat} {l : List UInt8} {p : Nat} {er : Int} (h : RefOk w g l p er) : w.frozen? ⟨g, 2, none⟩ = false := by
  obtain ⟨a, n, c, hb, _⟩ := h.ex; exact hb.frozen 2
theorem RefOk.lt {w : World} {g : Nat} {l : List UInt8} {p : Nat} {er : Int} (h : RefOk w g l p er) : g < w.heap.size := by
  obtain ⟨a, n, c, hb, _⟩ := h.ex; exact hb.lt
set_option maxRecDepth 100000 in
set_option maxHeartbeats 8000000 in
theorem rGet_any (g : Nat) (l : List UInt8) (p : Nat) (er b h s d : Int) (w : World) (hc : RefOk w g l p er) (hb0 : In64 b) (hh0 : In64 h) (hs0 : In64 s) (hd0 : In64 d) :
  Calls Try.prog 48 #[.pointer (some ⟨g, 0, none⟩), .agg #[.int .i64 b, .int .i64 h, .int .i64 s, .int .i64 d]] w (RGetPost w g b h s d l p er) := by
  have hgl := hc.lt
  have hbw := below_alloc w (.cells #[.int .i64 b, .int .i64 h, .int .i64 s, .int .i64 d] 23)
  have hcA := hc.below hbw
  have hEA := hcA.cellE
  have hfA := hcA.frozenE
  by_cases her : er = 0
  · subst her
    by_cases hR : RightC b h s d
    · have hD := Lib.hid (decide_eq_true hR)
      have hs : 0 ≤ s ∧ s ≤ 2 := ⟨hR.2.2.2.2.1, hR.2.2.2.2.2.1⟩
      have hbr : 1 ≤ b ∧ b ≤ 5 := ⟨hR.1, hR.2.1⟩
      have hhr : 2 ≤ h ∧ h ≤ 256 := ⟨hR.2.2.1, hR.2.2.2.1⟩
      obtain ⟨hn', rfl⟩ := Int.eq_ofNat_of_zero_le (show 0 ≤ h by omega)
      obtain ⟨b0, rfl⟩ := Int.eq_ofNat_of_zero_le (show 0 ≤ b by omega)
      have hgE : gotE b0 hn' s d l p 0 = if getE (256 - hn') l b0 p ≠ 0 then 6 else if 4294967296 ≤ getU (256 - hn') hn' l b0 p 0 1 then 5 else 0 := by unfold gotE; rw [if_neg (by omega), if_neg (by simpa using hR)]; rfl
      have hgP : gotP b0 hn' s d l p 0 = getP (256 - hn') l b0 p := by unfold gotP; rw [if_neg (by simpa using hR)]; rfl
      have hgV : gotV b0 hn' s d l p 0 = if gotE b0 hn' s d l p 0 = 0 then numC s (getU (256 - hn') hn' l b0 p 0 1) else 0 := rfl
      have HFIN : Hid (∀ P' u', getP (256 - hn') l b0 p = P' → getE (256 - hn') l b0 p = 0 → getU (256 - hn') hn' l b0 p 0 1 = u' →
        (¬ 4294967296 ≤ u' → ∀ w', RefOk w' g l P' 0 → w.grownBy w' (some g) → RGetPost w g b0 hn' s d l p 0 (.returned (.int .i64 (numC s (u' : Int)))) w') ∧
        (4294967296 ≤ u' → ∀ w', RefOk w' g l P' 5 → w.grownBy w' (some g) → RGetPost w g b0 hn' s d l p 0 (.returned (.int .i64 0)) w')) := Lib.hid (by
        intro P' u' h1 h2 h3
        subst h1 h3
        rw [h2, if_neg (by omega)] at hgE
        refine ⟨fun h4 w' h5 h6 => ?_, fun h4 w' h5 h6 => ?_⟩
        · rw [if_neg h4] at hgE
          rw [hgE, if_pos rfl] at hgV
          exact ⟨by rw [hgV], by rw [hgP, hgE]; exact h5, h6⟩
        · rw [if_pos h4] at hgE
          rw [hgE, if_neg (by omega)] at hgV
          exact ⟨by rw [hgV], by rw [hgP, hgE]; exact h5, h6⟩)
      have HFBAD : Hid (∀ P', getP (256 - hn') l b0 p = P' → getE (256 - hn') l b0 p = 6 → ∀ w', RefOk w' g l P' 6 → w.grownBy w' (some g) → RGetPost w g b0 hn' s d l p 0 (.returned (.int .i64 0)) w') := Lib.hid (by
        intro P' h1 h2 w' h5 h6
        rw [h2, if_pos (by omega)] at hgE
        rw [hgE, if_neg (by omega)] at hgV
        rw [h1] at hgP
        exact ⟨by rw [hgV], by rw [hgP, hgE]; exact h5, h6⟩)
      have HREACH := Lib.hid (getU_reach b0 hn' ⟨by omega, by omega⟩ ⟨by omega, by omega⟩ l p).2
      have HR := Lib.hid hR
      clear hgE hgP hgV hR
      have HS := Lib.hid hs
      clear hs
      go_enter Try.func48, Try.ntmps48
      go_wp2_with fail
      refine (rRight_any b0 hn' s d _ hb0 hh0 hs0 hd0).mono ?_
      rw [hD.out]
      rintro e w1 ⟨rfl, hB⟩
      obtain ⟨hblk, hc0, hc1, hc2, hc3, hB1⟩ := cod_cells hB
      have hcw := hcA.below hB
      clear hB hEA hfA hcA
      have hg1 := grownBy_of_below (some g) hB1
      go_wp2
      go_loopw [5, 6, 7] (fun xu xw xi wr => ∃ (j p' u' wt : Nat) (e : Int), xi = .int .i64 ((j : Int) + 1) ∧ xu = .int .i64 u' ∧ xw = .int .i64 wt ∧ GState hn' l b0 p j p' u' wt e ∧ (e = 0 → j < b0) ∧ RefOk wr g l p' e ∧ Blk wr w.heap.size 23 #[.int .i64 (b0 : Int), .int .i64 (hn' : Int), .int .i64 s, .int .i64 d] ∧ w.grownBy wr (some g)) (fun _ _ xi _ => b0 + 1 - (intOf xi).toNat)
      case atStart => exact ⟨0, p, 0, 1, 0, rfl, rfl, rfl, GState.start _ _ _ _, fun _ => by omega, hcw, hblk, hg1⟩
      case round =>
        clear hc0 hc1 hc2 hc3 hblk hg1 hcw hB1
        obtain ⟨j, p', u', wt, e, rfl, rfl, rfl, hst, hjl, hcr, hblk, hgr⟩ := hrel
        obtain ⟨hc0, hc1, hc2, hc3⟩ := hblk.four
        have hjb := hst.1
        have hsm := hst.small (by omega)
        have HST := Lib.hid hst
        clear hst
        have hE := hcr.cellE
        have hf := hcr.frozenE
        rcases HST.out.err with rfl | ⟨rfl, he6, hp6⟩
        · have hlt := hjl rfl
          clear hjl
          have hti := HST.out.tiny (by omega) hlt
          go_wp2_with fail
          refine (rBig1_any g l p' _ hcr).mono ?_
          rintro e w3 ⟨hx, hg3⟩
          have hblk3 := hblk.grown hg3 (by simp; omega)
          have hgr3 := grownBy_trans hgr hg3
          clear hc0 hc1 hc2 hc3 hg3 hgr hblk hcr hE hf
          obtain ⟨hc0, hc1, hc2, hc3⟩ := hblk3.four
          rcases hx with ⟨x, hx, rfl, hc3'⟩ | ⟨hx, rfl, hc3'⟩
          · have hE := hc3'.cellE
            have hf := hc3'.frozenE
            have hx2 := x.toNat_lt
            have hxw : (x.toNat : Int) * (wt : Int) = ((x.toNat * wt : Nat) : Int) := by push_cast; rfl
            have hwh : (wt : Int) * (hn' : Int) = ((wt * hn' : Nat) : Int) := by push_cast; rfl
            have hxw1 : x.toNat * wt ≤ 255 * wt := Nat.mul_le_mul_right _ (by omega)
            have hwh1 : wt * hn' ≤ wt * 256 := Nat.mul_le_mul_left _ (by omega)
            have hxw2 : 0 ≤ (x.toNat : Int) * (wt : Int) ∧ (x.toNat : Int) * (wt : Int) ≤ 1099511627776 := by rw [hxw]; omega
            have hwh2 : 0 ≤ (wt : Int) * (hn' : Int) ∧ (wt : Int) * (hn' : Int) ≤ 1099511627776 := by rw [hwh]; omega
            have HXW := Lib.hid hxw
            have HWH := Lib.hid hwh
            clear hxw hwh
            by_cases hlow : x.toNat < 256 - hn'
            · obtain ⟨f1, f2, f3, f4⟩ := HST.out.last hlt (by omega) hx hlow
              have HEND := Lib.hid (HFIN.out _ _ f1 f2 f3)
              have hlow' : (x.toNat : Int) < 256 - (hn' : Int) := by omega
              clear f1 f2
              go_wp2_with fail
              refine (rReach_any b0 hn' s d _ HR.out).mono ?_
              rintro e w4 ⟨rfl, hB4⟩
              have hc4 := hc3'.below hB4
              have hblk4 := hblk3.below hB4
              have hg4 := grownBy_trans hgr3 (grownBy_of_below (some g) hB4)
              have hnum : 0 ≤ (u' : Int) + (x.toNat : Int) * (wt : Int) ∧ (u' : Int) + (x.toNat : Int) * (wt : Int) ≤ 1099511627776 := by rw [show (u' : Int) + (x.toNat : Int) * (wt : Int) = ((u' + x.toNat * wt : Nat) : Int) from by push_cast; rfl]; omega
              have hiff : ((u' : Int) + (x.toNat : Int) * (wt : Int) < reachC b0 hn') ↔ ((u' : Int) + (x.toNat : Int) * (wt : Int) < 4294967296) := by rw [show (u' : Int) + (x.toNat : Int) * (wt : Int) = ((u' + x.toNat * wt : Nat) : Int) from by push_cast; rfl, ← f3]; exact HREACH.out
              have HEQ : Hid ((u' : Int) + (x.toNat : Int) * (wt : Int) = ((u' + x.toNat * wt : Nat) : Int)) := Lib.hid (show (u' : Int) + (x.toNat : Int) * (wt : Int) = ((u' + x.toNat * wt : Nat) : Int) from by push_cast; rfl)
              clear hc0 hc1 hc2 hc3 hB4
              generalize (u' : Int) + (x.toNat : Int) * (wt : Int) = U at HEQ hnum hiff ⊢
              obtain ⟨hn0, hn1⟩ := hnum
              obtain ⟨hc0, hc1, hc2, hc3⟩ := hblk4.four
              have hE4 := hc4.cellE
              have hf4 := hc4.frozenE
              by_cases hbig : 4294967296 ≤ u' + x.toNat * wt
              · have hcmp : decide (reachC b0 hn' ≤ U) = true := decide_eq_true (by have := HEQ.out; omega)
                have HEND2 := Lib.hid (HEND.out.2 hbig _ (hc4.setE 5) (grownBy_trans hg4 (grownBy_setCell w4 ⟨g, 2, none⟩ (.int .i64 5))))
                clear hiff hbig hc4 hg4 hblk4 hn0 hn1
                go_wp2
                go_ret
                exact HEND2.out
              · have hcmp : decide (reachC b0 hn' ≤ U) = false := decide_eq_false (by have := HEQ.out; omega)
                have HEND2 := Lib.hid (HEND.out.1 hbig)
                clear hiff hbig
                go_wp2_with fail
                refine (rPart_any b0 hn' s d _).mono ?_
                rintro e w5 ⟨rfl, hB5⟩
                have hc5 := hc4.below hB5
                have hblk5 := hblk4.below hB5
                have hg5 := grownBy_trans hg4 (grownBy_of_below (some g) hB5)
                have HX := Lib.hid (HEND2.out _ hc5 hg5)
                clear hc0 hc1 hc2 hc3 hB5 hblk4 hE4 hf4 hc4 hg4 HEND2 hcmp
                obtain ⟨hc0, hc1, hc2, hc3⟩ := hblk5.four
                have HS2 := HS.out
                rcases (show s = 0 ∨ s = 1 ∨ s = 2 by omega) with rfl | rfl | rfl
                · rw [show partC 0 = 0 from rfl]
                  go_wp2
                  go_ret
                  rw [HEQ.out]; exact HX.out
                · rw [show partC 1 = 1 from rfl]
                  by_cases g1 : U % 2 = 1
                  · have hV := Lib.hid (show numC 1 U = -1 - U / 2 from (if_neg (by omega)).trans (if_pos g1))
                    have k1 : (U % 2 == 1) = true := beq_iff_eq.2 g1
                    clear g1
                    go_wp2
                    go_ret
                    rw [← hV.out, HEQ.out]; exact HX.out
                  · have hV := Lib.hid (show numC 1 U = U - U / 2 from (if_neg (by omega)).trans (if_neg g1))
                    have k1 : (U % 2 == 1) = false := beq_eq_false_iff_ne.2 g1
                    clear g1
                    go_wp2
                    go_ret
                    rw [← hV.out, HEQ.out]; exact HX.out
                · rw [show partC 2 = 3 from rfl]
                  by_cases g1 : U % 4 = 3
                  · have hV := Lib.hid (show numC 2 U = -1 - U / 4 from (if_neg (by omega)).trans (if_pos g1))
                    have k1 : (U % 4 == 3) = true := beq_iff_eq.2 g1
                    clear g1
                    go_wp2
                    go_ret
                    rw [← hV.out, HEQ.out]; exact HX.out
                  · have hV := Lib.hid (show numC 2 U = U - U / 4 from (if_neg (by omega)).trans (if_neg g1))
                    have k1 : (U % 4 == 3) = false := beq_eq_false_iff_ne.2 g1
                    clear g1
                    go_wp2
                    go_ret
                    rw [← hV.out, HEQ.out]; exact HX.out
            · have hlow' : ¬ (x.toNat : Int) < 256 - (hn' : Int) := by omega
              have hst2 := Lib.hid (HST.out.next hlt (by omega) hx hlow)
              by_cases hlast : j + 1 = b0
              · obtain ⟨f1, f2, f3, f4⟩ := hst2.out.full hlast (by omega)
                have HEND := Lib.hid (HFIN.out _ _ f1 f2 f3)
                clear f1 f2
                have hjE : ((j : Int) + 1 == (b0 : Int)) = true := beq_iff_eq.2 (by omega)
                go_wp2_with fail
                refine (rReach_any b0 hn' s d _ HR.out).mono ?_
                rintro e w4 ⟨rfl, hB4⟩
                have hc4 := hc3'.below hB4
                have hblk4 := hblk3.below hB4
                have hg4 := grownBy_trans hgr3 (grownBy_of_below (some g) hB4)
                have hnum : 0 ≤ (u' : Int) + (x.toNat : Int) * (wt : Int) ∧ (u' : Int) + (x.toNat : Int) * (wt : Int) ≤ 1099511627776 := by rw [show (u' : Int) + (x.toNat : Int) * (wt : Int) = ((u' + x.toNat * wt : Nat) : Int) from by push_cast; rfl]; omega
                have hiff : ((u' : Int) + (x.toNat : Int) * (wt : Int) < reachC b0 hn') ↔ ((u' : Int) + (x.toNat : Int) * (wt : Int) < 4294967296) := by rw [show (u' : Int) + (x.toNat : Int) * (wt : Int) = ((u' + x.toNat * wt : Nat) : Int) from by push_cast; rfl, ← f3]; exact HREACH.out
                have HEQ : Hid ((u' : Int) + (x.toNat : Int) * (wt : Int) = ((u' + x.toNat * wt : Nat) : Int)) := Lib.hid (show (u' : Int) + (x.toNat : Int) * (wt : Int) = ((u' + x.toNat * wt : Nat) : Int) from by push_cast; rfl)
                clear hc0 hc1 hc2 hc3 hB4
                generalize (u' : Int) + (x.toNat : Int) * (wt : Int) = U at HEQ hnum hiff ⊢
                obtain ⟨hn0, hn1⟩ := hnum
                obtain ⟨hc0, hc1, hc2, hc3⟩ := hblk4.four
                have hE4 := hc4.cellE
                have hf4 := hc4.frozenE
                by_cases hbig : 4294967296 ≤ u' + x.toNat * wt
                · have hcmp : decide (reachC b0 hn' ≤ U) = true := decide_eq_true (by have := HEQ.out; omega)
                  have HEND2 := Lib.hid (HEND.out.2 hbig _ (hc4.setE 5) (grownBy_trans hg4 (grownBy_setCell w4 ⟨g, 2, none⟩ (.int .i64 5))))
                  clear hiff hbig hc4 hg4 hblk4 hn0 hn1
                  go_wp2
                  go_ret
                  exact HEND2.out
                · have hcmp : decide (reachC b0 hn' ≤ U) = false := decide_eq_false (by have := HEQ.out; omega)
                  have HEND2 := Lib.hid (HEND.out.1 hbig)
                  clear hiff hbig
                  go_wp2_with fail
                  refine (rPart_any b0 hn' s d _).mono ?_
                  rintro e w5 ⟨rfl, hB5⟩
                  have hc5 := hc4.below hB5
                  have hblk5 := hblk4.below hB5
                  have hg5 := grownBy_trans hg4 (grownBy_of_below (some g) hB5)
                  have HX := Lib.hid (HEND2.out _ hc5 hg5)
                  clear hc0 hc1 hc2 hc3 hB5 hblk4 hE4 hf4 hc4 hg4 HEND2 hcmp
                  obtain ⟨hc0, hc1, hc2, hc3⟩ := hblk5.four
                  have HS2 := HS.out
                  rcases (show s = 0 ∨ s = 1 ∨ s = 2 by omega) with rfl | rfl | rfl
                  · rw [show partC 0 = 0 from rfl]
                    go_wp2
                    go_ret
                    rw [HEQ.out]; exact HX.out
                  · rw [show partC 1 = 1 from rfl]
                    by_cases g1 : U % 2 = 1
                    · have hV := Lib.hid (show numC 1 U = -1 - U / 2 from (if_neg (by omega)).trans (if_pos g1))
                      have k1 : (U % 2 == 1) = true := beq_iff_eq.2 g1
                      clear g1
                      go_wp2
                      go_ret
                      rw [← hV.out, HEQ.out]; exact HX.out
                    · have hV := Lib.hid (show numC 1 U = U - U / 2 from (if_neg (by omega)).trans (if_neg g1))
                      have k1 : (U % 2 == 1) = false := beq_eq_false_iff_ne.2 g1
                      clear g1
                      go_wp2
                      go_ret
                      rw [← hV.out, HEQ.out]; exact HX.out
                  · rw [show partC 2 = 3 from rfl]
                    by_cases g1 : U % 4 = 3
                    · have hV := Lib.hid (show numC 2 U = -1 - U / 4 from (if_neg (by omega)).trans (if_pos g1))
                      have k1 : (U % 4 == 3) = true := beq_iff_eq.2 g1
                      clear g1
                      go_wp2
                      go_ret
                      rw [← hV.out, HEQ.out]; exact HX.out
                    · have hV := Lib.hid (show numC 2 U = U - U / 4 from (if_neg (by omega)).trans (if_neg g1))
                      have k1 : (U % 4 == 3) = false := beq_eq_false_iff_ne.2 g1
                      clear g1
                      go_wp2
                      go_ret
                      rw [← hV.out, HEQ.out]; exact HX.out
              · have hjE : ((j : Int) + 1 == (b0 : Int)) = false := beq_eq_false_iff_ne.2 (by omega)
                go_wp2
                go_roundw
                case rel => exact ⟨j + 1, p' + 1, u' + x.toNat * wt, wt * hn', 0, by go_num, by go_num, by go_num, hst2.out, fun _ => by omega, hc3', hblk3, hgr3⟩
                case measure => simp [intOf]; omega
          · have hE := hc3'.cellE
            have hf := hc3'.frozenE
            obtain ⟨he6, hp6, hst6⟩ := HST.out.stop hlt (by omega) hx
            have HST6 := Lib.hid hst6
            have HBAD := Lib.hid (HFBAD.out _ hp6 he6)
            have hwh : (wt : Int) * (hn' : Int) = ((wt * hn' : Nat) : Int) := by push_cast; rfl
            have hwh1 : wt * hn' ≤ wt * 256 := Nat.mul_le_mul_left _ (by omega)
            have hwh2 : 0 ≤ (wt : Int) * (hn' : Int) ∧ (wt : Int) * (hn' : Int) ≤ 1099511627776 := by rw [hwh]; omega
            have HWH := Lib.hid hwh
            clear hst6 he6 hp6 hwh
            by_cases hlow : hn' < 256
            · have hlow' : (0 : Int) < 256 - (hn' : Int) := by omega
              go_wp2
              go_ret
              exact HBAD.out _ hc3' hgr3
            · have hlow' : ¬ (0 : Int) < 256 - (hn' : Int) := by omega
              by_cases hlast : j + 1 = b0
              · have hjE : ((j : Int) + 1 == (b0 : Int)) = true := beq_iff_eq.2 (by omega)
                go_wp2
                go_ret
                exact HBAD.out _ hc3' hgr3
              · have hjE : ((j : Int) + 1 == (b0 : Int)) = false := beq_eq_false_iff_ne.2 (by omega)
                go_wp2
                go_roundw
                case rel => exact ⟨j + 1, p', u', wt * hn', 6, by go_num, rfl, by go_num, HST6.out, fun h => by omega, hc3', hblk3, hgr3⟩
                case measure => simp [intOf]; omega
        · have HBAD := Lib.hid (HFBAD.out _ hp6 he6)
          clear hp6 he6 hjl
          go_wp2
          go_ret
          exact HBAD.out _ hcr hgr
    · have HF0 : Hid (∀ w', RefOk w' g l p 1 → w.grownBy w' (some g) → RGetPost w g b h s d l p 0 (.returned (.int .i64 0)) w') := Lib.hid (by
        intro w' h1 h2
        have hgE : gotE b h s d l p 0 = 1 := by unfold gotE; rw [if_neg (by omega), if_pos hR]
        have hgP : gotP b h s d l p 0 = p := by unfold gotP; rw [if_pos (.inr hR)]
        exact ⟨by unfold gotV; rw [hgE, if_neg (by omega)], by rw [hgE, hgP]; exact h1, h2⟩)
      have hD := Lib.hid (decide_eq_false hR)
      clear hR
      go_enter Try.func48, Try.ntmps48
      go_wp2_with fail
      refine (rRight_any b h s d _ hb0 hh0 hs0 hd0).mono ?_
      rw [hD.out]
      rintro e w1 ⟨rfl, hB⟩
      have hcw := hcA.below hB
      have hg1 := grownBy_of_below (some g) ((below_alloc w _).trans (hB.mono (by simp)))
      have hE := hcw.cellE
      have hf := hcw.frozenE
      have HF := Lib.hid (HF0.out _ (hcw.setE 1) (grownBy_trans hg1 (grownBy_setCell w1 ⟨g, 2, none⟩ (.int .i64 1))))
      have hE1 := (hcw.setE 1).cellE
      clear HF0 hB hEA hfA hcA hcw hg1
      go_wp2
      go_loopw [5, 6, 7] (fun xu xw xi wr => xu = .int .i64 0 ∧ xw = .int .i64 1 ∧ xi = .int .i64 1 ∧ wr = w1.setCell ⟨g, 2, none⟩ (.int .i64 1)) (fun _ _ _ _ => 0)
      case atStart => exact ⟨rfl, rfl, rfl, rfl⟩
      case round =>
        obtain ⟨rfl, rfl, rfl, rfl⟩ := hrel
        go_wp2
        go_ret
        exact HF.out
  · have HF0 : Hid (∀ w', RefOk w' g l p er → w.grownBy w' (some g) → RGetPost w g b h s d l p er (.returned (.int .i64 0)) w') := Lib.hid (by
      intro w' h1 h2
      have hgE : gotE b h s d l p er = er := by unfold gotE; rw [if_pos her]
      have hgP : gotP b h s d l p er = p := by unfold gotP; rw [if_pos (.inl her)]
      exact ⟨by unfold gotV; rw [hgE, if_neg her], by rw [hgE, hgP]; exact h1, h2⟩)
    have HF := Lib.hid (HF0.out _ hcA (grownBy_of_below (some g) hbw))
    have hne' : (er == 0) = false := beq_eq_false_iff_ne.2 her
    have hne2 : (er != 0) = true := bne_iff_ne.2 her
    clear her HF0 hcA hc hbw
    go_enter Try.func48, Try.ntmps48
    go_wp2
    go_loopw [5, 6, 7] (fun xu xw xi wr => xu = .int .i64 0 ∧ xw = .int .i64 1 ∧ xi = .int .i64 1 ∧ wr = w.alloc (.cells #[.int .i64 b, .int .i64 h, .int .i64 s, .int .i64 d] 23)) (fun _ _ _ _ => 0)
    case atStart => exact ⟨rfl, rfl, rfl, rfl⟩
    case round =>
      obtain ⟨rfl, rfl, rfl, rfl⟩ := hrel
      go_wp2
      go_ret
      exact HF.out
end Go.Proofs.Ytnmdgmjheopolaa
