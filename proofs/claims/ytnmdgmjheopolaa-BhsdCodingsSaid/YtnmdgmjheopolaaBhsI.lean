/- bhsd.Get. -/
import Derived.Test.YtnmdgmjheopolaaBhsH
namespace Go.Proofs.Ytnmdgmjheopolaa
open Go.RowKit
set_option linter.unusedVariables false
set_option linter.unusedSimpArgs false

def GOk (h : Nat) (l : List UInt8) (b0 p : Nat) (j p' u' wt : Nat) : Prop :=
  getP (256 - h) l (b0 - j) p' = getP (256 - h) l b0 p ∧ getE (256 - h) l (b0 - j) p' = getE (256 - h) l b0 p ∧ getU (256 - h) h l (b0 - j) p' u' wt = getU (256 - h) h l b0 p 0 1
/-- The state of the reading loop. -/
def GState (h : Nat) (l : List UInt8) (b0 p : Nat) (j p' u' wt : Nat) (e : Int) : Prop :=
  j ≤ b0 ∧ u' < 256 ^ j ∧ wt ≤ 256 ^ j ∧ ((e = 0 ∧ GOk h l b0 p j p' u' wt) ∨ (e = 6 ∧ getE (256 - h) l b0 p = 6 ∧ getP (256 - h) l b0 p = p'))
theorem GState.start (h : Nat) (l : List UInt8) (b0 p : Nat) : GState h l b0 p 0 p 0 1 0 := ⟨Nat.zero_le _, by simp, by simp, .inl ⟨rfl, rfl, rfl, rfl⟩⟩
theorem pow256 (j : Nat) (hj : j ≤ 5) : 256 ^ j ≤ 1099511627776 := Nat.le_trans (Nat.pow_le_pow_right (by omega) hj) (by decide)
section
variable {h : Nat} {l : List UInt8} {b0 p j p' u' wt : Nat} {e : Int}
theorem GState.next (g : GState h l b0 p j p' u' wt 0) (hj : j < b0) (hh : 2 ≤ h ∧ h ≤ 256) {x : UInt8} (hx : l[p']? = some x) (hl : ¬ x.toNat < 256 - h) : GState h l b0 p (j + 1) (p' + 1) (u' + x.toNat * wt) (wt * h) 0 := by
  obtain ⟨g1, g2, g3, ⟨-, g4, g5, g6⟩ | ⟨g4, _⟩⟩ := g
  · have hx2 := x.toNat_lt
    have h1 : x.toNat * wt ≤ 255 * wt := Nat.mul_le_mul_right _ (by omega)
    have h2 : wt * h ≤ wt * 256 := Nat.mul_le_mul_left _ hh.2
    obtain ⟨k, hk⟩ : ∃ k, b0 - j = k + 1 := ⟨b0 - j - 1, by omega⟩
    have hk2 : b0 - (j + 1) = k := by omega
    rw [hk] at g4 g5 g6
    rw [getP, hx] at g4
    rw [getE, hx] at g5
    rw [getU, hx] at g6
    simp only [if_neg hl] at g4 g5 g6
    have hP : 256 ^ (j + 1) = 256 ^ j * 256 := Nat.pow_succ _ _
    have hq : u' + x.toNat * wt < 256 ^ (j + 1) ∧ wt * h ≤ 256 ^ (j + 1) := by
      rw [hP]; generalize 256 ^ j = P at *; omega
    exact ⟨by omega, hq.1, hq.2, .inl ⟨rfl, by rw [hk2]; exact g4, by rw [hk2]; exact g5, by rw [hk2]; exact g6⟩⟩
  · omega
theorem GState.last (g : GState h l b0 p j p' u' wt 0) (hj : j < b0) (hb : b0 ≤ 5) {x : UInt8} (hx : l[p']? = some x) (hl : x.toNat < 256 - h) : getP (256 - h) l b0 p = p' + 1 ∧ getE (256 - h) l b0 p = 0 ∧ getU (256 - h) h l b0 p 0 1 = u' + x.toNat * wt ∧ u' + x.toNat * wt ≤ 1099511627776 := by
  obtain ⟨g1, g2, g3, ⟨-, g4, g5, g6⟩ | ⟨g4, _⟩⟩ := g
  · have hx2 := x.toNat_lt
    have h1 : x.toNat * wt ≤ 255 * wt := Nat.mul_le_mul_right _ (by omega)
    have h3 := pow256 (j + 1) (by omega)
    rw [Nat.pow_succ] at h3
    obtain ⟨k, hk⟩ : ∃ k, b0 - j = k + 1 := ⟨b0 - j - 1, by omega⟩
    rw [hk] at g4 g5 g6
    rw [getP, hx] at g4
    rw [getE, hx] at g5
    rw [getU, hx] at g6
    simp only [if_pos hl] at g4 g5 g6
    exact ⟨g4.symm, g5.symm, g6.symm, by omega⟩
  · omega
theorem GState.full (g : GState h l b0 p j p' u' wt 0) (hj : j = b0) (hb : b0 ≤ 5) : getP (256 - h) l b0 p = p' ∧ getE (256 - h) l b0 p = 0 ∧ getU (256 - h) h l b0 p 0 1 = u' ∧ u' ≤ 1099511627776 := by
  obtain ⟨g1, g2, g3, ⟨-, g4, g5, g6⟩ | ⟨g4, _⟩⟩ := g
  · have h3 := pow256 j (by omega)
    rw [hj, Nat.sub_self] at g4 g5 g6
    exact ⟨g4.symm, g5.symm, g6.symm, by omega⟩
  · omega
theorem GState.stop (g : GState h l b0 p j p' u' wt 0) (hj : j < b0) (hh : 2 ≤ h ∧ h ≤ 256) (hx : l[p']? = none) : getE (256 - h) l b0 p = 6 ∧ getP (256 - h) l b0 p = p' ∧ GState h l b0 p (j + 1) p' u' (wt * h) 6 := by
  obtain ⟨g1, g2, g3, ⟨-, g4, g5, g6⟩ | ⟨g4, _⟩⟩ := g
  · have h2 : wt * h ≤ wt * 256 := Nat.mul_le_mul_left _ hh.2
    obtain ⟨k, hk⟩ : ∃ k, b0 - j = k + 1 := ⟨b0 - j - 1, by omega⟩
    rw [hk] at g4 g5 g6
    rw [getP, hx] at g4
    rw [getE, hx] at g5
    simp only at g4 g5
    have hP : 256 ^ (j + 1) = 256 ^ j * 256 := Nat.pow_succ _ _
    have hq : u' < 256 ^ (j + 1) ∧ wt * h ≤ 256 ^ (j + 1) := by
      rw [hP]; generalize 256 ^ j = P at *; omega
    exact ⟨g5.symm, g4.symm, by omega, hq.1, hq.2, .inr ⟨rfl, g5.symm, g4.symm⟩⟩
  · omega
theorem GState.small (g : GState h l b0 p j p' u' wt e) (hb : b0 ≤ 5) : u' ≤ 1099511627776 ∧ wt ≤ 1099511627776 := by
  have h3 := pow256 j (by have := g.1; omega)
  exact ⟨by have := g.2.1; omega, by have := g.2.2.1; omega⟩
theorem GState.tiny (g : GState h l b0 p j p' u' wt e) (hb : b0 ≤ 5) (hj : j < b0) : wt ≤ 4294967296 := by
  have h3 : 256 ^ j ≤ 4294967296 := Nat.le_trans (Nat.pow_le_pow_right (by omega) (show j ≤ 4 by omega)) (by decide)
  have := g.2.2.1; omega
theorem GState.err (g : GState h l b0 p j p' u' wt e) : e = 0 ∨ (e = 6 ∧ getE (256 - h) l b0 p = 6 ∧ getP (256 - h) l b0 p = p') := by
  rcases g.2.2.2 with ⟨h, _⟩ | h
  · exact .inl h
  · exact .inr h
end
set_option maxRecDepth 100000 in
set_option maxHeartbeats 8000000 in
theorem bGet_any (g : Nat) (l : List UInt8) (p : Nat) (er b h s d : Int) (w : World) (hc : CurOk w g l p er) (hb0 : In64 b) (hh0 : In64 h) (hs0 : In64 s) (hd0 : In64 d) :
  Calls Try.prog 47 #[.pointer (some ⟨g, 0, none⟩), .agg #[.int .i64 b, .int .i64 h, .int .i64 s, .int .i64 d]] w (GetPost w g b h s d l p er) := by
  have hgl : g < w.heap.size := by obtain ⟨a, n, c, hbk, _⟩ := hc.ex; exact hbk.lt
  have hbw := below_alloc w (.cells #[.int .i64 b, .int .i64 h, .int .i64 s, .int .i64 d] 23)
  by_cases hR : RightC b h s d
  · by_cases her : er = 0
    · subst her
      have hD := Lib.hid (decide_eq_true hR)
      have hs : 0 ≤ s ∧ s ≤ 2 := ⟨hR.2.2.2.2.1, hR.2.2.2.2.2.1⟩
      have hbr : 1 ≤ b ∧ b ≤ 5 := ⟨hR.1, hR.2.1⟩
      have hhr : 2 ≤ h ∧ h ≤ 256 := ⟨hR.2.2.1, hR.2.2.2.1⟩
      obtain ⟨hn', rfl⟩ := Int.eq_ofNat_of_zero_le (show 0 ≤ h by omega)
      obtain ⟨b0, rfl⟩ := Int.eq_ofNat_of_zero_le (show 0 ≤ b by omega)
      have hgE : gotE b0 hn' s d l p 0 = if getE (256 - hn') l b0 p ≠ 0 then 6 else if 4294967296 ≤ getU (256 - hn') hn' l b0 p 0 1 then 5 else 0 := by unfold gotE; rw [if_neg (by omega), if_neg (by simpa using hR)]; rfl
      have hgP : gotP b0 hn' s d l p 0 = getP (256 - hn') l b0 p := by unfold gotP; rw [if_neg (by simpa using hR)]; rfl
      have hgV : gotV b0 hn' s d l p 0 = if gotE b0 hn' s d l p 0 = 0 then numC s (getU (256 - hn') hn' l b0 p 0 1) else 0 := rfl
      have HFIN : Hid (∀ P' u', getP (256 - hn') l b0 p = P' → getE (256 - hn') l b0 p = 0 → getU (256 - hn') hn' l b0 p 0 1 = u' →
        (¬ 4294967296 ≤ u' → ∀ w', CurOk w' g l P' 0 → w.grownBy w' (some g) → GetPost w g b0 hn' s d l p 0 (.returned (.int .i64 (numC s (u' : Int)))) w') ∧
        (4294967296 ≤ u' → ∀ w', CurOk w' g l P' 5 → w.grownBy w' (some g) → GetPost w g b0 hn' s d l p 0 (.returned (.int .i64 0)) w')) := Lib.hid (by
        intro P' u' h1 h2 h3
        subst h1 h3
        rw [h2, if_neg (by omega)] at hgE
        refine ⟨fun h4 w' h5 h6 => ?_, fun h4 w' h5 h6 => ?_⟩
        · rw [if_neg h4] at hgE
          rw [hgE, if_pos rfl] at hgV
          exact ⟨by rw [hgV], by rw [hgP, hgE]; exact h5, h6⟩
        · rw [if_pos h4] at hgE
          rw [hgE, if_neg (by omega)] at hgV
          exact ⟨by rw [hgV], by rw [hgP, hgE]; exact h5, h6⟩)
      have HFBAD : Hid (∀ P', getP (256 - hn') l b0 p = P' → getE (256 - hn') l b0 p = 6 → ∀ w', CurOk w' g l P' 6 → w.grownBy w' (some g) → GetPost w g b0 hn' s d l p 0 (.returned (.int .i64 0)) w') := Lib.hid (by
        intro P' h1 h2 w' h5 h6
        rw [h2, if_pos (by omega)] at hgE
        rw [hgE, if_neg (by omega)] at hgV
        rw [h1] at hgP
        exact ⟨by rw [hgV], by rw [hgP, hgE]; exact h5, h6⟩)
      clear hgE hgP hgV hR
      have HS := Lib.hid hs
      clear hs
      go_enter Try.func47, Try.ntmps47
      go_wp2_with fail
      refine (bRight_any b0 hn' s d _ hb0 hh0 hs0 hd0).mono ?_
      rw [hD.out]
      rintro e w1 ⟨rfl, hB⟩
      obtain ⟨hblk, hc0, hc1, hc2, hc3, hB1⟩ := cod_cells hB
      clear hB
      have hcw := hc.below hB1
      have hg1 := grownBy_of_below (some g) hB1
      go_wp2
      go_loopw [5, 6, 7] (fun xu xw xi wr => ∃ (j p' u' wt : Nat) (e : Int), xi = .int .i64 ((j : Int) + 1) ∧ xu = .int .i64 u' ∧ xw = .int .i64 wt ∧ GState hn' l b0 p j p' u' wt e ∧ CurOk wr g l p' e ∧ Blk wr w.heap.size 23 #[.int .i64 (b0 : Int), .int .i64 (hn' : Int), .int .i64 s, .int .i64 d] ∧ w.grownBy wr (some g)) (fun _ _ xi _ => b0 + 1 - (intOf xi).toNat)
      case atStart => exact ⟨0, p, 0, 1, 0, rfl, rfl, rfl, GState.start _ _ _ _, hcw, hblk, hg1⟩
      case round =>
        clear hc0 hc1 hc2 hc3 hblk hg1 hcw hB1
        obtain ⟨j, p', u', wt, e, rfl, rfl, rfl, hst, hcr, hblk, hgr⟩ := hrel
        obtain ⟨hc0, hc1, hc2, hc3⟩ := hblk.four
        have hjb := hst.1
        have hsm := hst.small (by omega)
        have HST := Lib.hid hst
        clear hst
        by_cases hlt : j < b0
        · rcases HST.out.err with rfl | ⟨rfl, he6, hp6⟩
          · have hti := HST.out.tiny (by omega) hlt
            go_wp2_with fail
            refine (cErr_any g l p' 0 _ hcr).mono ?_
            rintro e w' ⟨rfl, rfl⟩
            go_wp2_with fail
            refine (cBig1_any g l p' _ hcr).mono ?_
            rintro e w3 ⟨hx, hg3⟩
            have hblk3 := hblk.grown hg3 (by simp; omega)
            have hgr3 := grownBy_trans hgr hg3
            clear hc0 hc1 hc2 hc3 hg3 hgr hblk hcr
            obtain ⟨hc0, hc1, hc2, hc3⟩ := hblk3.four
            rcases hx with ⟨x, hx, rfl, hc3'⟩ | ⟨hx, rfl, hc3'⟩
            · have hx2 := x.toNat_lt
              have hxw : (x.toNat : Int) * (wt : Int) = ((x.toNat * wt : Nat) : Int) := by push_cast; rfl
              have hwh : (wt : Int) * (hn' : Int) = ((wt * hn' : Nat) : Int) := by push_cast; rfl
              have hxw1 : x.toNat * wt ≤ 255 * wt := Nat.mul_le_mul_right _ (by omega)
              have hwh1 : wt * hn' ≤ wt * 256 := Nat.mul_le_mul_left _ (by omega)
              have hxw2 : 0 ≤ (x.toNat : Int) * (wt : Int) ∧ (x.toNat : Int) * (wt : Int) ≤ 1099511627776 := by rw [hxw]; omega
              have hwh2 : 0 ≤ (wt : Int) * (hn' : Int) ∧ (wt : Int) * (hn' : Int) ≤ 1099511627776 := by rw [hwh]; omega
              by_cases hlow : x.toNat < 256 - hn'
              · obtain ⟨f1, f2, f3, f4⟩ := HST.out.last hlt (by omega) hx hlow
                have HEND := Lib.hid (HFIN.out _ _ f1 f2 f3)
                have hlow' : (x.toNat : Int) < 256 - (hn' : Int) := by omega
                clear f1 f2 f3
                have HXW := Lib.hid hxw
                clear hxw hwh
                by_cases hbig : 4294967296 ≤ u' + x.toNat * wt
                · have hlong : (4294967296 : Int) ≤ (u' : Int) + (x.toNat : Int) * (wt : Int) := by rw [show (u' : Int) + (x.toNat : Int) * (wt : Int) = ((u' + x.toNat * wt : Nat) : Int) from by push_cast; rfl]; omega
                  go_wp2_with fail
                  refine (cFail_any g l (p' + 1) 0 5 w3 hc3').mono ?_
                  rintro e w5 ⟨rfl, hc5, hg5⟩
                  rw [show failE 0 5 = 5 from rfl] at hc5
                  go_wp2_with fail
                  refine (cErr_any g l (p' + 1) 5 _ hc5).mono ?_
                  rintro e w' ⟨rfl, rfl⟩
                  go_wp2
                  go_ret
                  exact HEND.out.2 hbig _ hc5 (grownBy_trans hgr3 hg5)
                · have hlong : decide ((4294967296 : Int) ≤ (u' : Int) + (x.toNat : Int) * (wt : Int)) = false := by rw [show (u' : Int) + (x.toNat : Int) * (wt : Int) = ((u' + x.toNat * wt : Nat) : Int) from by push_cast; rfl]; exact decide_eq_false (by omega)
                  have HNUM := Lib.hid (show 0 ≤ (u' : Int) + (x.toNat : Int) * (wt : Int) ∧ (u' : Int) + (x.toNat : Int) * (wt : Int) ≤ 1099511627776 by rw [show (u' : Int) + (x.toNat : Int) * (wt : Int) = ((u' + x.toNat * wt : Nat) : Int) from by push_cast; rfl]; omega)
                  have HBIG := Lib.hid hbig
                  clear hbig f4
                  go_wp2_with fail
                  refine (cErr_any g l (p' + 1) 0 w3 hc3').mono ?_
                  rintro e w' ⟨rfl, rfl⟩
                  go_wp2_with fail
                  refine (bNumber_any b0 hn' s d ((u' : Int) + (x.toNat : Int) * (wt : Int)) _ HS.out HNUM.out).mono ?_
                  rintro e w6 ⟨rfl, hB6⟩
                  have hc6 := hc3'.below hB6
                  have hg6 := grownBy_trans hgr3 (grownBy_of_below (some g) hB6)
                  have hx6 := HEND.out.1 HBIG.out _ hc6 hg6
                  rw [← show (u' : Int) + (x.toNat : Int) * (wt : Int) = ((u' + x.toNat * wt : Nat) : Int) from by push_cast; rfl] at hx6
                  have HX6 := Lib.hid hx6
                  clear hx6
                  go_wp2
                  go_ret
                  exact HX6.out
              · have hlow' : ¬ (x.toNat : Int) < 256 - (hn' : Int) := by omega
                have hst2 := Lib.hid (HST.out.next hlt (by omega) hx hlow)
                have HXW := Lib.hid hxw
                have HWH := Lib.hid hwh
                clear hxw hwh
                go_wp2
                go_roundw
                case rel => exact ⟨j + 1, p' + 1, u' + x.toNat * wt, wt * hn', 0, by go_num, by go_num, by go_num, hst2.out, hc3', hblk3, hgr3⟩
                case measure => simp [intOf]; omega
            · obtain ⟨he6, hp6, hst6⟩ := HST.out.stop hlt (by omega) hx
              have HST6 := Lib.hid hst6
              have HBAD := Lib.hid (HFBAD.out _ hp6 he6)
              have hwh : (wt : Int) * (hn' : Int) = ((wt * hn' : Nat) : Int) := by push_cast; rfl
              have hwh1 : wt * hn' ≤ wt * 256 := Nat.mul_le_mul_left _ (by omega)
              have hwh2 : 0 ≤ (wt : Int) * (hn' : Int) ∧ (wt : Int) * (hn' : Int) ≤ 1099511627776 := by rw [hwh]; omega
              have HWH := Lib.hid hwh
              clear hst6 he6 hp6 hwh
              by_cases hlow : hn' < 256
              · have hlow' : (0 : Int) < 256 - (hn' : Int) := by omega
                by_cases hbig : 4294967296 ≤ u'
                · have hlong : (4294967296 : Int) ≤ (u' : Int) := by omega
                  go_wp2_with fail
                  refine (cFail_any g l p' 6 5 w3 hc3').mono ?_
                  rintro e w5 ⟨rfl, hc5, hg5⟩
                  rw [show failE 6 5 = 6 from rfl] at hc5
                  go_wp2_with fail
                  refine (cErr_any g l p' 6 _ hc5).mono ?_
                  rintro e w' ⟨rfl, rfl⟩
                  go_wp2
                  go_ret
                  exact HBAD.out _ hc5 (grownBy_trans hgr3 hg5)
                · have hlong : decide ((4294967296 : Int) ≤ (u' : Int)) = false := decide_eq_false (by omega)
                  have HBIG := Lib.hid hbig
                  clear hbig
                  go_wp2_with fail
                  refine (cErr_any g l p' 6 w3 hc3').mono ?_
                  rintro e w' ⟨rfl, rfl⟩
                  go_wp2
                  go_ret
                  exact HBAD.out _ hc3' hgr3
              · have hlow' : ¬ (0 : Int) < 256 - (hn' : Int) := by omega
                go_wp2
                go_roundw
                case rel => exact ⟨j + 1, p', u', wt * hn', 6, by go_num, rfl, by go_num, HST6.out, hc3', hblk3, hgr3⟩
                case measure => simp [intOf]; omega
          · have HBAD := Lib.hid (HFBAD.out _ hp6 he6)
            clear hp6 he6
            go_wp2_with fail
            refine (cErr_any g l p' 6 _ hcr).mono ?_
            rintro e w' ⟨rfl, rfl⟩
            by_cases hbig : 4294967296 ≤ u'
            · have hlong : (4294967296 : Int) ≤ (u' : Int) := by omega
              go_wp2_with fail
              refine (cFail_any g l p' 6 5 wr hcr).mono ?_
              rintro e w5 ⟨rfl, hc5, hg5⟩
              rw [show failE 6 5 = 6 from rfl] at hc5
              go_wp2_with fail
              refine (cErr_any g l p' 6 _ hc5).mono ?_
              rintro e w' ⟨rfl, rfl⟩
              go_wp2
              go_ret
              exact HBAD.out _ hc5 (grownBy_trans hgr hg5)
            · have hlong : decide ((4294967296 : Int) ≤ (u' : Int)) = false := decide_eq_false (by omega)
              have HBIG := Lib.hid hbig
              clear hbig
              go_wp2_with fail
              refine (cErr_any g l p' 6 wr hcr).mono ?_
              rintro e w' ⟨rfl, rfl⟩
              go_wp2
              go_ret
              exact HBAD.out _ hcr hgr
        · have hj' : j = b0 := by omega
          rcases HST.out.err with rfl | ⟨rfl, he6, hp6⟩
          · obtain ⟨f1, f2, f3, f4⟩ := HST.out.full hj' (by omega)
            have HEND := Lib.hid (HFIN.out _ _ f1 f2 f3)
            clear f1 f2 f3
            by_cases hbig : 4294967296 ≤ u'
            · have hlong : (4294967296 : Int) ≤ (u' : Int) := by rw [show (u' : Int) = ((u' : Nat) : Int) from rfl]; omega
              go_wp2_with fail
              refine (cFail_any g l p' 0 5 wr hcr).mono ?_
              rintro e w5 ⟨rfl, hc5, hg5⟩
              rw [show failE 0 5 = 5 from rfl] at hc5
              go_wp2_with fail
              refine (cErr_any g l p' 5 _ hc5).mono ?_
              rintro e w' ⟨rfl, rfl⟩
              go_wp2
              go_ret
              exact HEND.out.2 hbig _ hc5 (grownBy_trans hgr hg5)
            · have hlong : decide ((4294967296 : Int) ≤ (u' : Int)) = false := by rw [show (u' : Int) = ((u' : Nat) : Int) from rfl]; exact decide_eq_false (by omega)
              have HNUM := Lib.hid (show 0 ≤ (u' : Int) ∧ (u' : Int) ≤ 1099511627776 by rw [show (u' : Int) = ((u' : Nat) : Int) from rfl]; omega)
              have HBIG := Lib.hid hbig
              clear hbig f4
              go_wp2_with fail
              refine (cErr_any g l p' 0 wr hcr).mono ?_
              rintro e w' ⟨rfl, rfl⟩
              go_wp2_with fail
              refine (bNumber_any b0 hn' s d ((u' : Int)) _ HS.out HNUM.out).mono ?_
              rintro e w6 ⟨rfl, hB6⟩
              have hc6 := hcr.below hB6
              have hg6 := grownBy_trans hgr (grownBy_of_below (some g) hB6)
              have hx6 := HEND.out.1 HBIG.out _ hc6 hg6
              rw [← show (u' : Int) = ((u' : Nat) : Int) from rfl] at hx6
              have HX6 := Lib.hid hx6
              clear hx6
              go_wp2
              go_ret
              exact HX6.out
          · have HBAD := Lib.hid (HFBAD.out _ hp6 he6)
            clear hp6 he6
            by_cases hbig : 4294967296 ≤ u'
            · have hlong : (4294967296 : Int) ≤ (u' : Int) := by omega
              go_wp2_with fail
              refine (cFail_any g l p' 6 5 wr hcr).mono ?_
              rintro e w5 ⟨rfl, hc5, hg5⟩
              rw [show failE 6 5 = 6 from rfl] at hc5
              go_wp2_with fail
              refine (cErr_any g l p' 6 _ hc5).mono ?_
              rintro e w' ⟨rfl, rfl⟩
              go_wp2
              go_ret
              exact HBAD.out _ hc5 (grownBy_trans hgr hg5)
            · have hlong : decide ((4294967296 : Int) ≤ (u' : Int)) = false := decide_eq_false (by omega)
              have HBIG := Lib.hid hbig
              clear hbig
              go_wp2_with fail
              refine (cErr_any g l p' 6 wr hcr).mono ?_
              rintro e w' ⟨rfl, rfl⟩
              go_wp2
              go_ret
              exact HBAD.out _ hcr hgr
    · have HF0 : Hid (∀ w', CurOk w' g l p er → w.grownBy w' (some g) → GetPost w g b h s d l p er (.returned (.int .i64 0)) w') := Lib.hid (by
        intro w' h1 h2
        have hgE : gotE b h s d l p er = er := by unfold gotE; rw [if_pos her]
        have hgP : gotP b h s d l p er = p := by unfold gotP; rw [if_pos (.inl her)]
        exact ⟨by unfold gotV; rw [hgE, if_neg her], by rw [hgE, hgP]; exact h1, h2⟩)
      have hD := Lib.hid (decide_eq_true hR)
      have HNE := Lib.hid her
      clear hR her
      go_enter Try.func47, Try.ntmps47
      go_wp2_with fail
      refine (bRight_any b h s d _ hb0 hh0 hs0 hd0).mono ?_
      rw [hD.out]
      rintro e w1 ⟨rfl, hB⟩
      obtain ⟨hblk, hc0, hc1, hc2, hc3, hB1⟩ := cod_cells hB
      clear hB
      have hcw := hc.below hB1
      have HF := Lib.hid (HF0.out _ hcw (grownBy_of_below (some g) hB1))
      clear HF0 hB1
      have hne' : (er == 0) = false := beq_eq_false_iff_ne.2 HNE.out
      have hne2 : (er != 0) = true := bne_iff_ne.2 HNE.out
      go_wp2
      go_loopw [5, 6, 7] (fun xu xw xi wr => xu = .int .i64 0 ∧ xw = .int .i64 1 ∧ xi = .int .i64 1 ∧ wr = w1) (fun _ _ _ _ => 0)
      case atStart => exact ⟨rfl, rfl, rfl, rfl⟩
      case round =>
        obtain ⟨rfl, rfl, rfl, rfl⟩ := hrel
        by_cases h1b : 1 ≤ b
        · go_wp2_with fail
          refine (cErr_any g l p er _ hcw).mono ?_
          rintro e w' ⟨rfl, rfl⟩
          go_wp2_with fail
          refine (cErr_any g l p er _ hcw).mono ?_
          rintro e w' ⟨rfl, rfl⟩
          go_wp2
          go_ret
          exact HF.out
        · go_wp2_with fail
          refine (cErr_any g l p er _ hcw).mono ?_
          rintro e w' ⟨rfl, rfl⟩
          go_wp2
          go_ret
          exact HF.out
  · obtain ⟨e0, he0⟩ : ∃ e0, e0 = failE er 1 := ⟨_, rfl⟩
    have hne0 : e0 ≠ 0 := by rw [he0]; unfold failE; split <;> omega
    have HF0 : Hid (∀ w', CurOk w' g l p e0 → w.grownBy w' (some g) → GetPost w g b h s d l p er (.returned (.int .i64 0)) w') := Lib.hid (by
      intro w' h1 h2
      have hgE : gotE b h s d l p er = e0 := by
        unfold gotE; rw [he0]; unfold failE
        by_cases h : er = 0
        · rw [if_neg (by omega), if_pos hR, if_pos h]
        · rw [if_pos h, if_neg h]
      have hgP : gotP b h s d l p er = p := by unfold gotP; rw [if_pos (.inr hR)]
      exact ⟨by unfold gotV; rw [hgE, if_neg hne0], by rw [hgE, hgP]; exact h1, h2⟩)
    have hD := Lib.hid (decide_eq_false hR)
    have HNE := Lib.hid hne0
    have HE0 := Lib.hid he0
    clear hR hne0 he0
    go_enter Try.func47, Try.ntmps47
    go_wp2_with fail
    refine (bRight_any b h s d _ hb0 hh0 hs0 hd0).mono ?_
    rw [hD.out]
    rintro e w1 ⟨rfl, hB⟩
    obtain ⟨hblk, hc0, hc1, hc2, hc3, hB1⟩ := cod_cells hB
    clear hB
    have hcw := hc.below hB1
    have hgw := grownBy_of_below (some g) hB1
    clear hB1 hc0 hc1 hc2 hc3
    go_wp2_with fail
    refine (cFail_any g l p er 1 _ hcw).mono ?_
    rintro e w2 ⟨rfl, hc2', hg2⟩
    rw [← HE0.out] at hc2'
    have HF := Lib.hid (HF0.out _ hc2' (grownBy_trans hgw hg2))
    have hblk2 := hblk.grown hg2 (by simp; omega)
    obtain ⟨hc0, hc1, hc2, hc3⟩ := hblk2.four
    clear HF0 hcw hgw hg2 hblk
    have hne' : (e0 == 0) = false := beq_eq_false_iff_ne.2 HNE.out
    have hne2 : (e0 != 0) = true := bne_iff_ne.2 HNE.out
    go_wp2
    go_loopw [5, 6, 7] (fun xu xw xi wr => xu = .int .i64 0 ∧ xw = .int .i64 1 ∧ xi = .int .i64 1 ∧ wr = w2) (fun _ _ _ _ => 0)
    case atStart => exact ⟨rfl, rfl, rfl, rfl⟩
    case round =>
      obtain ⟨rfl, rfl, rfl, rfl⟩ := hrel
      by_cases h1b : 1 ≤ b
      · go_wp2_with fail
        refine (cErr_any g l p e0 _ hc2').mono ?_
        rintro e w' ⟨rfl, rfl⟩
        go_wp2_with fail
        refine (cErr_any g l p e0 _ hc2').mono ?_
        rintro e w' ⟨rfl, rfl⟩
        go_wp2
        go_ret
        exact HF.out
      · go_wp2_with fail
        refine (cErr_any g l p e0 _ hc2').mono ?_
        rintro e w' ⟨rfl, rfl⟩
        go_wp2
        go_ret
        exact HF.out
end Go.Proofs.Ytnmdgmjheopolaa
