/- bhsd.Row. -/
import Derived.Test.YtnmdgmjheopolaaBhsJ
import Derived.Test.YtnmdgmjheopolaaBhsG
namespace Go.Proofs.Ytnmdgmjheopolaa
open Go.RowKit
set_option linter.unusedVariables false
set_option linter.unusedSimpArgs false

def iE (x : Int) : Value := .int .i64 x
def rowW (s d last v : Int) : Int := if d = 1 then roundC s (v - last) else v
/-- The row's bytes behind acc; none: a number doesn't fit. -/
def rowRun (b h s d : Int) : List Int → Int → List UInt8 → Option (List UInt8)
  | [], last, acc => some acc
  | v :: r, last, acc => if BoundC s v ∧ FitsC b h s d (plainC s (rowW s d last v)) then rowRun b h s d r v (acc ++ bytesC b h (plainC s (rowW s d last v))) else none
def rowErr (b h s d : Int) (l : List Int) : Int := if RightC b h s d then (if (rowRun b h s d l 0 []).isSome then 0 else 5) else 1
def rowRes (b h s d : Int) (l : List Int) : List UInt8 := if RightC b h s d then (rowRun b h s d l 0 []).getD [] else []
def RowPost (w : World) (b h s d : Int) (l : List Int) (e : Ending) (w' : World) : Prop :=
  ∃ a' n' c', e = .returned (.tuple #[.slice a' n' c', .int .i64 (rowErr b h s d l)]) ∧ (rowRes b h s d l).length = n' ∧ n' ≤ 5 * l.length ∧ Rd w' bE a' (rowRes b h s d l) ∧ Below w.heap.size w w'
theorem BoundC.small {s v : Int} (h : BoundC s v) : -4294967296 ≤ v ∧ v ≤ 4294967296 := by unfold BoundC at h; split at h <;> omega
theorem rowRun_no {b h s d : Int} {l : List Int} {j : Nat} (hj : j < l.length) {last : Int} {acc : List UInt8} (hn : ¬ (BoundC s l[j] ∧ FitsC b h s d (plainC s (rowW s d last l[j])))) (hr : rowRun b h s d (l.drop j) last acc = rowRun b h s d l 0 []) : rowRun b h s d l 0 [] = none := by
  rw [← hr, List.drop_eq_getElem_cons hj, rowRun, if_neg hn]
theorem rowRun_yes {b h s d : Int} {l : List Int} {j : Nat} (hj : j < l.length) {last : Int} {acc : List UInt8} (hn : BoundC s l[j] ∧ FitsC b h s d (plainC s (rowW s d last l[j]))) (hr : rowRun b h s d (l.drop j) last acc = rowRun b h s d l 0 []) : rowRun b h s d (l.drop (j + 1)) l[j] (acc ++ bytesC b h (plainC s (rowW s d last l[j]))) = rowRun b h s d l 0 [] := by
  rw [← hr, List.drop_eq_getElem_cons hj, rowRun, if_pos hn]
theorem rowPost_bad {w w' : World} {b h s d : Int} {l : List Int} (hR : RightC b h s d) (hn : rowRun b h s d l 0 [] = none) (hB : Below w.heap.size w w') : RowPost w b h s d l (.returned (.tuple #[.slice none 0 0, .int .i64 5])) w' := by
  have e1 : rowErr b h s d l = 5 := by unfold rowErr; rw [if_pos hR, hn]; rfl
  have e2 : rowRes b h s d l = [] := by unfold rowRes; rw [if_pos hR, hn]; rfl
  exact ⟨none, 0, 0, by rw [e1], by rw [e2]; rfl, by omega, by rw [e2]; exact Rd.nil, hB⟩
theorem rowPost_wrong {w w' : World} {b h s d : Int} {l : List Int} (hR : ¬ RightC b h s d) (hB : Below w.heap.size w w') : RowPost w b h s d l (.returned (.tuple #[.slice none 0 0, .int .i64 1])) w' := by
  have e1 : rowErr b h s d l = 1 := by unfold rowErr; rw [if_neg hR]
  have e2 : rowRes b h s d l = [] := by unfold rowRes; rw [if_neg hR]
  exact ⟨none, 0, 0, by rw [e1], by rw [e2]; rfl, by omega, by rw [e2]; exact Rd.nil, hB⟩
theorem rowPost_ok {w w' : World} {b h s d : Int} {l : List Int} (hR : RightC b h s d) {last : Int} {acc : List UInt8} (hn : rowRun b h s d (l.drop l.length) last acc = rowRun b h s d l 0 []) {a : Option Addr} {n c : Nat} (hl : acc.length = n) (hn5 : n ≤ 5 * l.length) (hr : Rd w' bE a acc) (hB : Below w.heap.size w w') : RowPost w b h s d l (.returned (.tuple #[.slice a n c, .int .i64 0])) w' := by
  rw [List.drop_length, rowRun] at hn
  have e1 : rowErr b h s d l = 0 := by unfold rowErr; rw [if_pos hR, ← hn]; rfl
  have e2 : rowRes b h s d l = acc := by unfold rowRes; rw [if_pos hR, ← hn]; rfl
  exact ⟨a, n, c, by rw [e1], by rw [e2]; exact hl, hn5, by rw [e2]; exact hr, hB⟩

set_option maxRecDepth 100000 in
set_option maxHeartbeats 16000000 in
theorem bRow_any (a : Option Addr) (n c : Nat) (l : List Int) (b h s d : Int) (w : World) (hl : l.length = n) (hn : n ≤ 1000000) (hr : Rd w iE a l) (hi : ∀ x ∈ l, In64 x) (hb0 : In64 b) (hh0 : In64 h) (hs0 : In64 s) (hd0 : In64 d) :
  Calls Try.prog 57 #[.agg #[.int .i64 b, .int .i64 h, .int .i64 s, .int .i64 d], .slice a n c] w (RowPost w b h s d l) := by
  by_cases hR : RightC b h s d
  · have hD := Lib.hid (decide_eq_true hR)
    have HS : Hid (0 ≤ s ∧ s ≤ 2) := Lib.hid ⟨hR.2.2.2.2.1, hR.2.2.2.2.2.1⟩
    have HBR : Hid (1 ≤ b ∧ b ≤ 5) := Lib.hid ⟨hR.1, hR.2.1⟩
    have HHR : Hid (2 ≤ h ∧ h ≤ 256) := Lib.hid ⟨hR.2.2.1, hR.2.2.2.1⟩
    have HR := Lib.hid hR
    have HL := Lib.hid hl
    have HI := Lib.hid hi
    have HRD := Lib.hid hr
    clear hR hl hi hr
    go_enter Try.func57, Try.ntmps57
    go_wp2_with fail
    refine (bRight_any b h s d _ hb0 hh0 hs0 hd0).mono ?_
    rw [hD.out]
    rintro e w1 ⟨rfl, hB⟩
    obtain ⟨hblk, hc0, hc1, hc2, hc3, hB1⟩ := cod_cells hB
    have hsz1 : w.heap.size + 1 ≤ w1.heap.size := hblk.lt
    clear hB
    go_wp2
    go_loopw [6, 7, 16] (fun x6 x7 xi wr => ∃ (j n' c' : Nat) (a' : Option Addr) (acc : List UInt8) (last : Int), xi = .int .i64 j ∧ j ≤ n ∧ x6 = .slice a' n' c' ∧ x7 = .int .i64 last ∧ n' ≤ 5 * j ∧ (-4294967296 ≤ last ∧ last ≤ 4294967296) ∧ Own wr (w.heap.size + 1) 5 bE a' n' c' acc ∧ rowRun b h s d (l.drop j) last acc = rowRun b h s d l 0 [] ∧ Blk wr w.heap.size 23 #[.int .i64 b, .int .i64 h, .int .i64 s, .int .i64 d] ∧ w.heap.size + 1 ≤ wr.heap.size ∧ Below w.heap.size w wr) (fun _ _ xi _ => n - (intOf xi).toNat)
    case atStart => exact ⟨0, 0, 0, none, [], 0, rfl, by omega, rfl, rfl, by omega, by omega, Own.nil, by rw [List.drop_zero], hblk, hsz1, hB1⟩
    case round =>
      clear hc0 hc1 hc2 hc3 hblk hB1 hsz1
      obtain ⟨j, n', c', a', acc, last, rfl, hj, rfl, rfl, hn5, hlast, hown, hrun, hblk, hsz, hB⟩ := hrel
      obtain ⟨hc0, hc1, hc2, hc3⟩ := hblk.four
      have HRUN := Lib.hid hrun
      clear hrun
      by_cases hlt : j < n
      · have hjl : j < l.length := by rw [HL.out]; exact hlt
        obtain ⟨bq, oq, hq, -, cq⟩ := (HRD.out.below hB).at (k := j) hjl
        subst hq
        have hvi := HI.out l[j] (List.getElem_mem hjl)
        have HYES := Lib.hid (fun hn => rowRun_yes hjl hn HRUN.out)
        have HNO := Lib.hid (fun hn => rowRun_no hjl hn HRUN.out)
        unfold iE at cq
        generalize l[j] = v at cq hvi HYES HNO
        go_wp2_with fail
        refine (bBound_any b h s d v _ hvi).mono ?_
        rintro e w2 ⟨rfl, hB2⟩
        have hblk2 := hblk.below hB2
        have hown2 := hown.below hB2
        have hBw2 := hB.trans (hB2.mono hB.size)
        have hsz2 : w.heap.size + 1 ≤ w2.heap.size := hblk2.lt
        clear hc0 hc1 hc2 hc3 hblk hown hB hB2 hsz cq
        obtain ⟨hc0, hc1, hc2, hc3⟩ := hblk2.four
        by_cases hbd : BoundC s v
        · rw [decide_eq_true hbd]
          have hvs := hbd.small
          have HBD := Lib.hid hbd
          clear hbd
          go_wp2_with fail
          refine (bPlain_any b h s d v _ HS.out).mono ?_
          rintro e w3 ⟨rfl, hB3⟩
          have hblk3 := hblk2.below hB3
          have hown3 := hown2.below hB3
          have hBw3 := hBw2.trans (hB3.mono hBw2.size)
          clear hc0 hc1 hc2 hc3 hblk2 hown2 hBw2 hB3 hsz2
          obtain ⟨hc0, hc1, hc2, hc3⟩ := hblk3.four
          by_cases hd1 : d = 1
          · have hw : rowW s d last v = roundC s (v - last) := if_pos hd1
            rw [hw] at HYES HNO
            clear hw
            have HC := Lib.hid hblk3.four
            have hd1' : (d == 1) = true := beq_iff_eq.2 hd1
            have hsub : IntKind.i64.wrap (v - last) = v - last := by rw [IntKind.wrap_i64]; omega
            clear hd1
            go_wp2_with fail
            clear hc0 hc1 hc2 hc3
            refine wp_region_grow (by kernel_rfl) (by kernel_rfl) (by rfl) ?_
            refine gw_valB (fun x _ => x = .agg #[.int .i64 b, .int .i64 h, .int .i64 s, .int .i64 d]) (mono_eq _) ?_ ?_
            · intro a' w' hb' hk
              refine ⟨wanted_none rfl, _, ?_, rfl⟩
              have hc0 := cell_later2 HC.out.1 hb'
              have hc1 := cell_later2 HC.out.2.1 hb'
              have hc2 := cell_later2 HC.out.2.2.1 hb'
              have hc3 := cell_later2 HC.out.2.2.2 hb'
              simp [Oper.looksAt, Op.operands, Call.operands, KnownAt, List.lookup, consD] at hk
              simp [execOp, Act.eval, hk, hc0, hc1, hc2, hc3, go_sem]
              all_goals rfl
            refine gw_valB (fun x _ => x = .agg #[.int .i64 b, .int .i64 h, .int .i64 s, .int .i64 d]) (mono_eq _) ?_ ?_
            · intro a' w' hb' hk
              refine ⟨wanted_none rfl, _, ?_, rfl⟩
              have hc0 := cell_later2 HC.out.1 hb'
              have hc1 := cell_later2 HC.out.2.1 hb'
              have hc2 := cell_later2 HC.out.2.2.1 hb'
              have hc3 := cell_later2 HC.out.2.2.2 hb'
              simp [Oper.looksAt, Op.operands, Call.operands, KnownAt, List.lookup, consD] at hk
              simp [execOp, Act.eval, hk, hc0, hc1, hc2, hc3, go_sem]
              all_goals rfl
            apply gw_val
            · intro a' w' hk
              refine ⟨wanted_none rfl, ?_⟩
              simp [Oper.looksAt, Op.operands, Call.operands, KnownAt, List.lookup, consD] at hk
              simp [execOp, Act.eval, hk, go_sem]
              all_goals rfl
            apply gw_val
            · intro a' w' hk
              refine ⟨wanted_none rfl, ?_⟩
              simp [Oper.looksAt, Op.operands, Call.operands, KnownAt, List.lookup, consD] at hk
              simp [execOp, Act.eval, hk, go_sem]
              all_goals rfl
            apply gw_val
            · intro a' w' hk
              refine ⟨wanted_none rfl, ?_⟩
              simp [Oper.looksAt, Op.operands, Call.operands, KnownAt, List.lookup, consD] at hk
              simp [execOp, Act.eval, hk, go_sem, hsub]
              all_goals rfl
            refine gw_call _ #[.agg #[.int .i64 b, .int .i64 h, .int .i64 s, .int .i64 d], .int .i64 (v - last)] (fun x _ => x = .int .i64 (roundC s (v - last))) (mono_eq _) (fun a' w' hk => ?_) (fun w' hb => (bRound_any b h s d (v - last) w' (by unfold In64; omega)).mono ?_) ?_
            · refine ⟨wanted_none rfl, ?_⟩
              simp [Oper.looksAt, Op.operands, Call.operands, KnownAt, List.lookup, consD] at hk
              simp [execOp, Act.eval, hk, go_sem]
              all_goals rfl
            · rintro e w'' ⟨rfl, hB⟩
              exact ⟨_, rfl, rfl, hB⟩
            refine gw_call _ #[.agg #[.int .i64 b, .int .i64 h, .int .i64 s, .int .i64 d], .int .i64 (roundC s (v - last))] (fun x _ => x = .int .i64 (plainC s (roundC s (v - last)))) (mono_eq _) (fun a' w' hk => ?_) (fun w' hb => (bPlain_any b h s d (roundC s (v - last)) w' HS.out).mono ?_) ?_
            · refine ⟨wanted_none rfl, ?_⟩
              simp [Oper.looksAt, Op.operands, Call.operands, KnownAt, List.lookup, consD] at hk
              simp [execOp, Act.eval, hk, go_sem]
              all_goals rfl
            · rintro e w'' ⟨rfl, hB⟩
              exact ⟨_, rfl, rfl, hB⟩
            apply gw_val
            · intro a' w' hk
              refine ⟨wanted_none rfl, ?_⟩
              simp [Oper.looksAt, Op.operands, Call.operands, KnownAt, List.lookup, consD] at hk
              simp [execOp, Act.eval, hk, go_sem]
              all_goals rfl
            intro vs w4 hb4 hall
            simp only [AllS, consD] at hall
            simp only [consD, putAllS, Act.put]
            obtain ⟨h4, -⟩ := hall
            rw [h4]
            simp only [List.setIfInBounds_toArray, List.set_cons_succ, List.set_cons_zero]
            have hB4 : Below w3.heap.size w3 w4 := (Below.refl _ _).drew.trans hb4
            have hblk4 := hblk3.below hB4
            have hown4 := hown3.below hB4
            have hBw4 := hBw3.trans (hB4.mono hBw3.size)
            clear hblk3 hown3 hBw3 hB4 hb4 HC
            obtain ⟨u, hu⟩ : ∃ u, u = plainC s (roundC s (v - last)) := ⟨_, rfl⟩
            rw [← hu] at HYES HNO ⊢
            clear hu hsub
            obtain ⟨hc0, hc1, hc2, hc3⟩ := hblk4.four
            go_wp2_with fail
            refine (bfits_any b h s d u _ hb0 hh0 hs0 hd0).mono ?_
            rintro e w5 ⟨rfl, hB5⟩
            have hblk5 := hblk4.below hB5
            have hown5 := hown4.below hB5
            have hBw5 := hBw4.trans (hB5.mono hBw4.size)
            clear hc0 hc1 hc2 hc3 hblk4 hown4 hBw4 hB5
            obtain ⟨hc0, hc1, hc2, hc3⟩ := hblk5.four
            by_cases hft : FitsC b h s d u
            · have hst := HYES.out ⟨HBD.out, hft⟩
              have HST := Lib.hid hst
              have hur : 0 ≤ u ∧ u ≤ 4294967296 := ⟨hft.2.1, by have := hft.2.2; have := reachC_range b h HHR.out; omega⟩
              rw [decide_eq_true hft]
              clear hft hst HYES HNO
              have hsz5 : w.heap.size + 1 ≤ w5.heap.size := hblk5.lt
              go_wp2_with fail
              refine (bput_any a' n' c' acc b h s d u w5 (w.heap.size + 1) hsz5 hown5 (by omega) HBR.out HHR.out hur).mono ?_
              rintro e w6 ⟨a6, n6, c6, rfl, hn6, hown6, hB6⟩
              have hblk6 : Blk w6 w.heap.size 23 #[.int .i64 b, .int .i64 h, .int .i64 s, .int .i64 d] := (hB6.block w.heap.size (by omega)).trans hblk5
              have hBw6 := hBw5.trans (hB6.mono (by omega))
              have hsz6 : w.heap.size + 1 ≤ w6.heap.size := hblk6.lt
              clear hc0 hc1 hc2 hc3 hblk5 hown5 hBw5 hB6 hsz5
              obtain ⟨hc0, hc1, hc2, hc3⟩ := hblk6.four
              go_wp2
              go_roundw
              case rel => exact ⟨j + 1, n6, c6, a6, _, v, by go_num, by omega, rfl, rfl, by omega, hvs, hown6, HST.out, hblk6, hsz6, hBw6⟩
              case measure => simp [intOf]; omega
            · have hfin := rowPost_bad HR.out (HNO.out (fun h => hft h.2)) hBw5
              have HFIN := Lib.hid hfin
              rw [decide_eq_false hft]
              clear hft hfin HYES HNO
              go_wp2
              go_ret2
              exact HFIN.out
          · have hw : rowW s d last v = v := if_neg hd1
            rw [hw] at HYES HNO
            clear hw
            have hd1' : (d == 1) = false := beq_eq_false_iff_ne.2 hd1
            clear hd1
            have hblk4 := hblk3
            have hown4 := hown3
            have hBw4 := hBw3
            clear hblk3 hown3 hBw3
            obtain ⟨u, hu⟩ : ∃ u, u = plainC s v := ⟨_, rfl⟩
            rw [← hu] at HYES HNO ⊢
            clear hu
            go_wp2_with fail
            refine (bfits_any b h s d u _ hb0 hh0 hs0 hd0).mono ?_
            rintro e w5 ⟨rfl, hB5⟩
            have hblk5 := hblk4.below hB5
            have hown5 := hown4.below hB5
            have hBw5 := hBw4.trans (hB5.mono hBw4.size)
            clear hc0 hc1 hc2 hc3 hblk4 hown4 hBw4 hB5
            obtain ⟨hc0, hc1, hc2, hc3⟩ := hblk5.four
            by_cases hft : FitsC b h s d u
            · have hst := HYES.out ⟨HBD.out, hft⟩
              have HST := Lib.hid hst
              have hur : 0 ≤ u ∧ u ≤ 4294967296 := ⟨hft.2.1, by have := hft.2.2; have := reachC_range b h HHR.out; omega⟩
              rw [decide_eq_true hft]
              clear hft hst HYES HNO
              have hsz5 : w.heap.size + 1 ≤ w5.heap.size := hblk5.lt
              go_wp2_with fail
              refine (bput_any a' n' c' acc b h s d u w5 (w.heap.size + 1) hsz5 hown5 (by omega) HBR.out HHR.out hur).mono ?_
              rintro e w6 ⟨a6, n6, c6, rfl, hn6, hown6, hB6⟩
              have hblk6 : Blk w6 w.heap.size 23 #[.int .i64 b, .int .i64 h, .int .i64 s, .int .i64 d] := (hB6.block w.heap.size (by omega)).trans hblk5
              have hBw6 := hBw5.trans (hB6.mono (by omega))
              have hsz6 : w.heap.size + 1 ≤ w6.heap.size := hblk6.lt
              clear hc0 hc1 hc2 hc3 hblk5 hown5 hBw5 hB6 hsz5
              obtain ⟨hc0, hc1, hc2, hc3⟩ := hblk6.four
              go_wp2
              go_roundw
              case rel => exact ⟨j + 1, n6, c6, a6, _, v, by go_num, by omega, rfl, rfl, by omega, hvs, hown6, HST.out, hblk6, hsz6, hBw6⟩
              case measure => simp [intOf]; omega
            · have hfin := rowPost_bad HR.out (HNO.out (fun h => hft h.2)) hBw5
              have HFIN := Lib.hid hfin
              rw [decide_eq_false hft]
              clear hft hfin HYES HNO
              go_wp2
              go_ret2
              exact HFIN.out
        · have hfin := rowPost_bad HR.out (HNO.out (fun h => hbd h.1)) hBw2
          have HFIN := Lib.hid hfin
          rw [decide_eq_false hbd]
          clear hbd hfin
          go_wp2
          go_ret2
          exact HFIN.out
      · have hjn : j = n := by omega
        have hfin : RowPost w b h s d l (.returned (.tuple #[.slice a' n' c', .int .i64 0])) wr := rowPost_ok HR.out (by rw [HL.out, ← hjn]; exact HRUN.out) hown.len (by rw [HL.out]; omega) hown.rd hB
        have HFIN := Lib.hid hfin
        clear hfin hown
        subst hjn
        go_wp2
        go_ret2
        exact HFIN.out
  · have hD := Lib.hid (decide_eq_false hR)
    have HR := Lib.hid hR
    clear hR hr hi
    go_enter Try.func57, Try.ntmps57
    go_wp2_with fail
    refine (bRight_any b h s d _ hb0 hh0 hs0 hd0).mono ?_
    rw [hD.out]
    rintro e w1 ⟨rfl, hB⟩
    go_wp2
    go_ret2
    exact rowPost_wrong HR.out ((below_alloc _ _).trans (hB.mono (by simp)))
end Go.Proofs.Ytnmdgmjheopolaa
