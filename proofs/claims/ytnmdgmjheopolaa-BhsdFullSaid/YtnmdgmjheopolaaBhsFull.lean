/- The walk of BhsdFull. -/
import Derived.Test.YtnmdgmjheopolaaBhsQ
namespace Go.Proofs.Ytnmdgmjheopolaa
open Go.RowKit
set_option linter.unusedVariables false
set_option linter.unusedSimpArgs false

def fullV (s x : Int) : Int := if s = 0 then x else IntKind.i32.wrap x
theorem fullV_bound (s x : Int) (hs : s = 0 ∨ s = 1) (hx : 0 ≤ x ∧ x < 4294967296) : BoundC s (fullV s x) := by
  unfold BoundC fullV
  rcases hs with rfl | rfl
  · simp; omega
  · rw [if_neg (by omega), if_neg (by omega), IntKind.wrap_i32]; omega
theorem take_map_succ {l : List Int} {j : Nat} (hj : j < l.length) (f : Int → Int) : (l.take (j + 1)).map f = (l.take j).map f ++ [f l[j]] := by
  rw [List.take_succ_eq_append_getElem hj, List.map_append]; rfl
set_option maxHeartbeats 16000000 in
set_option maxRecDepth 100000 in
theorem walkBhsdFull (a0 : Option Addr) (n0 c0 : Nat) (l0 : List Int) (s8 d8 : Int) (w : World)
    (hl0 : l0.length = n0) (hm0 : n0 ≤ c0 ∧ c0 ≤ maxLen) (hr0 : Rd w (fun x => Value.int .u32 x) a0 l0) (hi0 : ∀ x ∈ l0, 0 ≤ x ∧ x < 4294967296) (hs8 : 0 ≤ s8 ∧ s8 < 256) (hd8 : 0 ≤ d8 ∧ d8 < 256) :
    Calls Try.prog 12 #[.slice a0 n0 c0, .int .u8 s8, .int .u8 d8] w fun e w' => e = .returned (.bool true) ∧ Below w.heap.size w w' := by
  unfold maxLen at hm0
  have HR := Lib.hid hr0
  have HI := Lib.hid hi0
  have HL := Lib.hid hl0
  clear hr0 hi0 hl0
  go_enter Try.func12, Try.ntmps12
  go_wp2_with fail
  refine (fixed24_any _).mono ?_
  rintro e w1 ⟨rfl, hb1⟩
  by_cases h100 : n0 > 100
  · go_wp2
    go_ret
    exact ⟨rfl, hb1⟩
  · have hs1 := hb1.size
    have hse : Int.tmod s8 2 = s8 % 2 := Int.tmod_eq_emod_of_nonneg (by omega)
    have hde : Int.tmod d8 2 = d8 % 2 := Int.tmod_eq_emod_of_nonneg (by omega)
    have hblk1 := Blk.new w1 23 #[.int .i64 5, .int .i64 64, .int .i64 (s8 % 2), .int .i64 (d8 % 2)]
    have hB1 := hb1.alloc hs1 (.cells #[.int .i64 5, .int .i64 64, .int .i64 (s8 % 2), .int .i64 (d8 % 2)] 23)
    have hsz1 : w1.heap.size < (w1.alloc (.cells #[.int .i64 5, .int .i64 64, .int .i64 (s8 % 2), .int .i64 (d8 % 2)] 23)).heap.size := hblk1.lt
    have HB1 := Lib.hid (And.intro hblk1 (And.intro hB1 hsz1))
    clear hb1 hblk1 hB1 hsz1
    have hmr : (0 ≤ s8 % 2 ∧ s8 % 2 < 2) ∧ (0 ≤ d8 % 2 ∧ d8 % 2 < 2) := by omega
    go_wp2
    generalize w1.alloc (.cells #[.int .i64 5, .int .i64 64, .int .i64 (s8 % 2), .int .i64 (d8 % 2)] 23) = w2 at HB1 ⊢
    have hs01 : s8 % 2 = 0 ∨ s8 % 2 = 1 := by omega
    have hd01 : d8 % 2 = 0 ∨ d8 % 2 = 1 := by omega
    have HS01 := Lib.hid hs01
    have HD01 := Lib.hid hd01
    generalize s8 % 2 = s at HB1 hmr HS01 ⊢
    generalize d8 % 2 = d at HB1 hmr HD01 ⊢
    clear hse hde hs01 hd01 hs8 hd8
    obtain ⟨hblk2, hB2, hsz2⟩ := HB1.out
    clear HB1
    go_loopw [8, 28] (fun x8 xi wr => ∃ (j c' : Nat) (a' : Option Addr), j ≤ n0 ∧ xi = .int .i64 j ∧ x8 = .slice a' j c' ∧ Own wr (w1.heap.size + 1) 3 iE a' j c' ((l0.take j).map (fullV s)) ∧ Blk wr w1.heap.size 23 #[.int .i64 5, .int .i64 64, .int .i64 s, .int .i64 d] ∧ Below w.heap.size w wr) (fun _ xi _ => n0 - (intOf xi).toNat)
    case atStart => exact ⟨0, 0, none, by omega, rfl, rfl, Own.nil, hblk2, hB2⟩
    case round =>
      clear hblk2 hB2 hsz2
      obtain ⟨j, c', a', hj, rfl, rfl, hown, hblk, hB⟩ := hrel
      obtain ⟨hc0, hc1, hc2, hc3⟩ := hblk.four
      have hszr : w1.heap.size + 1 ≤ wr.heap.size := hblk.lt
      by_cases hlt : j < n0
      · have hjl : j < l0.length := by rw [HL.out]; exact hlt
        obtain ⟨bq, oq, hq, -, cq⟩ := (HR.out.later hB).at (k := j) hjl
        subst hq
        have hx := HI.out l0[j] (List.getElem_mem hjl)
        have hst := take_map_succ hjl (fullV s)
        have HST := Lib.hid hst
        clear hst
        generalize l0[j] = x at cq hx HST
        have hrow := hown.rowB
        have HROW := Lib.hid hrow
        clear hrow
        rcases HS01.out with hs | hs
        · have hv : fullV s x = x := by unfold fullV; rw [if_pos hs]
          rw [hv] at HST
          have hs' : (s == 0) = true := beq_iff_eq.2 hs
          clear hv hs
          go_wp2_with (at_builtin; refine wpList_push slInt rfl _ _ rfl rfl rfl hown x ⟨wr.heap.size, 0, none⟩ rfl (cell_push rfl _ _) rfl (by omega) (by unfold maxLen; omega) hszr ?_; intro a5 c5 w5 hown5 hg5; have hblk5 := hblk.grown hg5 (fun e => by have := HROW.out _ e.symm; omega); have hB5 := (hB.grown hg5 hB.size (fun k hk => by have := HROW.out k hk; omega)); obtain ⟨hd0', hd1', hd2', hd3'⟩ := hblk5.four; clear hown hg5 hblk hB hc0 hc1 hc2 hc3)
          go_roundw
          case rel => exact ⟨j + 1, c5, a5, by omega, by go_num, rfl, by rw [HST.out]; exact hown5, hblk5, hB5⟩
          case measure => simp [intOf]; omega
        · have hv : fullV s x = IntKind.i32.wrap x := by unfold fullV; rw [if_neg (by omega)]
          have hwr : -2147483648 ≤ IntKind.i32.wrap x ∧ IntKind.i32.wrap x < 2147483648 := by rw [IntKind.wrap_i32]; omega
          rw [hv] at HST
          have hs' : (s == 0) = false := beq_eq_false_iff_ne.2 (by omega)
          have hw64 : IntKind.i64.wrap (IntKind.i32.wrap x) = IntKind.i32.wrap x := by
            generalize IntKind.i32.wrap x = y at hwr; rw [IntKind.wrap_i64]; omega
          have HCP : Hid (Value.int .i64 (wrap64 (wrap32 x)) = iE (IntKind.i32.wrap x)) := Lib.hid (congrArg (Value.int .i64) (show wrap64 (wrap32 x) = IntKind.i32.wrap x by rw [← IntWalk.i64_left, ← IntWalk.i32_left]; exact hw64))
          clear hw64
          have HWR := Lib.hid hwr
          clear hv hs
          go_wp2_with (at_builtin; refine wpList_push slInt rfl _ _ rfl rfl rfl hown (IntKind.i32.wrap x) ⟨wr.heap.size, 0, none⟩ rfl (cell_push HCP.out _ _) rfl (by omega) (by unfold maxLen; omega) hszr ?_; intro a5 c5 w5 hown5 hg5; have hblk5 := hblk.grown hg5 (fun e => by have := HROW.out _ e.symm; omega); have hB5 := (hB.grown hg5 hB.size (fun k hk => by have := HROW.out k hk; omega)); obtain ⟨hd0', hd1', hd2', hd3'⟩ := hblk5.four; clear hown hg5 hblk hB hc0 hc1 hc2 hc3)
          go_roundw
          case rel => exact ⟨j + 1, c5, a5, by omega, by go_num, rfl, by rw [HST.out]; exact hown5, hblk5, hB5⟩
          case measure => simp [intOf]; omega
      · have hjn : j = n0 := by omega
        have hall : (l0.take j).map (fullV s) = l0.map (fullV s) := by rw [List.take_of_length_le (by rw [HL.out]; omega)]
        rw [hall] at hown
        have hbnd : ∀ x ∈ l0.map (fullV s), BoundC s x := by
          intro x hx
          obtain ⟨y, hy, rfl⟩ := List.mem_map.1 hx
          exact fullV_bound s y HS01.out (HI.out y hy)
        have hin : ∀ x ∈ l0.map (fullV s), In64 x := fun x hx => by have := (hbnd x hx).small; unfold In64; omega
        have hR : RightC 5 64 s d := by
          rcases HS01.out with hs | hs <;> rcases HD01.out with hd | hd <;> subst hs <;> subst hd <;> decide
        have her : rowErr 5 64 s d (l0.map (fullV s)) = 0 := by
          unfold rowErr; rw [if_pos hR, if_pos (row_full s d HS01.out HD01.out _ _ _ hbnd)]
        have hlen : (l0.map (fullV s)).length = j := by rw [List.length_map, HL.out, hjn]
        have HLEN := Lib.hid hlen
        have HIN := Lib.hid hin
        have HBK := Lib.hid (row_back 5 64 s d _ her)
        have HER := Lib.hid her
        clear hbnd hall hin hR her hlen
        generalize l0.map (fullV s) = all at *
        have hrd := hown.rd
        have HRD := Lib.hid hrd
        subst hjn
        clear hown hrd
        go_wp2_with fail
        refine (bRow_any a' j c' all 5 64 s d wr HLEN.out (by omega) HRD.out HIN.out (by decide) (by decide) (by unfold In64; omega) (by unfold In64; omega)).mono ?_
        unfold RowPost
        rw [HER.out]
        rintro e w3 ⟨a3, n3, c3, rfl, hl3, hn3, hr3, hb3⟩
        rw [HLEN.out] at hn3
        have hblk3 := hblk.below hb3
        have hB3 := hB.trans (hb3.mono hB.size)
        have hW3 := hb3
        clear hc0 hc1 hc2 hc3 hblk hB hb3
        obtain ⟨hc0, hc1, hc2, hc3⟩ := hblk3.four
        have HL3 := Lib.hid hl3
        clear hl3
        generalize rowRes 5 64 s d all = R at *
        go_wp2_with fail
        refine (cNew_any a3 n3 c3 R w3 HL3.out (by omega) hr3).mono ?_
        rintro e w4 ⟨g, rfl, hg, hcu4, hb4⟩
        have hblk4 := hblk3.below hb4
        have hB4 := hB3.trans (hb4.mono hB3.size)
        have hW4 := hW3.trans (hb4.mono hW3.size)
        have hgs := hW3.size
        have hgs2 := hB3.size
        have hgl := hcu4.lt
        clear hc0 hc1 hc2 hc3 hblk3 hB3 hb4 hr3 hW3
        obtain ⟨hc0, hc1, hc2, hc3⟩ := hblk4.four
        go_wp2_with fail
        refine (bReadRow_any g R 0 0 5 64 s d j w4 hcu4 (by decide) (by decide) (by unfold In64; omega) (by unfold In64; omega) (by unfold In64; omega)).mono ?_
        unfold RdPost
        rw [show ((j : Nat) : Int) = (all.length : Int) by rw [HLEN.out], HBK.out]
        rintro e w5 ⟨a5, k5, c5, rfl, hl5, hk5, hown5, hcu5, hg5⟩
        have hB5 := below_of_grown' hB4 hB4.size hg5 (by omega)
        have hW5 := below_of_grown' hW4 hW4.size hg5 (by omega)
        clear hc0 hc1 hc2 hc3 hblk4 hcu4 hB4 hg5 hW4
        have hrd5 := hown5.rd
        clear hown5
        go_wp2_with fail
        refine (same24_any a5 k5 c5 all a' j c' all w5 hl5 HLEN.out hk5 (by omega) hrd5 (HRD.out.later hW5)).mono ?_
        rw [decide_eq_true rfl]
        rintro e w6 ⟨rfl, hb6⟩
        have hcu6 := hcu5.below hb6
        have hB6 := hB5.trans (hb6.mono hB5.size)
        clear hcu5 hB5 hb6 hrd5 hW5
        go_wp2_with fail
        refine (cEnd_any g R _ 0 w6 hcu6).mono ?_
        rintro e w7 ⟨rfl, hcu7, hg7⟩
        have hB7 := below_of_grown' hB6 hB6.size hg7 (by omega)
        rw [show endEr R.length R.length 0 = 0 by unfold endEr; rw [if_neg (by omega)]]
        clear hcu7 hg7 hcu6 hB6
        go_wp2
        go_ret
        exact ⟨ret_bool (by simp; omega), hB7⟩
end Go.Proofs.Ytnmdgmjheopolaa
