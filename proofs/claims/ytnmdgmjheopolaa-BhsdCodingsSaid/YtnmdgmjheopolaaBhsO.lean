/- packsaddleref24.ReadRow. -/
import Derived.Test.YtnmdgmjheopolaaBhsN
namespace Go.Proofs.Ytnmdgmjheopolaa
open Go.RowKit
set_option linter.unusedVariables false
set_option linter.unusedSimpArgs false

set_option maxRecDepth 100000 in
set_option maxHeartbeats 16000000 in
theorem rReadRow_any (g : Nat) (l : List UInt8) (p : Nat) (er b h s d n : Int) (w : World) (hc : RefOk w g l p er) (hb0 : In64 b) (hh0 : In64 h) (hs0 : In64 s) (hd0 : In64 d) (hn0 : In64 n) :
  Calls Try.prog 53 #[.pointer (some ⟨g, 0, none⟩), .agg #[.int .i64 b, .int .i64 h, .int .i64 s, .int .i64 d], .int .i64 n] w (RRdPost w g b h s d l n p er) := by
  have hgl := hc.lt
  have hpl := hc.lenB
  have hcA := hc.below (below_alloc w (.cells #[.int .i64 b, .int .i64 h, .int .i64 s, .int .i64 d] 23))
  have hgA := grownBy_of_below (some g) (below_alloc w (.cells #[.int .i64 b, .int .i64 h, .int .i64 s, .int .i64 d] 23))
  have hEA := hcA.cellE
  have hfA := hcA.frozenE
  by_cases her : er = 0
  · subst her
    by_cases hn : n < 0
    · have hres : rdRes b h s d l n p 0 = ([], p, 1) := rdRes_arg (.inl hn)
      have HF0 : Hid (∀ w', RefOk w' g l p 1 → w.grownBy w' (some g) → RRdPost w g b h s d l n p 0 (.returned (.slice none 0 0)) w') := Lib.hid (fun w' h1 h2 => ⟨none, 0, 0, rfl, by rw [hres]; rfl, by omega, by rw [hres]; exact Own.nil, by rw [hres]; exact h1, h2⟩)
      have hcS := (hc.setE 1).below (below_alloc _ (.cells #[.int .i64 b, .int .i64 h, .int .i64 s, .int .i64 d] 23))
      have HF := Lib.hid (HF0.out _ hcS (grownBy_trans (grownBy_setCell w ⟨g, 2, none⟩ (.int .i64 1)) (grownBy_of_below _ (below_alloc _ (.cells #[.int .i64 b, .int .i64 h, .int .i64 s, .int .i64 d] 23)))))
      have hE1 := hcS.cellE
      clear hres HF0 hcA hgA hcS
      go_enter Try.func53, Try.ntmps53
      go_wp2
      go_loopw [7, 8, 9] (fun x7 x8 x9 wr => x7 = .slice none 0 0 ∧ x8 = .int .i64 0 ∧ x9 = .int .i64 0 ∧ wr = (w.setCell ⟨g, 2, none⟩ (.int .i64 1)).alloc (.cells #[.int .i64 b, .int .i64 h, .int .i64 s, .int .i64 d] 23)) (fun _ _ _ _ => 0)
      case atStart => exact ⟨rfl, rfl, rfl, rfl⟩
      case round =>
        obtain ⟨rfl, rfl, rfl, rfl⟩ := hrel
        have hn2 : ¬ (0 : Int) < n := by omega
        go_wp2
        go_ret
        exact HF.out
    · by_cases hR : RightC b h s d
      · obtain ⟨N, rfl⟩ := Int.eq_ofNat_of_zero_le (show 0 ≤ n by omega)
        have hD := Lib.hid (decide_eq_true hR)
        have HR := Lib.hid hR
        clear hR hn
        have hn1 : ¬ ((N : Int) < 0) := by omega
        have hn2 := hn0.2
        go_enter Try.func53, Try.ntmps53
        go_wp2_with fail
        refine (rRight_any b h s d _ hb0 hh0 hs0 hd0).mono ?_
        rw [hD.out]
        rintro e w1 ⟨rfl, hB⟩
        obtain ⟨hblk, hc0, hc1, hc2, hc3, hB1⟩ := cod_cells hB
        have hcw := hc.below hB1
        have hg1 := grownBy_of_below (some g) hB1
        have hsz1 : w.heap.size + 1 ≤ w1.heap.size := hblk.lt
        clear hB hcA hgA hEA hfA
        go_wp2
        go_loopw [7, 8, 9] (fun x7 x8 x9 wr => ∃ (k p1 c' : Nat) (a' : Option Addr) (out : List Int) (last er : Int), x9 = .int .i64 k ∧ x7 = .slice a' k c' ∧ x8 = .int .i64 last ∧ RdSt b h s d l p N k p1 last out er ∧ Own wr (w.heap.size + 1) 3 iE a' k c' out ∧ RefOk wr g l p1 er ∧ Blk wr w.heap.size 23 #[.int .i64 b, .int .i64 h, .int .i64 s, .int .i64 d] ∧ w.heap.size + 1 ≤ wr.heap.size ∧ w.grownBy wr (some g)) (fun _ _ x9 _ => N - (intOf x9).toNat)
        case atStart => exact ⟨0, p, 0, none, [], 0, 0, rfl, rfl, rfl, RdSt.start, Own.nil, hcw, hblk, hsz1, hg1⟩
        case round =>
          clear hc0 hc1 hc2 hc3 hblk hcw hg1 hB1 hsz1 hc
          obtain ⟨k, p1, c', a', out, last, er, rfl, rfl, rfl, hst, hown, hcu, hblk, hszr, hgr⟩ := hrel
          obtain ⟨hc0, hc1, hc2, hc3⟩ := hblk.four
          have hlen := hcu.lenB
          have hkN := hst.le
          have hk1 := hst.kp.1
          have hE := hcu.cellE
          by_cases he : er = 0
          · subst he
            by_cases hlt : k < N
            · have hsm := hst.small rfl
              have HNX := Lib.hid (hst.next HR.out hlt)
              go_wp2_with fail
              clear hE
              refine (rGet_any g l p1 0 b h s d _ hcu hb0 hh0 hs0 hd0).mono ?_
              rintro e w2 ⟨rfl, hcu2, hg2⟩
              have hblk2 := hblk.grown hg2 (by simp; omega)
              have hown2 := hown.grownB hg2 (fun j e => by simp at e; omega)
              have hgr2 := grownBy_trans hgr hg2
              have hvs := gotV_small b h s d l p1 0
              have hlen2 := hcu2.lenB
              clear hc0 hc1 hc2 hc3 hblk hown hgr hg2 hcu
              generalize gotV b h s d l p1 0 = v at HNX hvs ⊢
              generalize gotP b h s d l p1 0 = p2 at HNX hcu2 hlen2
              generalize gotE b h s d l p1 0 = e1 at HNX hcu2
              clear hst
              obtain ⟨hc0, hc1, hc2, hc3⟩ := hblk2.four
              have hE := hcu2.cellE
              have hf := hcu2.frozenE
              by_cases he1 : e1 = 0
              · subst he1
                go_wp2_with fail
                refine (rBound_any b h s d v _ (by unfold In64; omega)).mono ?_
                rintro e w3 ⟨rfl, hB3⟩
                have hcu3 := hcu2.below hB3
                have hblk3 := hblk2.below hB3
                have hown3 := hown2.below hB3
                have hgr3 := grownBy_trans hgr2 (grownBy_of_below (some g) hB3)
                clear hc0 hc1 hc2 hc3 hcu2 hblk2 hown2 hgr2 hB3 hE hf
                obtain ⟨hc0, hc1, hc2, hc3⟩ := hblk3.four
                by_cases hbd : BoundC s v
                · rw [if_neg (by simp [hbd])] at HNX
                  rw [decide_eq_true hbd]
                  clear hbd
                  by_cases hd1 : d = 1
                  · have hw : gotW s d last v = roundC s (last + v) := if_pos hd1
                    rw [hw] at HNX
                    clear hw
                    have hd1' : (d == 1) = true := beq_iff_eq.2 hd1
                    clear hd1
                    go_wp2_with fail
                    refine (rRound_any b h s d (last + v) _ (by omega)).mono ?_
                    rintro e w4 ⟨rfl, hB4⟩
                    have hcu4 := hcu3.below hB4
                    have hblk4 := hblk3.below hB4
                    have hown4 := hown3.below hB4
                    have hgr4 := grownBy_trans hgr3 (grownBy_of_below (some g) hB4)
                    clear hc0 hc1 hc2 hc3 hcu3 hblk3 hown3 hgr3 hB4
                    obtain ⟨hc0, hc1, hc2, hc3⟩ := hblk4.four
                    obtain ⟨y, hy⟩ : ∃ y, y = roundC s (last + v) := ⟨_, rfl⟩
                    rw [← hy] at HNX ⊢
                    clear hy
                    have hrow4 := hown4.rowB
                    have hblkn : some w.heap.size ≠ (Value.slice a' k c').ownBlock := fun e => by have := hrow4 w.heap.size e.symm; omega
                    have hcurn : ∀ j, (Value.slice a' k c').ownBlock = some j → g < j := fun j e => by have := hrow4 j e; omega
                    have hnewn : ∀ j, (Value.slice a' k c').ownBlock = some j → w.heap.size ≤ j := fun j e => by have := hrow4 j e; omega
                    have hsz4 : w.heap.size + 1 ≤ w4.heap.size := hblk4.lt
                    have HROW := Lib.hid (And.intro hblkn (And.intro hcurn hnewn))
                    clear hrow4 hblkn hcurn hnewn
                    go_wp2_with (at_builtin; refine wpList_push slInt rfl _ _ rfl rfl rfl hown4 y ⟨w4.heap.size, 0, none⟩ rfl (cell_push rfl _ _) rfl (by omega) (by unfold maxLen; omega) hsz4 ?_; intro a5 c5 w5 hown5 hg5; have hcu5 := hcu4.grown hg5 HROW.out.2.1; have hblk5 := hblk4.grown hg5 HROW.out.1; have hgr5 := grownBy_trans_new hgr4 hg5 HROW.out.2.2; have hsz5 : w.heap.size + 1 ≤ w5.heap.size := hblk5.lt; obtain ⟨hd0', hd1', hd2', hd3'⟩ := hblk5.four; clear hown4 hg5 hcu4 hblk4 hgr4 hsz4 hc0 hc1 hc2 hc3)
                    go_roundw
                    case rel => exact ⟨k + 1, p2, c5, a5, _, _, 0, by go_num, rfl, rfl, HNX.out, hown5, hcu5, hblk5, hsz5, hgr5⟩
                    case measure => simp [intOf]; omega
                  · have hw : gotW s d last v = v := if_neg hd1
                    rw [hw] at HNX
                    clear hw
                    have hd1' : (d == 1) = false := beq_eq_false_iff_ne.2 hd1
                    clear hd1
                    obtain ⟨w4, hw4⟩ : ∃ w4, w4 = w3 := ⟨_, rfl⟩
                    subst hw4
                    have hcu4 := hcu3
                    have hblk4 := hblk3
                    have hown4 := hown3
                    have hgr4 := hgr3
                    clear hcu3 hblk3 hown3 hgr3
                    have hrow4 := hown4.rowB
                    have hblkn : some w.heap.size ≠ (Value.slice a' k c').ownBlock := fun e => by have := hrow4 w.heap.size e.symm; omega
                    have hcurn : ∀ j, (Value.slice a' k c').ownBlock = some j → g < j := fun j e => by have := hrow4 j e; omega
                    have hnewn : ∀ j, (Value.slice a' k c').ownBlock = some j → w.heap.size ≤ j := fun j e => by have := hrow4 j e; omega
                    have hsz4 : w.heap.size + 1 ≤ w4.heap.size := hblk4.lt
                    have HROW := Lib.hid (And.intro hblkn (And.intro hcurn hnewn))
                    clear hrow4 hblkn hcurn hnewn
                    go_wp2_with (at_builtin; refine wpList_push slInt rfl _ _ rfl rfl rfl hown4 v ⟨w4.heap.size, 0, none⟩ rfl (cell_push rfl _ _) rfl (by omega) (by unfold maxLen; omega) hsz4 ?_; intro a5 c5 w5 hown5 hg5; have hcu5 := hcu4.grown hg5 HROW.out.2.1; have hblk5 := hblk4.grown hg5 HROW.out.1; have hgr5 := grownBy_trans_new hgr4 hg5 HROW.out.2.2; have hsz5 : w.heap.size + 1 ≤ w5.heap.size := hblk5.lt; obtain ⟨hd0', hd1', hd2', hd3'⟩ := hblk5.four; clear hown4 hg5 hcu4 hblk4 hgr4 hsz4 hc0 hc1 hc2 hc3)
                    go_roundw
                    case rel => exact ⟨k + 1, p2, c5, a5, _, _, 0, by go_num, rfl, rfl, HNX.out, hown5, hcu5, hblk5, hsz5, hgr5⟩
                    case measure => simp [intOf]; omega
                · rw [if_pos (by simp [hbd])] at HNX
                  rw [decide_eq_false hbd]
                  clear hbd
                  have hE := hcu3.cellE
                  have hf := hcu3.frozenE
                  have hgs := grownBy_setCell w3 ⟨g, 2, none⟩ (.int .i64 5)
                  have hcu3b := hcu3.setE 5
                  have hblk3b := hblk3.grown hgs (by simp; omega)
                  have hown3b := hown3.grownB hgs (fun j e => by simp at e; omega)
                  have hgr3b := grownBy_trans hgr3 hgs
                  have HGS := Lib.hid (And.intro hcu3b (And.intro hblk3b (And.intro hown3b hgr3b)))
                  clear hcu3 hblk3 hown3 hgr3 hgs hcu3b hblk3b hown3b hgr3b
                  by_cases hd1 : d = 1
                  · have hw : gotW s d last v = roundC s (last + v) := if_pos hd1
                    rw [hw] at HNX
                    clear hw
                    have hd1' : (d == 1) = true := beq_iff_eq.2 hd1
                    clear hd1
                    go_wp2_with fail
                    refine (rRound_any b h s d (last + v) _ (by omega)).mono ?_
                    rintro e w4 ⟨rfl, hB4⟩
                    have hcu4 := HGS.out.1.below hB4
                    have hblk4 := HGS.out.2.1.below hB4
                    have hown4 := HGS.out.2.2.1.below hB4
                    have hgr4 := grownBy_trans HGS.out.2.2.2 (grownBy_of_below (some g) hB4)
                    clear hc0 hc1 hc2 hc3 hB4 hE hf HGS
                    obtain ⟨hc0, hc1, hc2, hc3⟩ := hblk4.four
                    obtain ⟨y, hy⟩ : ∃ y, y = roundC s (last + v) := ⟨_, rfl⟩
                    rw [← hy] at HNX ⊢
                    clear hy
                    have hrow4 := hown4.rowB
                    have hblkn : some w.heap.size ≠ (Value.slice a' k c').ownBlock := fun e => by have := hrow4 w.heap.size e.symm; omega
                    have hcurn : ∀ j, (Value.slice a' k c').ownBlock = some j → g < j := fun j e => by have := hrow4 j e; omega
                    have hnewn : ∀ j, (Value.slice a' k c').ownBlock = some j → w.heap.size ≤ j := fun j e => by have := hrow4 j e; omega
                    have hsz4 : w.heap.size + 1 ≤ w4.heap.size := hblk4.lt
                    have HROW := Lib.hid (And.intro hblkn (And.intro hcurn hnewn))
                    clear hrow4 hblkn hcurn hnewn
                    go_wp2_with (at_builtin; refine wpList_push slInt rfl _ _ rfl rfl rfl hown4 y ⟨w4.heap.size, 0, none⟩ rfl (cell_push rfl _ _) rfl (by omega) (by unfold maxLen; omega) hsz4 ?_; intro a5 c5 w5 hown5 hg5; have hcu5 := hcu4.grown hg5 HROW.out.2.1; have hblk5 := hblk4.grown hg5 HROW.out.1; have hgr5 := grownBy_trans_new hgr4 hg5 HROW.out.2.2; have hsz5 : w.heap.size + 1 ≤ w5.heap.size := hblk5.lt; obtain ⟨hd0', hd1', hd2', hd3'⟩ := hblk5.four; clear hown4 hg5 hcu4 hblk4 hgr4 hsz4 hc0 hc1 hc2 hc3)
                    go_roundw
                    case rel => exact ⟨k + 1, p2, c5, a5, _, _, 5, by go_num, rfl, rfl, HNX.out, hown5, hcu5, hblk5, hsz5, hgr5⟩
                    case measure => simp [intOf]; omega
                  · have hw : gotW s d last v = v := if_neg hd1
                    rw [hw] at HNX
                    clear hw
                    have hd1' : (d == 1) = false := beq_eq_false_iff_ne.2 hd1
                    clear hd1
                    have hcu4 := HGS.out.1
                    have hblk4 := HGS.out.2.1
                    have hown4 := HGS.out.2.2.1
                    have hgr4 := HGS.out.2.2.2
                    clear HGS
                    have hrow4 := hown4.rowB
                    have hblkn : some w.heap.size ≠ (Value.slice a' k c').ownBlock := fun e => by have := hrow4 w.heap.size e.symm; omega
                    have hcurn : ∀ j, (Value.slice a' k c').ownBlock = some j → g < j := fun j e => by have := hrow4 j e; omega
                    have hnewn : ∀ j, (Value.slice a' k c').ownBlock = some j → w.heap.size ≤ j := fun j e => by have := hrow4 j e; omega
                    have hsz4 : w.heap.size + 1 ≤ (w3.setCell ⟨g, 2, none⟩ (.int .i64 5)).heap.size := hblk4.lt
                    have HROW := Lib.hid (And.intro hblkn (And.intro hcurn hnewn))
                    clear hrow4 hblkn hcurn hnewn
                    go_wp2_with (at_builtin; refine wpList_push slInt rfl _ _ rfl rfl rfl hown4 v ⟨w3.heap.size, 0, none⟩ rfl (by have h9 := cell_push (u := iE v) rfl (w3.setCell ⟨g, 2, none⟩ (.int .i64 5)) 3; rw [show (w3.setCell ⟨g, 2, none⟩ (.int .i64 5)).heap.size = w3.heap.size by simp] at h9; exact h9) rfl (by omega) (by unfold maxLen; omega) hsz4 ?_; intro a5 c5 w5 hown5 hg5; have hcu5 := hcu4.grown hg5 HROW.out.2.1; have hblk5 := hblk4.grown hg5 HROW.out.1; have hgr5 := grownBy_trans_new hgr4 hg5 HROW.out.2.2; have hsz5 : w.heap.size + 1 ≤ w5.heap.size := hblk5.lt; obtain ⟨hd0', hd1', hd2', hd3'⟩ := hblk5.four; clear hown4 hg5 hcu4 hblk4 hgr4 hsz4 hc0 hc1 hc2 hc3)
                    go_roundw
                    case rel => exact ⟨k + 1, p2, c5, a5, _, _, 5, by go_num, rfl, rfl, HNX.out, hown5, hcu5, hblk5, hsz5, hgr5⟩
                    case measure => simp [intOf]; omega
              · rw [if_neg (by simp [he1])] at HNX
                have he1' : (e1 == 0) = false := beq_eq_false_iff_ne.2 he1
                clear he1
                by_cases hd1 : d = 1
                · have hw : gotW s d last v = roundC s (last + v) := if_pos hd1
                  rw [hw] at HNX
                  clear hw
                  have hd1' : (d == 1) = true := beq_iff_eq.2 hd1
                  clear hd1
                  go_wp2_with fail
                  refine (rRound_any b h s d (last + v) _ (by omega)).mono ?_
                  rintro e w4 ⟨rfl, hB4⟩
                  have hcu4 := hcu2.below hB4
                  have hblk4 := hblk2.below hB4
                  have hown4 := hown2.below hB4
                  have hgr4 := grownBy_trans hgr2 (grownBy_of_below (some g) hB4)
                  clear hE hf hc0 hc1 hc2 hc3 hcu2 hblk2 hown2 hgr2 hB4
                  obtain ⟨hc0, hc1, hc2, hc3⟩ := hblk4.four
                  obtain ⟨y, hy⟩ : ∃ y, y = roundC s (last + v) := ⟨_, rfl⟩
                  rw [← hy] at HNX ⊢
                  clear hy
                  have hrow4 := hown4.rowB
                  have hblkn : some w.heap.size ≠ (Value.slice a' k c').ownBlock := fun e => by have := hrow4 w.heap.size e.symm; omega
                  have hcurn : ∀ j, (Value.slice a' k c').ownBlock = some j → g < j := fun j e => by have := hrow4 j e; omega
                  have hnewn : ∀ j, (Value.slice a' k c').ownBlock = some j → w.heap.size ≤ j := fun j e => by have := hrow4 j e; omega
                  have hsz4 : w.heap.size + 1 ≤ w4.heap.size := hblk4.lt
                  have HROW := Lib.hid (And.intro hblkn (And.intro hcurn hnewn))
                  clear hrow4 hblkn hcurn hnewn
                  go_wp2_with (at_builtin; refine wpList_push slInt rfl _ _ rfl rfl rfl hown4 y ⟨w4.heap.size, 0, none⟩ rfl (cell_push rfl _ _) rfl (by omega) (by unfold maxLen; omega) hsz4 ?_; intro a5 c5 w5 hown5 hg5; have hcu5 := hcu4.grown hg5 HROW.out.2.1; have hblk5 := hblk4.grown hg5 HROW.out.1; have hgr5 := grownBy_trans_new hgr4 hg5 HROW.out.2.2; have hsz5 : w.heap.size + 1 ≤ w5.heap.size := hblk5.lt; obtain ⟨hd0', hd1', hd2', hd3'⟩ := hblk5.four; clear hown4 hg5 hcu4 hblk4 hgr4 hsz4 hc0 hc1 hc2 hc3)
                  go_roundw
                  case rel => exact ⟨k + 1, p2, c5, a5, _, _, e1, by go_num, rfl, rfl, HNX.out, hown5, hcu5, hblk5, hsz5, hgr5⟩
                  case measure => simp [intOf]; omega
                · have hw : gotW s d last v = v := if_neg hd1
                  rw [hw] at HNX
                  clear hw
                  have hd1' : (d == 1) = false := beq_eq_false_iff_ne.2 hd1
                  clear hd1
                  obtain ⟨w4, hw4⟩ : ∃ w4, w4 = w2 := ⟨_, rfl⟩
                  subst hw4
                  have hcu4 := hcu2
                  have hblk4 := hblk2
                  have hown4 := hown2
                  have hgr4 := hgr2
                  clear hcu2 hblk2 hown2 hgr2
                  have hrow4 := hown4.rowB
                  have hblkn : some w.heap.size ≠ (Value.slice a' k c').ownBlock := fun e => by have := hrow4 w.heap.size e.symm; omega
                  have hcurn : ∀ j, (Value.slice a' k c').ownBlock = some j → g < j := fun j e => by have := hrow4 j e; omega
                  have hnewn : ∀ j, (Value.slice a' k c').ownBlock = some j → w.heap.size ≤ j := fun j e => by have := hrow4 j e; omega
                  have hsz4 : w.heap.size + 1 ≤ w4.heap.size := hblk4.lt
                  have HROW := Lib.hid (And.intro hblkn (And.intro hcurn hnewn))
                  clear hrow4 hblkn hcurn hnewn
                  go_wp2_with (at_builtin; refine wpList_push slInt rfl _ _ rfl rfl rfl hown4 v ⟨w4.heap.size, 0, none⟩ rfl (cell_push rfl _ _) rfl (by omega) (by unfold maxLen; omega) hsz4 ?_; intro a5 c5 w5 hown5 hg5; have hcu5 := hcu4.grown hg5 HROW.out.2.1; have hblk5 := hblk4.grown hg5 HROW.out.1; have hgr5 := grownBy_trans_new hgr4 hg5 HROW.out.2.2; have hsz5 : w.heap.size + 1 ≤ w5.heap.size := hblk5.lt; obtain ⟨hd0', hd1', hd2', hd3'⟩ := hblk5.four; clear hown4 hg5 hcu4 hblk4 hgr4 hsz4 hc0 hc1 hc2 hc3)
                  go_roundw
                  case rel => exact ⟨k + 1, p2, c5, a5, _, _, e1, by go_num, rfl, rfl, HNX.out, hown5, hcu5, hblk5, hsz5, hgr5⟩
                  case measure => simp [intOf]; omega
            · have hfin := rdRes_full HR.out hst hlt
              have HF : Hid (RRdPost w g b h s d l N p 0 (.returned (.slice a' k c')) wr) := Lib.hid ⟨a', k, c', rfl, by rw [hfin]; exact hown.len, by omega, by rw [hfin]; exact hown.mono (by omega), by rw [hfin]; exact hcu, hgr⟩
              have hkN2 : k = N := by omega
              clear hfin hst hown
              subst hkN2
              go_wp2
              go_ret
              exact HF.out
          · have hfin := rdRes_bad HR.out hst he
            have HF : Hid (RRdPost w g b h s d l N p 0 (.returned (.slice none 0 0)) wr) := Lib.hid ⟨none, 0, 0, rfl, by rw [hfin]; rfl, by omega, by rw [hfin]; exact Own.nil, by rw [hfin]; exact hcu, hgr⟩
            have hne' : (er == 0) = false := beq_eq_false_iff_ne.2 he
            have hne2 : (er != 0) = true := bne_iff_ne.2 he
            clear hfin hst hown he
            by_cases hlt : k < N
            · go_wp2
              go_ret
              exact HF.out
            · go_wp2
              go_ret
              exact HF.out
      · have hD := Lib.hid (decide_eq_false hR)
        have hres : rdRes b h s d l n p 0 = ([], p, 1) := rdRes_arg (.inr hR)
        have HF0 : Hid (∀ w', RefOk w' g l p 1 → w.grownBy w' (some g) → RRdPost w g b h s d l n p 0 (.returned (.slice none 0 0)) w') := Lib.hid (fun w' h1 h2 => ⟨none, 0, 0, rfl, by rw [hres]; rfl, by omega, by rw [hres]; exact Own.nil, by rw [hres]; exact h1, h2⟩)
        clear hres hR
        go_enter Try.func53, Try.ntmps53
        go_wp2_with fail
        refine (rRight_any b h s d _ hb0 hh0 hs0 hd0).mono ?_
        rw [hD.out]
        rintro e w1 ⟨rfl, hB⟩
        have hcw := hcA.below hB
        have hg1 := grownBy_of_below (some g) ((below_alloc w _).trans (hB.mono (by simp)))
        have hE := hcw.cellE
        have hf := hcw.frozenE
        have HF := Lib.hid (HF0.out _ (hcw.setE 1) (grownBy_trans hg1 (grownBy_setCell w1 ⟨g, 2, none⟩ (.int .i64 1))))
        have hE1 := (hcw.setE 1).cellE
        clear HF0 hB hEA hfA hcA hcw hg1 hgA hc
        go_wp2
        go_loopw [7, 8, 9] (fun x7 x8 x9 wr => x7 = .slice none 0 0 ∧ x8 = .int .i64 0 ∧ x9 = .int .i64 0 ∧ wr = w1.setCell ⟨g, 2, none⟩ (.int .i64 1)) (fun _ _ _ _ => 0)
        case atStart => exact ⟨rfl, rfl, rfl, rfl⟩
        case round =>
          obtain ⟨rfl, rfl, rfl, rfl⟩ := hrel
          by_cases hnn : 0 < n
          · go_wp2
            go_ret
            exact HF.out
          · go_wp2
            go_ret
            exact HF.out
  · have hres : rdRes b h s d l n p er = ([], p, er) := rdRes_er her
    have HF : Hid (RRdPost w g b h s d l n p er (.returned (.slice none 0 0)) (w.alloc (.cells #[.int .i64 b, .int .i64 h, .int .i64 s, .int .i64 d] 23))) := Lib.hid ⟨none, 0, 0, rfl, by rw [hres]; rfl, by omega, by rw [hres]; exact Own.nil, by rw [hres]; exact hcA, hgA⟩
    have hne' : (er == 0) = false := beq_eq_false_iff_ne.2 her
    have hne2 : (er != 0) = true := bne_iff_ne.2 her
    clear hres her hcA hgA hc
    go_enter Try.func53, Try.ntmps53
    go_wp2
    go_loopw [7, 8, 9] (fun x7 x8 x9 wr => x7 = .slice none 0 0 ∧ x8 = .int .i64 0 ∧ x9 = .int .i64 0 ∧ wr = w.alloc (.cells #[.int .i64 b, .int .i64 h, .int .i64 s, .int .i64 d] 23)) (fun _ _ _ _ => 0)
    case atStart => exact ⟨rfl, rfl, rfl, rfl⟩
    case round =>
      obtain ⟨rfl, rfl, rfl, rfl⟩ := hrel
      by_cases hnn : 0 < n
      · go_wp2
        go_ret
        exact HF.out
      · go_wp2
        go_ret
        exact HF.out
end Go.Proofs.Ytnmdgmjheopolaa
