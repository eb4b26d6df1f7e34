/- packsaddlelaw24: same, fixed. -/
import Derived.Test.YtnmdgmjheopolaaBhsO
import Derived.Test.YtnmdgmjheopolaaCurOB
import Derived.Test.YtnmdgmjheopolaaStr
namespace Go.Proofs.Ytnmdgmjheopolaa
open Go.RowKit
set_option linter.unusedVariables false
set_option linter.unusedSimpArgs false

set_option maxRecDepth 100000 in
set_option maxHeartbeats 4000000 in
theorem same24_any (a : Option Addr) (n c : Nat) (l : List Int) (b : Option Addr) (m d : Nat) (k : List Int) (w : World) (hl : l.length = n) (hk : k.length = m) (hn : n ≤ 1000000000001) (hm : m ≤ 1000000000001) (hr : Rd w (fun x => Value.int .i64 x) a l) (hq : Rd w (fun x => Value.int .i64 x) b k) :
  Calls Try.prog 51 #[.slice a n c, .slice b m d] w fun e w' => e = .returned (.bool (decide (l = k))) ∧ Below w.heap.size w w' := by
  by_cases hlen : n = m
  · subst hlen
    go_enter Try.func51, Try.ntmps51
    have HL := Lib.hid hl
    have HK := Lib.hid hk
    clear hl hk
    go_wp2
    go_loopw [13] (fun i wr => ∃ j : Nat, j ≤ n ∧ i = .int .i64 j ∧ l.take j = k.take j ∧ Below w.heap.size w wr) (fun i _ => n - (intOf i).toNat)
    case atStart => exact ⟨0, by omega, rfl, by simp, Below.refl _ _⟩
    case round =>
      obtain ⟨j, hj, rfl, heq, hB⟩ := hrel
      have HE := Lib.hid heq
      clear heq
      by_cases hlt : j < n
      · have hjl : j < l.length := by rw [HL.out]; exact hlt
        have hjk : j < k.length := by rw [HK.out]; exact hlt
        obtain ⟨b1, o1, rfl, -, c1⟩ := (hr.below hB).at (k := j) hjl
        obtain ⟨b2, o2, rfl, -, c2⟩ := (hq.below hB).at (k := j) hjk
        have HR := Lib.hid hr
        have HQ := Lib.hid hq
        clear hr hq
        by_cases hx : l[j] = k[j]
        · have hst : l.take (j + 1) = k.take (j + 1) := by rw [List.take_succ_eq_append_getElem hjl, List.take_succ_eq_append_getElem hjk, HE.out, hx]
          have HST := Lib.hid hst
          rw [hx] at c1
          clear hst hx
          generalize k[j] = y at c1 c2
          go_wp2
          go_quiet (fail)
          go_wp2
          go_roundw
          case rel => exact ⟨j + 1, by omega, by go_num, HST.out, hB.trans (below_drewN _ _ _)⟩
          case measure => simp [intOf]; omega
        · have hne : ¬ l = k := fun e => hx (by subst e; rfl)
          have hxb : (l[j] != k[j]) = true := bne_iff_ne.2 hx
          have HF : Hid (decide (l = k) = false) := Lib.hid (decide_eq_false hne)
          clear hx hne
          generalize l[j] = x at c1 hxb
          generalize k[j] = y at c2 hxb
          go_wp2
          go_quiet (fail)
          go_wp2
          go_ret
          exact ⟨ret_bool HF.out.symm, hB.trans (below_drewN _ _ _)⟩
      · have hj' : n = j := by omega
        have hfin : l = k := by
          have := HE.out
          rw [List.take_of_length_le (by rw [HL.out]; omega), List.take_of_length_le (by rw [HK.out]; omega)] at this
          exact this
        have HF : Hid (decide (l = k) = true) := Lib.hid (decide_eq_true hfin)
        clear hfin
        subst hj'
        go_wp2
        go_ret
        exact ⟨ret_bool HF.out.symm, hB⟩
  · have hne : ¬ l = k := fun e => hlen (by rw [← hl, ← hk, e])
    rw [decide_eq_false hne]
    have hb : ((n : Int) != (m : Int)) = true := bne_iff_ne.2 (by omega)
    clear hne hr hq hl hk
    go_enter Try.func51, Try.ntmps51
    go_wp2
    go_ret
    exact ⟨rfl, Below.refl _ _⟩
theorem CurOk.nobyte' {w : World} {g : Nat} {l : List UInt8} {p : Nat} {er : Int} (h : CurOk w g l p er) : ∀ off (z : UInt8), w.cell? ⟨g, off, none⟩ ≠ some (bE z) := by
  obtain ⟨a, n, c, hb, _⟩ := h.ex; exact blk_nobyte hb
theorem below_of_grown' {B g : Nat} {w0 w1 w2 : World} (h : Below B w0 w1) (hB : B ≤ w1.heap.size) (k : w1.grownBy w2 (some g)) (hg : B ≤ g) : Below B w0 w2 :=
  ⟨k.os.trans h.os, k.tape.trans h.tape, k.output.trans h.output, Nat.le_trans h.size k.size, fun j hj => (k.block j (by omega) (by simp; omega)).trans (h.block j hj)⟩
instance (v : Int) : Decidable (In64 v) := by unfold In64; infer_instance
theorem b24a : putErr 5 64 0 0 200 = 0 ∧ putRes [] 5 64 0 0 200 = [200, 0] := by decide
theorem b24b : gotV 5 64 0 0 [200, 0, 3] 0 0 = 200 ∧ gotP 5 64 0 0 [200, 0, 3] 0 0 = 2 ∧ gotE 5 64 0 0 [200, 0, 3] 0 0 = 0 := by decide
theorem b24c : rowErr 5 64 1 1 [3, 2] = 0 ∧ rowRes 5 64 1 1 [3, 2] = [6, 1] := by decide
theorem b24d : RightC 1 256 0 0 ∧ reachC 1 256 = 256 ∧ ¬ RightC 1 64 0 0 := by decide
set_option maxRecDepth 100000 in
set_option maxHeartbeats 8000000 in
theorem fixed24_any (w : World) : Calls Try.prog 13 #[] w fun e w' => e = .returned (.bool true) ∧ Below w.heap.size w w' := by
  go_enter Try.func13, Try.ntmps13
  have hB0 := below_alloc w (.cells #[.int .i64 5, .int .i64 64, .int .i64 0, .int .i64 0] 23)
  have hblk0 := Blk.new w 23 #[.int .i64 5, .int .i64 64, .int .i64 0, .int .i64 0]
  go_wp2_with fail
  refine (bPut_any none 0 0 [] 5 64 0 0 200 _ rfl (by decide) Rd.nil (by decide) (by decide) (by decide) (by decide)).mono ?_
  rw [b24a.1, b24a.2]
  rintro e w1 ⟨a1, n1, c1, rfl, hl1, hn1, hr1, hB1⟩
  have hblk1 := hblk0.below hB1
  have hBw1 := hB0.trans (hB1.mono (by simp))
  obtain ⟨hc0, hc1, hc2, hc3⟩ := hblk1.four
  have hsz1 : w.heap.size < w1.heap.size := hblk1.lt
  clear hB0 hblk0 hB1
  go_wp2_with fail
  refine (cNew_any _ 3 3 [200, 0, 3] _ rfl (by decide) (rd_new w1 _ _ _ _ rfl)).mono ?_
  rintro e w2 ⟨g, rfl, hg, hcu2, hb2⟩
  have hb2' := below_trans0 (below_alloc w1 (.cells #[Value.int IntKind.u8 200, Value.int IntKind.u8 0, Value.int IntKind.u8 3] 5)) (by simp) hb2
  have hgw : w1.heap.size < g := by simp at hg; omega
  have hblk2 := hblk1.below hb2'
  have hr2 := hr1.below hb2'
  have hBw2 := hBw1.trans (hb2'.mono (by omega))
  clear hc0 hc1 hc2 hc3 hblk1 hr1 hBw1 hb2 hb2' hg
  obtain ⟨hc0, hc1, hc2, hc3⟩ := hblk2.four
  go_wp2_with fail
  refine (bGet_any g _ 0 0 5 64 0 0 _ hcu2 (by decide) (by decide) (by decide) (by decide)).mono ?_
  rintro e w3 ⟨rfl, hcu3, hg3⟩
  rw [b24b.1]
  rw [b24b.2.1, b24b.2.2] at hcu3
  have hr3 := hr2.keep (keep_of_grown hg3 hcu2.nobyte')
  have hBw3 := below_of_grown' hBw2 hBw2.size hg3 (by omega)
  clear hc0 hc1 hc2 hc3 hblk2 hr2 hBw2 hg3 hcu2
  go_wp2_with fail
  refine (bRow_any _ 2 2 [3, 2] 5 64 1 1 _ rfl (by decide) (rd_new w3 _ _ _ _ rfl) (by decide) (by decide) (by decide) (by decide) (by decide)).mono ?_
  rintro e w4 ⟨a4, n4, c4, rfl, hl4, hn4, hr4, hb4⟩
  rw [b24c.1]
  rw [b24c.2] at hl4 hr4
  have hb4' := below_trans0 (below_alloc w3 (.cells #[Value.int IntKind.i64 3, Value.int IntKind.i64 2] 3)) (by simp) hb4
  have hcu4 := hcu3.below hb4'
  have hrb := hr3.below hb4'
  have hBw4 := hBw3.trans (hb4'.mono hBw3.size)
  have hcv1 := conv_str (P := Try.prog) Try.underlying26 Try.underlying5 Try.underlying9 c1 hl1 hrb
  rw [show strOf [200, 0] = (⟨#[200, 0]⟩ : ByteArray) from rfl] at hcv1
  have hcv2 := conv_str (P := Try.prog) Try.underlying26 Try.underlying5 Try.underlying9 c4 hl4 hr4
  rw [show strOf [6, 1] = (⟨#[6, 1]⟩ : ByteArray) from rfl] at hcv2
  have HLT : Hid (w.heap.size < w1.heap.size) := Lib.hid hsz1
  clear hb4 hb4' hcu3 hr3 hBw3
  go_wp2_with fail
  refine (cAt_any g _ 2 0 _ hcu4).mono ?_
  rintro e w5 ⟨rfl, rfl⟩
  have hcw2 : ∀ w', Below w4.heap.size w4 w' → (convert 26 9 (.slice a4 n4 c4)).run Try.prog w' = .ok (.string ⟨#[6, 1]⟩) w' := fun w' hb => conv_str (P := Try.prog) Try.underlying26 Try.underlying5 Try.underlying9 c4 hl4 (hr4.below hb)
  go_wp2_with fail
  refine (bReach_any 1 256 0 0 _ (by decide) (by decide) (by decide) (by decide)).mono ?_
  rintro e w6 ⟨rfl, hb6⟩
  rw [if_pos b24d.1, b24d.2.1]
  go_wp2_with fail
  refine (bRight_any 1 64 0 0 _ (by decide) (by decide) (by decide) (by decide)).mono ?_
  rintro e w7 ⟨rfl, hb7⟩
  rw [decide_eq_false b24d.2.2]
  go_wp2
  go_ret
  exact ⟨rfl, (hBw4.trans (hb6.mono hBw4.size)).trans (hb7.mono (Nat.le_trans hBw4.size hb6.size))⟩
end Go.Proofs.Ytnmdgmjheopolaa
