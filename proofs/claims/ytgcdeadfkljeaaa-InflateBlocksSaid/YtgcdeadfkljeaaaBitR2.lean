/- bitio.Reader: Align, Take; a nil reader. -/
import Derived.Test.YtgcdeadfkljeaaaBitR
import Derived.Test.YtgcdeadfkljeaaaSl
namespace Go.Proofs.Ytgcdeadfkljeaaa
open Go.RowKit
set_option linter.unusedVariables false
set_option linter.unusedSimpArgs false

theorem andNot7_bv (x : BitVec 64) : x &&& ~~~(7#64) = (x >>> 3) <<< 3 := by
  apply BitVec.eq_of_getLsbD_eq
  intro i hi
  have h7 : (7#64).getLsbD i = decide (i < 3) := by
    have : ∀ i : Fin 64, (7#64).getLsbD i = decide (i.val < 3) := by decide
    exact this ⟨i, hi⟩
  simp only [BitVec.getLsbD_and, BitVec.getLsbD_not, h7, BitVec.getLsbD_shiftLeft, BitVec.getLsbD_ushiftRight]
  by_cases h3 : i < 3
  · simp [h3]
  · simp [h3, hi, show 3 + (i - 3) = i by omega]
theorem andNot7 (n : Nat) (h : n < 2 ^ 62) : bits .andNot .i64 (n : Int) 7 = ((8 * (n / 8) : Nat) : Int) := by
  have e : bits .andNot .i64 (n : Int) 7 = IntKind.i64.wrap ((BitVec.ofInt 64 (n : Int) &&& ~~~BitVec.ofInt 64 7).toNat : Int) := rfl
  rw [e, show BitVec.ofInt 64 7 = 7#64 from by decide, andNot7_bv, BitVec.ofInt_natCast, BitVec.toNat_shiftLeft, BitVec.toNat_ushiftRight, BitVec.toNat_ofNat, Nat.shiftRight_eq_div_pow, Nat.shiftLeft_eq, IntKind.wrap_i64]
  omega
def alignN (p : Nat) : Nat := 8 * ((p + 7) / 8)

set_option maxRecDepth 100000 in
set_option maxHeartbeats 1000000 in
theorem rdAlign_any (g : Nat) (l : List UInt8) (p : Nat) (w : World) (h : RdOk w g l p) :
  Calls Try.prog 85 #[.pointer (some ⟨g, 0, none⟩)] w fun e w' => e = .returned (.tuple #[]) ∧ RdOk w' g l (alignN p) ∧ w.grownBy w' (some g) := by
  have hlen := h.len
  have hfin := h.setAt (alignN p) (by unfold alignN; omega)
  have ha := andNot7 (p + 7) (by omega)
  obtain ⟨q, hq⟩ : ∃ q, alignN p = q := ⟨_, rfl⟩
  rw [show 8 * ((p + 7) / 8) = q from hq, show ((p + 7 : Nat) : Int) = (p : Int) + 7 from by omega] at ha
  rw [hq] at hfin ⊢
  have hgr := grownBy_setCell w ⟨g, 1, none⟩ (.int .i64 (q : Int))
  obtain ⟨a, n, c, hb, -⟩ := h.ex
  have c1 := hb.cell (i := 1) rfl
  have f1 := hb.frozen 1
  have HF := Lib.hid hfin
  have HG := Lib.hid hgr
  clear h hb hfin hgr hq
  go_enter Try.func85, Try.ntmps85
  go_wp2
  go_end0
  exact ⟨rfl, by first | exact HF.out | (rw [ha]; exact HF.out), by first | exact HG.out | (rw [ha]; exact HG.out)⟩

def rdTakeEr (l : List UInt8) (p : Nat) (m : Int) : Int := if m < 0 then 1 else if m > ((8 * l.length - alignN p : Nat) / 8 : Nat) then 6 else 0
def rdTakeL (l : List UInt8) (p : Nat) (m : Int) : List UInt8 := if rdTakeEr l p m = 0 then (l.drop (alignN p / 8)).take m.toNat else []
def rdTakeAt (l : List UInt8) (p : Nat) (m : Int) : Nat := if m < 0 then p else if rdTakeEr l p m = 0 then alignN p + 8 * m.toNat else alignN p
def RdTakePost (w : World) (g : Nat) (l : List UInt8) (p : Nat) (m : Int) (e : Ending) (w' : World) : Prop :=
  ∃ a k c, e = .returned (.tuple #[.slice a k c, .int .i64 (rdTakeEr l p m)]) ∧ (rdTakeL l p m).length = k ∧ Rd w' bE a (rdTakeL l p m) ∧ RdOk w' g l (rdTakeAt l p m) ∧ w.grownBy w' (some g)
set_option maxRecDepth 100000 in
set_option maxHeartbeats 4000000 in
theorem rdTake_any (g : Nat) (l : List UInt8) (p : Nat) (m : Int) (w : World) (h : RdOk w g l p) (hm1 : -9223372036854775808 ≤ m) (hm2 : m ≤ 9223372036854775807) :
  Calls Try.prog 87 #[.pointer (some ⟨g, 0, none⟩), .int .i64 m] w (RdTakePost w g l p m) := by
  have hlen := h.len
  by_cases hneg : m < 0
  · have e1 : rdTakeEr l p m = 1 := by unfold rdTakeEr; rw [if_pos hneg]
    have e2 : rdTakeL l p m = [] := by unfold rdTakeL; rw [e1]; rfl
    have HF : Hid (RdTakePost w g l p m (.returned (.tuple #[.slice none 0 0, .int .i64 1])) w) := Lib.hid ⟨none, 0, 0, by rw [e1], by rw [e2]; rfl, by rw [e2]; exact Rd.nil, by unfold rdTakeAt; rw [if_pos hneg]; exact h, World.grownBy.refl _ _⟩
    clear h e1 e2
    go_enter Try.func87, Try.ntmps87
    go_wp2
    go_ret2
    exact HF.out
  · obtain ⟨k, rfl⟩ := Int.eq_ofNat_of_zero_le (show 0 ≤ m by omega)
    have hal : alignN p ≤ 8 * l.length ∧ alignN p % 8 = 0 := by unfold alignN; omega
    have hat : rdTakeAt l p k = if rdTakeEr l p k = 0 then alignN p + 8 * k else alignN p := by unfold rdTakeAt; rw [if_neg hneg]; rfl
    have her : rdTakeEr l p k = if (k : Int) > (((8 * l.length - alignN p) / 8 : Nat) : Int) then 6 else 0 := by unfold rdTakeEr; rw [if_neg hneg]
    have hL : rdTakeL l p k = if rdTakeEr l p k = 0 then (l.drop (alignN p / 8)).take k else [] := rfl
    have HAT := Lib.hid hat
    have HER := Lib.hid her
    have HLL := Lib.hid hL
    clear hat her hL
    go_enter Try.func87, Try.ntmps87
    go_wp2_with fail
    refine (rdAlign_any g l p w h).mono ?_
    rintro e w1 ⟨rfl, h1, hg1⟩
    obtain ⟨q, hq⟩ : ∃ q, alignN p = q := ⟨_, rfl⟩
    rw [hq] at h1 hal
    go_wp2_with fail
    refine (rdLeft_any g l q w1 h1).mono ?_
    rintro e w' ⟨rfl, kd, rfl⟩
    have h2 := h1.drewN kd
    have hg2 := grownBy_trans hg1 (grownBy_of_below (some g) (below_drewN w1 w1.heap.size kd))
    generalize w1.drewN kd = w2 at h2 hg2 ⊢
    have hshr : (8 * (l.length : Int) - (q : Int)) / 8 = (((8 * l.length - q) / 8 : Nat) : Int) := by omega
    clear h h1 hg1
    by_cases hlong : (k : Int) > (((8 * l.length - q) / 8 : Nat) : Int)
    · have e1 : rdTakeEr l p k = 6 := by rw [HER.out, hq, if_pos hlong]
      have e2 : rdTakeL l p k = [] := by rw [HLL.out, e1]; rfl
      have HF : Hid (RdTakePost w g l p k (.returned (.tuple #[.slice none 0 0, .int .i64 6])) w2) := Lib.hid ⟨none, 0, 0, by rw [e1], by rw [e2]; rfl, by rw [e2]; exact Rd.nil, by rw [HAT.out, e1, hq]; exact h2, hg2⟩
      clear e1 e2 h2
      have hlong3 : (8 * (l.length : Int) - (q : Int)) / 8 < (k : Int) := by rw [hshr]; exact hlong
      clear hshr hlong
      go_wp2
      go_ret2
      exact HF.out
    · have e1 : rdTakeEr l p k = 0 := by rw [HER.out, hq, if_neg hlong]
      have e2 : rdTakeL l p k = (l.drop (q / 8)).take k := by rw [HLL.out, e1, hq]; rfl
      have e3 : rdTakeAt l p k = q + 8 * k := by rw [HAT.out, e1, hq]; rfl
      have HE1 := Lib.hid e1
      have HE2 := Lib.hid e2
      have HE3 := Lib.hid e3
      have H2 := Lib.hid h2
      obtain ⟨a, n, c, hb, hl, hnc, hc, hr, hp⟩ := h2.ex
      obtain ⟨fr, hfr⟩ : ∃ x, q / 8 = x := ⟨_, rfl⟩
      have hfi : (q : Int) / 8 = (fr : Int) := by omega
      have hfk : fr + k ≤ n := by omega
      have hq8 : q = 8 * fr := by omega
      have hlong3 : ¬ (8 * (l.length : Int) - (q : Int)) / 8 < (k : Int) := by rw [hshr]; omega
      have c0 := hb.cell (i := 0) rfl
      have c1 := hb.cell (i := 1) rfl
      have f1 := hb.frozen 1
      have hsl := fun w => run_slice_lh1 slByte a n c fr (fr + k) (by omega) (by omega) (fr : Int) ((fr : Int) + (k : Int)) rfl (by omega) w
      rw [Nat.add_sub_cancel_left] at hsl
      have hrs : Rd w2 bE (slP a c fr) ((l.drop fr).take k) := (hr.slP fr c (by omega)).take k
      have hrl : ((l.drop fr).take k).length = k := by rw [List.length_take, List.length_drop]; omega
      have hset := h2.setAt (q + 8 * k) (by omega)
      have hks := keep_of_grown (grownBy_setCell w2 ⟨g, 1, none⟩ (.int .i64 ((q + 8 * k : Nat) : Int))) h2.nobyte
      have hrs2 := hrs.keep hks
      have hgs := grownBy_trans hg2 (grownBy_setCell w2 ⟨g, 1, none⟩ (.int .i64 ((q + 8 * k : Nat) : Int)))
      rw [show ((q + 8 * k : Nat) : Int) = (q : Int) + 8 * (k : Int) from by omega] at hset hrs2 hgs
      have hqq : q ≤ 8000000 ∧ k ≤ 1000000 := by omega
      have HQ := Lib.hid hfr
      have HS := Lib.hid hset
      have HR2 := Lib.hid hrs2
      have HGS := Lib.hid hgs
      have HRL := Lib.hid hrl
      generalize slP a c fr = PP at hsl HR2
      clear h2 hb hl hr hrs hset hks hrs2 hgs hrl hshr hlong hg2 hfr hq8 e1 e2 e3 hq
      go_wp2_with fail
      refine (clone_any PP k (c - fr) _ _ HRL.out (by omega) HR2.out).mono ?_
      rintro e w5 ⟨a5, c5, rfl, hown5, hb5⟩
      go_wp2
      go_ret2
      exact ⟨a5, k, c5, by rw [HE1.out]; rfl, by rw [HE2.out, HQ.out]; exact HRL.out, by rw [HE2.out, HQ.out]; exact hown5.rd, by rw [HE3.out]; exact HS.out.below hb5, grownBy_trans HGS.out (grownBy_of_below _ hb5)⟩

/-! A nil reader. -/
set_option maxHeartbeats 1000000 in
theorem rdGet_nil (w : World) : Calls Try.prog 84 #[.pointer none, .int .i64 1] w fun e w' => e = .returned (.tuple #[.int .u32 0, .int .i64 1]) ∧ w = w' := by
  go_enter Try.func84, Try.ntmps84
  go_wp2
  go_ret2
  exact ⟨rfl, rfl⟩
set_option maxHeartbeats 1000000 in
theorem rdTake_nil (w : World) : Calls Try.prog 87 #[.pointer none, .int .i64 1] w fun e w' => e = .returned (.tuple #[.slice none 0 0, .int .i64 1]) ∧ w = w' := by
  go_enter Try.func87, Try.ntmps87
  go_wp2
  go_ret2
  exact ⟨rfl, rfl⟩
set_option maxHeartbeats 1000000 in
theorem rdAlign_nil (w : World) : Calls Try.prog 85 #[.pointer none] w fun e w' => e = .returned (.tuple #[]) ∧ w = w' := by
  go_enter Try.func85, Try.ntmps85
  go_wp2
  go_end0
  exact ⟨rfl, rfl⟩
set_option maxHeartbeats 1000000 in
theorem rdLeft_nil (w : World) : Calls Try.prog 27 #[.pointer none] w fun e w' => e = .returned (.int .i64 0) ∧ w = w' := by
  go_enter Try.func27, Try.ntmps27
  go_wp2
  go_ret
  exact ⟨rfl, rfl⟩
end Go.Proofs.Ytgcdeadfkljeaaa
