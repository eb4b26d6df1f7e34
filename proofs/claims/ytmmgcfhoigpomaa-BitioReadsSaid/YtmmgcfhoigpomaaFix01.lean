/- The walk of packsaddlelaw01.fixed. -/
import Derived.Test.YtmmgcfhoigpomaaBitW2
import Derived.Test.YtmmgcfhoigpomaaBitR2
import Derived.Test.YtmmgcfhoigpomaaRev
import Derived.Test.YtmmgcfhoigpomaaStr
namespace Go.Proofs.Ytmmgcfhoigpomaa
open Go.RowKit
set_option linter.unusedVariables false
set_option linter.unusedSimpArgs false

theorem below_grown {B g : Nat} {w0 w1 w2 : World} (h : Below B w0 w1) (hB : B ≤ w1.heap.size) (k : w1.grownBy w2 (some g)) (hg : B ≤ g) : Below B w0 w2 :=
  ⟨k.os.trans h.os, k.tape.trans h.tape, k.output.trans h.output, Nat.le_trans h.size k.size, fun j hj => (k.block j (by omega) (by simp; omega)).trans (h.block j hj)⟩
set_option maxHeartbeats 4000000 in
set_option maxRecDepth 100000 in
theorem fixed01_any (w : World) : Calls Try.prog 14 #[] w fun e w' => e = .returned (.bool true) ∧ Below w.heap.size w w' := by
  have e1 : rdGetV [5, 9] 0 3 = 5 ∧ rdGetEr [5, 9] 0 3 = 0 ∧ rdGetAt [5, 9] 0 3 = 3 := by decide +kernel
  have e2 : rdTakeEr [5, 9] 3 1 = 0 ∧ rdTakeL [5, 9] 3 1 = [9] := by decide +kernel
  have e3 : bytesL (bitsL 1 1 ++ bitsL 2 2) = [5] ∧ (bitsL 1 1 ++ bitsL 2 2).length = 3 := by decide +kernel
  have e4 : revI 6 4 = 6 ∧ revI 1 4 = 8 := by decide +kernel
  have E1 := Lib.hid e1
  have E2 := Lib.hid e2
  have E3 := Lib.hid e3
  have E4 := Lib.hid e4
  clear e1 e2 e3 e4
  go_enter Try.func14, Try.ntmps14
  go_wp2_with fail
  refine (wNew_any w).mono ?_
  rintro e w1 ⟨g, rfl, hw1, hb1⟩
  go_wp2_with fail
  refine (wPut_any w.heap.size g [] 1 1 w1 hw1 hb1.size (by decide) (by decide) (by decide) (by decide)).mono ?_
  rintro e w2 ⟨rfl, hw2, hb⟩
  rw [if_neg (by decide)] at hw2
  have hb2 := hb1.trans hb
  clear hw1 hb hb1
  replace hw2 : WBits w2 w.heap.size g (bitsL 1 1) := hw2
  go_wp2_with fail
  refine (wPut_any w.heap.size g (bitsL 1 1) 2 2 w2 hw2 hb2.size (by decide) (by decide) (by decide) (by decide)).mono ?_
  rintro e w3 ⟨rfl, hw3, hb⟩
  rw [if_neg (by decide)] at hw3
  replace hw3 : WBits w3 w.heap.size g (bitsL 1 1 ++ bitsL 2 2) := hw3
  have hb3 := hb2.trans hb
  have hs3 := hb3.size
  clear hw2 hb hb2
  go_wp2_with fail
  refine (rdNew_any _ 2 2 [5, 9] _ rfl (by decide) (rd_new w3 _ _ _ _ rfl)).mono ?_
  rintro e w4 ⟨h, rfl, hh, hr4, hb⟩
  have hc4 := below_trans0 (below_alloc w3 (.cells #[Value.int IntKind.u8 5, Value.int IntKind.u8 9] 5)) (by simp) hb
  have hh3 : w3.heap.size ≤ h := by simp at hh; omega
  clear hb hh
  go_wp2_with fail
  refine (rdGet_any h [5, 9] 0 3 w4 hr4 (by decide) (by decide)).mono ?_
  unfold RdGetPost
  rw [E1.out.1, E1.out.2.1, E1.out.2.2]
  rintro e w5 ⟨rfl, hr5, hg5⟩
  have hc5 := below_grown hc4 hc4.size hg5 hh3
  clear hc4 hr4 hg5
  go_wp2_with fail
  refine (rdTake_any h [5, 9] 3 1 w5 hr5 (by decide) (by decide)).mono ?_
  unfold RdTakePost
  rw [E2.out.1, E2.out.2]
  rintro e w6 ⟨a6, k6, c6, rfl, hk6, hrd6, hr6, hg6⟩
  have hc6 := below_grown hc5 hc5.size hg6 hh3
  have hw6 := hw3.below hc6
  have hb6 := below_trans0 hb3 hs3 hc6
  have hs6 := hb6.size
  clear hc5 hc6 hr5 hr6 hg6 hw3 hb3 hs3 hh3
  go_wp2_with fail
  refine (wBytes_any w.heap.size g _ w6 hw6 (by rw [E3.out.2]; decide)).mono ?_
  rw [E3.out.1]
  rintro e w7 ⟨a7, n7, c7, rfl, hown7, hb⟩
  have hrd7 := hrd6.below hb
  have hw7 := hw6.below hb
  have hb7 := below_trans0 hb6 hs6 hb
  have hcv := conv_str (P := Try.prog) Try.underlying22 Try.underlying5 Try.underlying9 c7 hown7.len hown7.rd
  rw [show strOf [5] = (⟨#[5]⟩ : ByteArray) from rfl] at hcv
  clear hb hb6 hs6 hw6 hrd6 hown7
  go_wp2_with fail
  refine (wLen_any w.heap.size g _ w7 hw7 (by rw [E3.out.2]; decide)).mono ?_
  rw [E3.out.2]
  rintro e w8 ⟨rfl, kd, rfl⟩
  have hrd8 := hrd7.below (below_drewN w7 w7.heap.size kd)
  have hb8 := hb7.trans (below_drewN w7 _ kd)
  generalize w7.drewN kd = w8 at hrd8 hb8 ⊢
  have hcv8 := conv_str (P := Try.prog) Try.underlying22 Try.underlying5 Try.underlying9 c6 hk6 hrd8
  rw [show strOf [9] = (⟨#[9]⟩ : ByteArray) from rfl] at hcv8
  have HB := Lib.hid hb8
  clear hb8 hb7 hrd7 hrd8 hw7 hcv
  go_wp2_with fail
  refine (reverse_any 6 4 w8 (by decide) (by decide) (by decide)).mono ?_
  rw [E4.out.1]
  rintro e w9 ⟨rfl, rfl⟩
  go_wp2_with fail
  refine (reverse_any 1 4 w8 (by decide) (by decide) (by decide)).mono ?_
  rw [E4.out.2]
  rintro e w9 ⟨rfl, rfl⟩
  go_wp2
  go_ret
  exact ⟨rfl, HB.out⟩
end Go.Proofs.Ytmmgcfhoigpomaa
