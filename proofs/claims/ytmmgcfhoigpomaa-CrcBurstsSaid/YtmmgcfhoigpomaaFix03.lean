/- The walk of packsaddlelaw03.fixed. -/
import Derived.Test.YtmmgcfhoigpomaaCrcO
import Derived.Test.YtmmgcfhoigpomaaStr
import Derived.Lib.SlBytesConst
namespace Go.Proofs.Ytmmgcfhoigpomaa
open Go.RowKit
set_option linter.unusedVariables false
set_option linter.unusedSimpArgs false

set_option maxHeartbeats 4000000 in
set_option maxRecDepth 100000 in
theorem fixed03_any (w : World) : Calls Try.prog 33 #[] w fun e w' => e = .returned (.bool true) ∧ Below w.heap.size w w' := by
  have e1 : openL (sealL [97, 98]) = [97, 98] := by decide +kernel
  have e2 : openEr (sealL [97, 98]) = 0 := by decide +kernel
  have e3 : openEr [97, 98, 99] = 6 := by decide +kernel
  have e4 : crcSumI [49, 50, 51, 52, 53, 54, 55, 56, 57] = 3421780262 := by decide +kernel
  have e5 : crcSumI [] = 0 := by decide +kernel
  have e6 : burstL [0] 1 3 = [6] := by decide +kernel
  have kc := fun (w : World) (C : Array Value) (n c : Nat) => Lib.run_convert_bytes_const (P := Try.prog) w 22 5 C n c Try.underlying22 Try.underlying5
  go_enter Try.func33, Try.ntmps33
  go_wp2_with fail
  refine (crcSeal_any _ 2 2 [97, 98] _ rfl (by decide) (rd_new w _ _ _ _ rfl)).mono ?_
  rintro e w1 ⟨a1, n1, c1, rfl, hbuf, hb⟩
  have hb1 := below_trans0 (below_alloc w (.cells #[Value.int IntKind.u8 97, Value.int IntKind.u8 98] 5 (2, 3))) (by simp) hb
  have hs1 := hb1.size
  clear hb
  have hn1 := hbuf.len
  rw [sealL_len] at hn1
  subst hn1
  go_wp2_with fail
  refine (crcOpen_any a1 _ c1 _ w1 (sealL_len _) (by decide) hbuf.le_cap hbuf.cap_max hbuf.rd).mono ?_
  rintro e w2 ⟨a2, n2, c2, rfl, hown2, hb⟩
  rw [e2]
  rw [e1] at hown2
  have hb2 := below_trans0 hb1 hs1 hb
  have hs2 := hb2.size
  clear hb hb1 hbuf
  go_wp2_with fail
  refine (crcOpen_any _ 3 3 [97, 98, 99] _ rfl (by decide) (by decide) (by decide) (rd_new w2 _ _ _ _ rfl)).mono ?_
  rintro e w3 ⟨a3, n3, c3, rfl, hown3, hb⟩
  rw [e3]
  have hba := below_trans0 (below_alloc w2 (.cells #[Value.int IntKind.u8 97, Value.int IntKind.u8 98, Value.int IntKind.u8 99] 5 (3, 4))) (by simp) hb
  have hown2b := hown2.below hba
  have hb3 := below_trans0 hb2 hs2 hba
  have hs3 := hb3.size
  clear hb hb2 hown2 hown3 hba
  go_wp2_with fail
  refine (crcSum_any _ 9 9 [49, 50, 51, 52, 53, 54, 55, 56, 57] _ rfl (by decide) (rd_new w3 _ _ _ _ rfl)).mono ?_
  rintro e w4 ⟨rfl, hb⟩
  rw [e4]
  have hba := below_trans0 (below_alloc w3 (.cells #[Value.int IntKind.u8 49, Value.int IntKind.u8 50, Value.int IntKind.u8 51, Value.int IntKind.u8 52, Value.int IntKind.u8 53, Value.int IntKind.u8 54, Value.int IntKind.u8 55, Value.int IntKind.u8 56, Value.int IntKind.u8 57] 5 (9, 10))) (by simp) hb
  have hown2c := hown2b.below hba
  have hb4 := below_trans0 hb3 hs3 hba
  have hs4 := hb4.size
  clear hb hb3 hown2b hba
  go_wp2_with fail
  refine (crcSum_any none 0 0 [] w4 rfl (by decide) Rd.nil).mono ?_
  rintro e w5 ⟨rfl, hb⟩
  rw [e5]
  have hown2d := hown2c.below hb
  have hb5 := below_trans0 hb4 hs4 hb
  have hs5 := hb5.size
  have hcv := conv_str (P := Try.prog) Try.underlying22 Try.underlying5 Try.underlying9 c2 hown2d.len hown2d.rd
  rw [show strOf [97, 98] = (⟨#[97, 98]⟩ : ByteArray) from rfl] at hcv
  clear hb hb4 hown2c
  go_wp2_with fail
  refine (crcBurst_any _ 1 1 [0] 1 3 _ rfl (by decide) (rd_new w5 _ _ _ _ rfl) (by decide) (by decide) (by decide)).mono ?_
  rintro e w6 ⟨a6, c6, rfl, hown6, hb⟩
  rw [e6] at hown6
  have hba := below_trans0 (below_alloc w5 (.cells #[Value.int IntKind.u8 0] 5)) (by simp) hb
  have hb6 := below_trans0 hb5 hs5 hba
  have hcv6 := conv_str (P := Try.prog) Try.underlying22 Try.underlying5 Try.underlying9 c6 hown6.len hown6.rd
  rw [show strOf [6] = (⟨#[6]⟩ : ByteArray) from rfl] at hcv6
  clear hb hb5 hba hown6 hcv hown2d
  have HB := Lib.hid hb6
  clear hb6
  go_wp2
  go_ret
  exact ⟨rfl, HB.out⟩
end Go.Proofs.Ytmmgcfhoigpomaa
