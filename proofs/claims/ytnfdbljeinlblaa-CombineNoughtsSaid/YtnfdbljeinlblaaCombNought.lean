/- Proved: CombineNoughts returns true for every input: noughts behind any bytes are told by the bytes' sum; powers and products are the document's. No condition. -/
import Derived.Test.YtnfdbljeinlblaaCombN1
namespace Go.Proofs.Ytnfdbljeinlblaa
open Go.ChangeShapes Go.WideShapes Go.ChangeAt Go.RowKit
set_option linter.unusedVariables false
set_option linter.unusedSimpArgs false

set_option maxHeartbeats 4000000 in
set_option maxRecDepth 100000 in
theorem walkCombineNoughts (a0 : Option Addr) (n0 c0 : Nat) (l0 : List UInt8) (k p q : Int) (w : World)
    (hl0 : l0.length = n0) (hm0 : n0 ≤ maxLen) (hr0 : Rd w byteV a0 l0) (hk : 0 ≤ k ∧ k < 256) (hp : 0 ≤ p ∧ p < 4294967296) (hq : 0 ≤ q ∧ q < 4294967296) :
    Calls Try.prog 6 #[.slice a0 n0 c0, .int .u8 k, .int .u32 p, .int .u32 q] w fun e w' => e = .returned (.bool true) ∧ Below w.heap.size w w' := by
  unfold maxLen at hm0
  by_cases h0 : 200 < n0
  · go_enter Try.func6, Try.ntmps6
    go_wp2_with fail
    refine (fixed37_any _).mono ?_
    rintro e w1 ⟨rfl, hb1⟩
    go_wp2
    go_ret
    exact ⟨rfl, hb1⟩
  obtain ⟨k, rfl⟩ := Int.eq_ofNat_of_zero_le hk.1
  obtain ⟨p, rfl⟩ := Int.eq_ofNat_of_zero_le hp.1
  obtain ⟨q, rfl⟩ := Int.eq_ofNat_of_zero_le hq.1
  have hx := crcSumI_range l0
  have hxn := refSumN_lt (l0 ++ List.replicate k 0)
  have g1 : (noughtsI (crcSumI l0) (k : Int) == ((refSumN (l0 ++ List.replicate k 0) : Nat) : Int)) = true := by rw [sum_noughts, refSum_eq]; simp
  have g2 : (timesI (p : Int) (q : Int) == ((refTimesN p q : Nat) : Int)) = true := by rw [refTimes_eq p q (by omega) (by omega)]; simp
  have g3 : (powI (k : Int) == ((refPowN k : Nat) : Int)) = true := by rw [refPow_eq]; simp
  have HL0 := Lib.hid hl0
  have HR0 := Lib.hid hr0
  clear hl0 hr0
  go_enter Try.func6, Try.ntmps6
  go_wp2_with fail
  refine (fixed37_any _).mono ?_
  rintro e w1 ⟨rfl, hb1⟩
  go_wp2_with fail
  refine (refSumI_any a0 n0 c0 l0 w1 HL0.out (by omega) (HR0.out.later hb1)).mono ?_
  rintro e w2 ⟨rfl, hb2⟩
  have hb3 := below_trans0 hb1 hb1.size hb2
  clear hb1 hb2
  go_wp2_with fail
  refine (noughts_any _ _ _ hx (by omega) (by omega)).mono ?_
  rintro e w' ⟨rfl, rfl⟩
  go_wp2_with fail
  refine (refNoughts_any a0 n0 c0 l0 k w2 HL0.out (by omega) (by omega) (HR0.out.later hb3)).mono ?_
  rintro e w4 ⟨rfl, hb4⟩
  have hb5 := below_trans0 hb3 hb3.size hb4
  clear hb3 hb4
  go_wp2_with fail
  refine (times_any _ _ _ (by omega) (by omega)).mono ?_
  rintro e w' ⟨rfl, rfl⟩
  go_wp2_with fail
  refine (refTimes_any p q w4 (by omega) (by omega)).mono ?_
  rintro e w6 ⟨rfl, hb6⟩
  have hb7 := below_trans0 hb5 hb5.size hb6
  clear hb5 hb6
  go_wp2_with fail
  refine (power_any _ _ (by omega) (by omega)).mono ?_
  rintro e w' ⟨rfl, rfl⟩
  go_wp2_with fail
  refine (refPower_any k w6 (by omega)).mono ?_
  rintro e w8 ⟨rfl, hb8⟩
  have hb9 := below_trans0 hb7 hb7.size hb8
  clear hb7 hb8
  go_wp2
  go_ret
  exact ⟨rfl, hb9⟩

/-! The lift of the walk to the given statement CombineNoughts. -/
set_option maxRecDepth 100000 in
theorem liftedCombineNoughts (os : Os) (started : os.Started) (H : Type) (enc : TypeId × Value → H) :
    ReturnsInHanded {} Try.checked os 6 .any (Rows.combineNoughtsSpec.pre6 enc Try.prog Try.f6 Rows.combineNoughtsRow.domain false) (Rows.combineNoughtsSpec.post enc Try.prog Try.f6 false true false false) := by
  refine returnsInHanded_of_change (C := Try.checked) ownKnobT started (by kernel_rfl) Try.func6
    (ChangeSpec.witness6 (enc := enc) (C := Try.checked) false ⟨#[], #[.slice none 0 0, .int .u8 0, .int .u32 0, .int .u32 0], []⟩ 8 (by kernel_rfl) (by kernel_rfl) (by kernel_rfl) (by kernel_rfl)) ?_
  intro W base args ds gs before hval0 hW hcnd _
  have hval : ∀ (j : Nat) t v, Try.f6.params[j]? = some t → args[j]? = some v → Value.okWide Try.prog W .any base t v := hval0
  have hW' := hW
  obtain ⟨p, q, hA0, hV, rfl, hfz, hnd⟩ := hW
  have hA : DataW.TrodAll enc Try.prog W 0 (fun _ => true) true Try.f6.params.toList args.toList ds p := hA0
  rw [Try.params6] at hA hval
  obtain ⟨v0, vs0, d0, ds0, p0, q0, hargs, rfl, rfl, h0, r0⟩ := trodAll_cons hA
  obtain ⟨v1, vs1, d1, ds1, p1, q1, rfl, rfl, rfl, h1, r1⟩ := trodAll_cons r0
  obtain ⟨v2, vs2, d2, ds2, p2, q2, rfl, rfl, rfl, h2, r2⟩ := trodAll_cons r1
  obtain ⟨v3, vs3, d3, ds3, p3, q3, rfl, rfl, rfl, h3, r3⟩ := trodAll_cons r2
  obtain ⟨rfl, rfl, rfl⟩ := trodAll_nil r3
  obtain rfl : args = #[v0, v1, v2, v3] := by cases args; simp_all
  obtain ⟨rfl, rfl⟩ := trodVars_none hV
  obtain ⟨a0, n0, c0, rfl⟩ := okWide_slice Try.underlying32 (hval 0 32 v0 rfl rfl)
  have k0 := h0
  have lt0 : ∀ x ∈ p0, x.block < W.heap.size := by obtain ⟨m, hm⟩ := k0; exact DataW.trod_lt m _ _ _ hm
  obtain ⟨l0, hl0, hnc0, hcm0, hr0⟩ := openBytesL Try.underlying32 Try.underlying5 (by kernel_rfl) h0
  obtain ⟨a1, rfl, rfl, rfl, w1⟩ := open_int Try.underlying5 (hval 1 5 v1 rfl rfl) h1
  obtain ⟨a2, rfl, rfl, rfl, w2⟩ := open_int Try.underlying33 (hval 2 33 v2 rfl rfl) h2
  obtain ⟨a3, rfl, rfl, rfl, w3⟩ := open_int Try.underlying33 (hval 3 33 v3 rfl rfl) h3
  clear hA0 hval0
  refine (walkCombineNoughts a0 n0 c0 l0 a1 a2 a3 W hl0 (Nat.le_trans hnc0 hcm0) hr0 (wf_u8R w1) (wf_u32R w2) (wf_u32R w3)).mono fun e W' ⟨he, bel⟩ => ?_
  subst he
  exact ⟨_, rfl, _, _, _, [], _, [], hW', trodAll_mk1 (shut_bool Try.underlying4 _), (trodAll_cons_mk (Below.trod laidOutT (by kernel_rfl) (of_decide_eq_true (by kernel_rfl)) k0 bel lt0) (trodAll_cons_mk (shut_int Try.underlying5 w1) (trodAll_cons_mk (shut_int Try.underlying33 w2) (trodAll_cons_mk (shut_int Try.underlying33 w3) trodAll_mk0)))), rfl, bel.frame _, fun h => by cases h⟩

theorem overCombineNoughts : Rows.combineNoughtsRow.holds Try.pinned (OpenSpec.ofChange Rows.combineNoughtsSpec) :=
  OpenClaim.holds_of_wide 6 Try.f6 rfl rfl rfl rfl rfl rfl rfl ⟨rfl, rfl, rfl, rfl, rfl⟩ rfl rfl rfl rfl rfl (by kernel_rfl) Try.func6 (by kernel_rfl)
    (of_decide_eq_true (by kernel_rfl)) (by unfold Func.isWrapper; first | (rw [if_pos (by decide +kernel)]; kernel_rfl) | (rw [if_neg (by decide +kernel)]; exact ⟨rfl, rfl⟩))
    (fun os started H enc _ => liftedCombineNoughts os started H enc)

theorem holdsCombineNoughts : Rows.CombineNoughtsSaid := overCombineNoughts
#print axioms holdsCombineNoughts
end Go.Proofs.Ytnfdbljeinlblaa
