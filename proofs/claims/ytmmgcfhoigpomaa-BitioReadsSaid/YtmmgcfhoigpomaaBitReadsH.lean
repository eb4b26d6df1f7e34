/- Proved: BitioReads returns true for every input: whatever is read of any bytes, one behind the other, each answer is the document's, and what is left. No condition. -/
import Derived.Test.YtmmgcfhoigpomaaBitReads
import Derived.Test.YtmmgcfhoigpomaaOpenS
namespace Go.Proofs.Ytmmgcfhoigpomaa
open Go.ChangeShapes Go.WideShapes Go.ChangeAt Go.RowKit
set_option linter.unusedVariables false
set_option linter.unusedSimpArgs false
/-! The lift of the walk to the given statement BitioReads. -/
set_option maxRecDepth 100000 in
theorem liftedBitioReads (os : Os) (started : os.Started) (H : Type) (enc : TypeId × Value → H) :
    ReturnsInHanded {} Try.checked os 3 .any (Rows.bitioReadsSpec.pre6 enc Try.prog Try.f3 Rows.bitioReadsRow.domain false) (Rows.bitioReadsSpec.post enc Try.prog Try.f3 false true false false) := by
  refine returnsInHanded_of_change (C := Try.checked) ownKnobT started (by kernel_rfl) Try.func3
    (ChangeSpec.witness6 (enc := enc) (C := Try.checked) false ⟨#[], #[.slice none 0 0, .slice none 0 0], []⟩ 8 (by kernel_rfl) (by kernel_rfl) (by kernel_rfl) (by kernel_rfl)) ?_
  intro W base args ds gs before hval0 hW hcnd _
  have hval : ∀ (j : Nat) t v, Try.f3.params[j]? = some t → args[j]? = some v → Value.okWide Try.prog W .any base t v := hval0
  have hW' := hW
  obtain ⟨p, q, hA0, hV, rfl, hfz, hnd⟩ := hW
  have hA : DataW.TrodAll enc Try.prog W 0 (fun _ => true) true Try.f3.params.toList args.toList ds p := hA0
  rw [Try.params3] at hA hval
  obtain ⟨v0, vs0, d0, ds0, p0, q0, hargs, rfl, rfl, h0, r0⟩ := trodAll_cons hA
  obtain ⟨v1, vs1, d1, ds1, p1, q1, rfl, rfl, rfl, h1, r1⟩ := trodAll_cons r0
  obtain ⟨rfl, rfl, rfl⟩ := trodAll_nil r1
  obtain rfl : args = #[v0, v1] := by cases args; simp_all
  obtain ⟨rfl, rfl⟩ := trodVars_none hV
  obtain ⟨a0, n0, c0, rfl⟩ := okWide_slice Try.underlying22 (hval 0 22 v0 rfl rfl)
  have k0 := h0
  have lt0 : ∀ x ∈ p0, x.block < W.heap.size := by obtain ⟨m, hm⟩ := k0; exact DataW.trod_lt m _ _ _ hm
  obtain ⟨l0, hl0, hnc0, hcm0, hr0⟩ := openBytesL Try.underlying22 Try.underlying5 (by kernel_rfl) h0
  obtain ⟨a1, n1, c1, rfl⟩ := okWide_slice Try.underlying23 (hval 1 23 v1 rfl rfl)
  have k1 := h1
  have lt1 : ∀ x ∈ p1, x.block < W.heap.size := by obtain ⟨m, hm⟩ := k1; exact DataW.trod_lt m _ _ _ hm
  obtain ⟨F1, hnc1, hcm1, hr1, hf1⟩ := openRows Try.underlying23 Try.underlying33 (by kernel_rfl) (by kernel_rfl) (by decide) h1
  clear hA0 hval0
  refine (walkBitioReads a0 n0 c0 l0 a1 n1 c1 F1 W hl0 (Nat.le_trans hnc0 hcm0) hr0 (Nat.le_trans hnc1 hcm1) hr1 (fun i hi => by
      obtain ⟨y0, m0, t0⟩ := hf1 i 0 _ hi rfl
      obtain ⟨x0, e0, z0⟩ := open_fint Try.underlying5 t0
      obtain ⟨y1, m1, t1⟩ := hf1 i 1 _ hi rfl
      obtain ⟨x1, e1, z1⟩ := open_fint Try.underlying3 t1
      exact ⟨x0, x1, e0, e1, wf_u8R z0, wf_i64R z1⟩)).mono fun e W' ⟨he, bel⟩ => ?_
  subst he
  exact ⟨_, rfl, _, _, _, [], _, [], hW', trodAll_mk1 (shut_bool Try.underlying4 _), (trodAll_cons_mk (Below.trod laidOutT (by kernel_rfl) (of_decide_eq_true (by kernel_rfl)) k0 bel lt0) (trodAll_cons_mk (Below.trod laidOutT (by kernel_rfl) (of_decide_eq_true (by kernel_rfl)) k1 bel lt1) trodAll_mk0)), rfl, bel.frame _, fun h => by cases h⟩

theorem overBitioReads : Rows.bitioReadsRow.holds Try.pinned (OpenSpec.ofChange Rows.bitioReadsSpec) :=
  OpenClaim.holds_of_wide 3 Try.f3 rfl rfl rfl rfl rfl rfl rfl ⟨rfl, rfl, rfl, rfl, rfl⟩ rfl rfl rfl rfl rfl (by kernel_rfl) Try.func3 (by kernel_rfl)
    (of_decide_eq_true (by kernel_rfl)) (by unfold Func.isWrapper; first | (rw [if_pos (by decide +kernel)]; kernel_rfl) | (rw [if_neg (by decide +kernel)]; exact ⟨rfl, rfl⟩))
    (fun os started H enc _ => liftedBitioReads os started H enc)

theorem holdsBitioReads : Rows.BitioReadsSaid := overBitioReads
#print axioms holdsBitioReads
end Go.Proofs.Ytmmgcfhoigpomaa
