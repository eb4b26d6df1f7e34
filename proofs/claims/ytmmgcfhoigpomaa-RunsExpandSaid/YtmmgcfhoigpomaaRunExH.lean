/- Proved: RunsExpand returns true for every input: what any runs stand for is what the document says, or why they stand for nothing. No condition. -/
import Derived.Test.YtmmgcfhoigpomaaRunEx
import Derived.Test.YtmmgcfhoigpomaaOpenS
namespace Go.Proofs.Ytmmgcfhoigpomaa
open Go.ChangeShapes Go.WideShapes Go.ChangeAt Go.RowKit
set_option linter.unusedVariables false
set_option linter.unusedSimpArgs false
/-! The lift of the walk to the given statement RunsExpand. -/
set_option maxRecDepth 100000 in
theorem liftedRunsExpand (os : Os) (started : os.Started) (H : Type) (enc : TypeId × Value → H) :
    ReturnsInHanded {} Try.checked os 12 .any (Rows.runsExpandSpec.pre6 enc Try.prog Try.f12 Rows.runsExpandRow.domain false) (Rows.runsExpandSpec.post enc Try.prog Try.f12 false true false false) := by
  refine returnsInHanded_of_change (C := Try.checked) ownKnobT started (by kernel_rfl) Try.func12
    (ChangeSpec.witness6 (enc := enc) (C := Try.checked) false ⟨#[], #[.slice none 0 0], []⟩ 8 (by kernel_rfl) (by kernel_rfl) (by kernel_rfl) (by kernel_rfl)) ?_
  intro W base args ds gs before hval0 hW hcnd _
  have hval : ∀ (j : Nat) t v, Try.f12.params[j]? = some t → args[j]? = some v → Value.okWide Try.prog W .any base t v := hval0
  have hW' := hW
  obtain ⟨p, q, hA0, hV, rfl, hfz, hnd⟩ := hW
  have hA : DataW.TrodAll enc Try.prog W 0 (fun _ => true) true Try.f12.params.toList args.toList ds p := hA0
  rw [Try.params12] at hA hval
  obtain ⟨v0, vs0, d0, ds0, p0, q0, hargs, rfl, rfl, h0, r0⟩ := trodAll_cons hA
  obtain ⟨rfl, rfl, rfl⟩ := trodAll_nil r0
  obtain rfl : args = #[v0] := by cases args; simp_all
  obtain ⟨rfl, rfl⟩ := trodVars_none hV
  obtain ⟨a0, n0, c0, rfl⟩ := okWide_slice Try.underlying71 (hval 0 71 v0 rfl rfl)
  have k0 := h0
  have lt0 : ∀ x ∈ p0, x.block < W.heap.size := by obtain ⟨m, hm⟩ := k0; exact DataW.trod_lt m _ _ _ hm
  obtain ⟨F0, hnc0, hcm0, hr0, hf0⟩ := openRows Try.underlying71 Try.underlying74 (by kernel_rfl) (by kernel_rfl) (by decide) h0
  clear hA0 hval0
  refine (walkRunsExpand a0 n0 c0 F0 W ⟨hnc0, hcm0⟩ hr0 (fun i hi => by
      obtain ⟨y0, m0, t0⟩ := hf0 i 0 _ hi rfl
      obtain ⟨x0, e0, z0⟩ := open_fint Try.underlying3 t0
      obtain ⟨y1, m1, t1⟩ := hf0 i 1 _ hi rfl
      obtain ⟨x1, e1, z1⟩ := open_fint Try.underlying3 t1
      exact ⟨x0, x1, e0, e1, wf_i64R z0, wf_i64R z1⟩)).mono fun e W' ⟨he, bel⟩ => ?_
  subst he
  exact ⟨_, rfl, _, _, _, [], _, [], hW', trodAll_mk1 (shut_bool Try.underlying4 _), (trodAll_cons_mk (Below.trod laidOutT (by kernel_rfl) (of_decide_eq_true (by kernel_rfl)) k0 bel lt0) trodAll_mk0), rfl, bel.frame _, fun h => by cases h⟩

theorem overRunsExpand : Rows.runsExpandRow.holds Try.pinned (OpenSpec.ofChange Rows.runsExpandSpec) :=
  OpenClaim.holds_of_wide 12 Try.f12 rfl rfl rfl rfl rfl rfl rfl ⟨rfl, rfl, rfl, rfl, rfl⟩ rfl rfl rfl rfl rfl (by kernel_rfl) Try.func12 (by kernel_rfl)
    (of_decide_eq_true (by kernel_rfl)) (by unfold Func.isWrapper; first | (rw [if_pos (by decide +kernel)]; kernel_rfl) | (rw [if_neg (by decide +kernel)]; exact ⟨rfl, rfl⟩))
    (fun os started H enc _ => liftedRunsExpand os started H enc)

theorem holdsRunsExpand : Rows.RunsExpandSaid := overRunsExpand
#print axioms holdsRunsExpand
end Go.Proofs.Ytmmgcfhoigpomaa
