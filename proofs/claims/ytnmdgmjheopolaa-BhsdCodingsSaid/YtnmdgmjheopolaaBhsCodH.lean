/- Proved: BhsdCodings returns true for every input: which codings may be, their reach, and which numbers fit, is what the document says. No condition. -/
import Derived.Test.YtnmdgmjheopolaaBhsCod
import Derived.Test.YtnmdgmjheopolaaOpenS
namespace Go.Proofs.Ytnmdgmjheopolaa
open Go.ChangeShapes Go.WideShapes Go.ChangeAt Go.RowKit
set_option linter.unusedVariables false
set_option linter.unusedSimpArgs false
/-! The lift of the walk to the given statement BhsdCodings. -/
set_option maxRecDepth 100000 in
theorem liftedBhsdCodings (os : Os) (started : os.Started) (H : Type) (enc : TypeId × Value → H) :
    ReturnsInHanded {} Try.checked os 3 .any (Rows.bhsdCodingsSpec.pre6 enc Try.prog Try.f3 Rows.bhsdCodingsRow.domain false) (Rows.bhsdCodingsSpec.post enc Try.prog Try.f3 false true false false) := by
  refine returnsInHanded_of_change (C := Try.checked) ownKnobT started (by kernel_rfl) Try.func3
    (ChangeSpec.witness6 (enc := enc) (C := Try.checked) false ⟨#[], #[.agg #[.int .i64 0, .int .i64 0, .int .i64 0, .int .i64 0], .int .i64 0], []⟩ 8 (by kernel_rfl) (by kernel_rfl) (by kernel_rfl) (by kernel_rfl)) ?_
  intro W base args ds gs before hval0 hW hcnd _
  have hval : ∀ (j : Nat) t v, Try.f3.params[j]? = some t → args[j]? = some v → Value.okWide Try.prog W .any base t v := hval0
  have hW' := hW
  obtain ⟨p, q, hA0, hV, rfl, hfz, hnd⟩ := hW
  have hA : DataW.TrodAll enc Try.prog W 0 (fun _ => true) true Try.f3.params.toList args.toList ds p := hA0
  rw [Try.params3] at hA hval
  obtain ⟨v0, vs0, d0, ds0, p0, q0, hargs, rfl, rfl, h0, r0⟩ := trodAll_cons hA
  obtain ⟨v1, vs1, d1, ds1, p1, q1, rfl, rfl, rfl, h1, r1⟩ := trodAll_cons r0
  obtain ⟨rfl, rfl, rfl⟩ := trodAll_nil r1
  obtain rfl : args = #[v0, v1] := by cases args; simp_all
  obtain ⟨rfl, rfl⟩ := trodVars_none hV
  obtain ⟨s0, rfl, hsz0⟩ := okWide_struct Try.underlying23 (hval 0 23 v0 rfl rfl)
  have k0 := h0
  have lt0 : ∀ x ∈ p0, x.block < W.heap.size := by obtain ⟨m, hm⟩ := k0; exact DataW.trod_lt m _ _ _ hm
  obtain ⟨hsl0, hf0⟩ := openStruct Try.underlying23 (by kernel_rfl) (by kernel_rfl) h0
  obtain ⟨sl0⟩ := s0
  obtain ⟨z0_0, z0_1, z0_2, z0_3, rfl⟩ := list_of4 hsl0
  obtain ⟨y0_0, m0_0, t0_0⟩ := hf0 0 _ rfl
  obtain ⟨x0_0, e0_0, g0_0⟩ := open_fint Try.underlying3 t0_0
  replace e0_0 : z0_0 = _ := e0_0
  subst e0_0
  obtain ⟨y0_1, m0_1, t0_1⟩ := hf0 1 _ rfl
  obtain ⟨x0_1, e0_1, g0_1⟩ := open_fint Try.underlying3 t0_1
  replace e0_1 : z0_1 = _ := e0_1
  subst e0_1
  obtain ⟨y0_2, m0_2, t0_2⟩ := hf0 2 _ rfl
  obtain ⟨x0_2, e0_2, g0_2⟩ := open_fint Try.underlying3 t0_2
  replace e0_2 : z0_2 = _ := e0_2
  subst e0_2
  obtain ⟨y0_3, m0_3, t0_3⟩ := hf0 3 _ rfl
  obtain ⟨x0_3, e0_3, g0_3⟩ := open_fint Try.underlying3 t0_3
  replace e0_3 : z0_3 = _ := e0_3
  subst e0_3
  obtain ⟨a1, rfl, rfl, rfl, w1⟩ := open_int Try.underlying3 (hval 1 3 v1 rfl rfl) h1
  clear hA0 hval0
  refine (walkBhsdCodings x0_0 x0_1 x0_2 x0_3 a1 W (wf_i64R g0_0) (wf_i64R g0_1) (wf_i64R g0_2) (wf_i64R g0_3) (wf_i64R w1)).mono fun e W' ⟨he, bel⟩ => ?_
  subst he
  exact ⟨_, rfl, _, _, _, [], _, [], hW', trodAll_mk1 (shut_bool Try.underlying4 _), (trodAll_cons_mk (Below.trod laidOutT (by kernel_rfl) (of_decide_eq_true (by kernel_rfl)) k0 bel lt0) (trodAll_cons_mk (shut_int Try.underlying3 w1) trodAll_mk0)), rfl, bel.frame _, fun h => by cases h⟩

theorem overBhsdCodings : Rows.bhsdCodingsRow.holds Try.pinned (OpenSpec.ofChange Rows.bhsdCodingsSpec) :=
  OpenClaim.holds_of_wide 3 Try.f3 rfl rfl rfl rfl rfl rfl rfl ⟨rfl, rfl, rfl, rfl, rfl⟩ rfl rfl rfl rfl rfl (by kernel_rfl) Try.func3 (by kernel_rfl)
    (of_decide_eq_true (by kernel_rfl)) (by unfold Func.isWrapper; first | (rw [if_pos (by decide +kernel)]; kernel_rfl) | (rw [if_neg (by decide +kernel)]; exact ⟨rfl, rfl⟩))
    (fun os started H enc _ => liftedBhsdCodings os started H enc)

theorem holdsBhsdCodings : Rows.BhsdCodingsSaid := overBhsdCodings
#print axioms holdsBhsdCodings
end Go.Proofs.Ytnmdgmjheopolaa
