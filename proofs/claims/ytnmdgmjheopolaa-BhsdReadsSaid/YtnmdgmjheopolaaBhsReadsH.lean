/- Proved: BhsdReads returns true for every input: which numbers any bytes tell, by any coding, one by one and in rows, and what is wrong, is what the document says. No condition. -/
import Derived.Test.YtnmdgmjheopolaaBhsReads
import Derived.Test.YtnmdgmjheopolaaOpenS
namespace Go.Proofs.Ytnmdgmjheopolaa
open Go.ChangeShapes Go.WideShapes Go.ChangeAt Go.RowKit
set_option linter.unusedVariables false
set_option linter.unusedSimpArgs false
/-! The lift of the walk to the given statement BhsdReads. -/
set_option maxRecDepth 100000 in
theorem liftedBhsdReads (os : Os) (started : os.Started) (H : Type) (enc : TypeId × Value → H) :
    ReturnsInHanded {} Try.checked os 9 .any (Rows.bhsdReadsSpec.pre6 enc Try.prog Try.f9 Rows.bhsdReadsRow.domain false) (Rows.bhsdReadsSpec.post enc Try.prog Try.f9 false true false false) := by
  refine returnsInHanded_of_change (C := Try.checked) ownKnobT started (by kernel_rfl) Try.func9
    (ChangeSpec.witness6 (enc := enc) (C := Try.checked) false ⟨#[], #[.slice none 0 0, .agg #[.int .i64 0, .int .i64 0, .int .i64 0, .int .i64 0], .int .i64 0], []⟩ 8 (by kernel_rfl) (by kernel_rfl) (by kernel_rfl) (by kernel_rfl)) ?_
  intro W base args ds gs before hval0 hW hcnd _
  have hval : ∀ (j : Nat) t v, Try.f9.params[j]? = some t → args[j]? = some v → Value.okWide Try.prog W .any base t v := hval0
  have hW' := hW
  obtain ⟨p, q, hA0, hV, rfl, hfz, hnd⟩ := hW
  have hA : DataW.TrodAll enc Try.prog W 0 (fun _ => true) true Try.f9.params.toList args.toList ds p := hA0
  rw [Try.params9] at hA hval
  obtain ⟨v0, vs0, d0, ds0, p0, q0, hargs, rfl, rfl, h0, r0⟩ := trodAll_cons hA
  obtain ⟨v1, vs1, d1, ds1, p1, q1, rfl, rfl, rfl, h1, r1⟩ := trodAll_cons r0
  obtain ⟨v2, vs2, d2, ds2, p2, q2, rfl, rfl, rfl, h2, r2⟩ := trodAll_cons r1
  obtain ⟨rfl, rfl, rfl⟩ := trodAll_nil r2
  obtain rfl : args = #[v0, v1, v2] := by cases args; simp_all
  obtain ⟨rfl, rfl⟩ := trodVars_none hV
  obtain ⟨a0, n0, c0, rfl⟩ := okWide_slice Try.underlying26 (hval 0 26 v0 rfl rfl)
  have k0 := h0
  have lt0 : ∀ x ∈ p0, x.block < W.heap.size := by obtain ⟨m, hm⟩ := k0; exact DataW.trod_lt m _ _ _ hm
  obtain ⟨l0, hl0, hnc0, hcm0, hr0⟩ := openBytesL Try.underlying26 Try.underlying5 (by kernel_rfl) h0
  obtain ⟨s1, rfl, hsz1⟩ := okWide_struct Try.underlying23 (hval 1 23 v1 rfl rfl)
  have k1 := h1
  have lt1 : ∀ x ∈ p1, x.block < W.heap.size := by obtain ⟨m, hm⟩ := k1; exact DataW.trod_lt m _ _ _ hm
  obtain ⟨hsl1, hf1⟩ := openStruct Try.underlying23 (by kernel_rfl) (by kernel_rfl) h1
  obtain ⟨sl1⟩ := s1
  obtain ⟨z1_0, z1_1, z1_2, z1_3, rfl⟩ := list_of4 hsl1
  obtain ⟨y1_0, m1_0, t1_0⟩ := hf1 0 _ rfl
  obtain ⟨x1_0, e1_0, g1_0⟩ := open_fint Try.underlying3 t1_0
  replace e1_0 : z1_0 = _ := e1_0
  subst e1_0
  obtain ⟨y1_1, m1_1, t1_1⟩ := hf1 1 _ rfl
  obtain ⟨x1_1, e1_1, g1_1⟩ := open_fint Try.underlying3 t1_1
  replace e1_1 : z1_1 = _ := e1_1
  subst e1_1
  obtain ⟨y1_2, m1_2, t1_2⟩ := hf1 2 _ rfl
  obtain ⟨x1_2, e1_2, g1_2⟩ := open_fint Try.underlying3 t1_2
  replace e1_2 : z1_2 = _ := e1_2
  subst e1_2
  obtain ⟨y1_3, m1_3, t1_3⟩ := hf1 3 _ rfl
  obtain ⟨x1_3, e1_3, g1_3⟩ := open_fint Try.underlying3 t1_3
  replace e1_3 : z1_3 = _ := e1_3
  subst e1_3
  obtain ⟨a2, rfl, rfl, rfl, w2⟩ := open_int Try.underlying3 (hval 2 3 v2 rfl rfl) h2
  clear hA0 hval0
  refine (walkBhsdReads a0 n0 c0 l0 x1_0 x1_1 x1_2 x1_3 a2 W hl0 ⟨hnc0, hcm0⟩ hr0 (wf_i64R g1_0) (wf_i64R g1_1) (wf_i64R g1_2) (wf_i64R g1_3) (wf_i64R w2)).mono fun e W' ⟨he, bel⟩ => ?_
  subst he
  exact ⟨_, rfl, _, _, _, [], _, [], hW', trodAll_mk1 (shut_bool Try.underlying4 _), (trodAll_cons_mk (Below.trod laidOutT (by kernel_rfl) (of_decide_eq_true (by kernel_rfl)) k0 bel lt0) (trodAll_cons_mk (Below.trod laidOutT (by kernel_rfl) (of_decide_eq_true (by kernel_rfl)) k1 bel lt1) (trodAll_cons_mk (shut_int Try.underlying3 w2) trodAll_mk0))), rfl, bel.frame _, fun h => by cases h⟩

theorem overBhsdReads : Rows.bhsdReadsRow.holds Try.pinned (OpenSpec.ofChange Rows.bhsdReadsSpec) :=
  OpenClaim.holds_of_wide 9 Try.f9 rfl rfl rfl rfl rfl rfl rfl ⟨rfl, rfl, rfl, rfl, rfl⟩ rfl rfl rfl rfl rfl (by kernel_rfl) Try.func9 (by kernel_rfl)
    (of_decide_eq_true (by kernel_rfl)) (by unfold Func.isWrapper; first | (rw [if_pos (by decide +kernel)]; kernel_rfl) | (rw [if_neg (by decide +kernel)]; exact ⟨rfl, rfl⟩))
    (fun os started H enc _ => liftedBhsdReads os started H enc)

theorem holdsBhsdReads : Rows.BhsdReadsSaid := overBhsdReads
#print axioms holdsBhsdReads
end Go.Proofs.Ytnmdgmjheopolaa
