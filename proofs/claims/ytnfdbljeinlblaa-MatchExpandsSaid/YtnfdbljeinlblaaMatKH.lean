/- Proved: MatchExpands returns true for every input: what any tokens stand for is what the document says, or why they stand for nothing. No condition. -/
import Derived.Test.YtnfdbljeinlblaaMatK
import Derived.Test.YtnfdbljeinlblaaOpenS
namespace Go.Proofs.Ytnfdbljeinlblaa
open Go.ChangeShapes Go.WideShapes Go.ChangeAt Go.RowKit
set_option linter.unusedVariables false
set_option linter.unusedSimpArgs false
/-! The lift of the walk to the given statement MatchExpands. -/
set_option maxRecDepth 100000 in
theorem liftedMatchExpands (os : Os) (started : os.Started) (H : Type) (enc : TypeId × Value → H) :
    ReturnsInHanded {} Try.checked os 8 .any (Rows.matchExpandsSpec.pre6 enc Try.prog Try.f8 Rows.matchExpandsRow.domain false) (Rows.matchExpandsSpec.post enc Try.prog Try.f8 false true false false) := by
  refine returnsInHanded_of_change (C := Try.checked) ownKnobT started (by kernel_rfl) Try.func8
    (ChangeSpec.witness6 (enc := enc) (C := Try.checked) false ⟨#[], #[.slice none 0 0, .int .i64 0], []⟩ 8 (by kernel_rfl) (by kernel_rfl) (by kernel_rfl) (by kernel_rfl)) ?_
  intro W base args ds gs before hval0 hW hcnd _
  have hval : ∀ (j : Nat) t v, Try.f8.params[j]? = some t → args[j]? = some v → Value.okWide Try.prog W .any base t v := hval0
  have hW' := hW
  obtain ⟨p, q, hA0, hV, rfl, hfz, hnd⟩ := hW
  have hA : DataW.TrodAll enc Try.prog W 0 (fun _ => true) true Try.f8.params.toList args.toList ds p := hA0
  rw [Try.params8] at hA hval
  obtain ⟨v0, vs0, d0, ds0, p0, q0, hargs, rfl, rfl, h0, r0⟩ := trodAll_cons hA
  obtain ⟨v1, vs1, d1, ds1, p1, q1, rfl, rfl, rfl, h1, r1⟩ := trodAll_cons r0
  obtain ⟨rfl, rfl, rfl⟩ := trodAll_nil r1
  obtain rfl : args = #[v0, v1] := by cases args; simp_all
  obtain ⟨rfl, rfl⟩ := trodVars_none hV
  obtain ⟨a0, n0, c0, rfl⟩ := okWide_slice Try.underlying44 (hval 0 44 v0 rfl rfl)
  have k0 := h0
  have lt0 : ∀ x ∈ p0, x.block < W.heap.size := by obtain ⟨m, hm⟩ := k0; exact DataW.trod_lt m _ _ _ hm
  obtain ⟨F0, hnc0, hcm0, hr0, hf0⟩ := openRows Try.underlying44 Try.underlying48 (by kernel_rfl) (by kernel_rfl) (by decide) h0
  obtain ⟨a1, rfl, rfl, rfl, w1⟩ := open_int Try.underlying3 (hval 1 3 v1 rfl rfl) h1
  clear hA0 hval0
  refine (walkMatchExpands a0 n0 c0 F0 a1 W ⟨hnc0, hcm0⟩ hr0 (fun i hi => by
      obtain ⟨y0, m0, t0⟩ := hf0 i 0 _ hi rfl
      obtain ⟨x0, e0, z0⟩ := open_fint Try.underlying5 t0
      obtain ⟨y1, m1, t1⟩ := hf0 i 1 _ hi rfl
      obtain ⟨x1, e1, z1⟩ := open_fint Try.underlying3 t1
      obtain ⟨y2, m2, t2⟩ := hf0 i 2 _ hi rfl
      obtain ⟨x2, e2, z2⟩ := open_fint Try.underlying3 t2
      exact ⟨x0, x1, x2, e0, e1, e2, wf_u8R z0, wf_i64R z1, wf_i64R z2⟩) (wf_i64R w1)).mono fun e W' ⟨he, bel⟩ => ?_
  subst he
  exact ⟨_, rfl, _, _, _, [], _, [], hW', trodAll_mk1 (shut_bool Try.underlying4 _), (trodAll_cons_mk (Below.trod laidOutT (by kernel_rfl) (of_decide_eq_true (by kernel_rfl)) k0 bel lt0) (trodAll_cons_mk (shut_int Try.underlying3 w1) trodAll_mk0)), rfl, bel.frame _, fun h => by cases h⟩

theorem overMatchExpands : Rows.matchExpandsRow.holds Try.pinned (OpenSpec.ofChange Rows.matchExpandsSpec) :=
  OpenClaim.holds_of_wide 8 Try.f8 rfl rfl rfl rfl rfl rfl rfl ⟨rfl, rfl, rfl, rfl, rfl⟩ rfl rfl rfl rfl rfl (by kernel_rfl) Try.func8 (by kernel_rfl)
    (of_decide_eq_true (by kernel_rfl)) (by unfold Func.isWrapper; first | (rw [if_pos (by decide +kernel)]; kernel_rfl) | (rw [if_neg (by decide +kernel)]; exact ⟨rfl, rfl⟩))
    (fun os started H enc _ => liftedMatchExpands os started H enc)

theorem holdsMatchExpands : Rows.MatchExpandsSaid := overMatchExpands
#print axioms holdsMatchExpands
end Go.Proofs.Ytnfdbljeinlblaa
