/- Proved: CombineField returns true for every input: products of polynomials commute, associate and distribute, and x to n times x to -n is 1. No condition. -/
import Derived.Test.YtnfdbljeinlblaaComb2
import Derived.Test.YtnfdbljeinlblaaCombM
import Derived.Test.YtnfdbljeinlblaaOpen
namespace Go.Proofs.Ytnfdbljeinlblaa
open Go.ChangeShapes Go.WideShapes Go.ChangeAt Go.RowKit
set_option linter.unusedVariables false
set_option linter.unusedSimpArgs false

theorem tI_comm (a b : Int) (ha : 0 ≤ a ∧ a < 4294967296) (hb : 0 ≤ b ∧ b < 4294967296) : timesI a b = timesI b a := by
  obtain ⟨x, rfl⟩ := ofI a ha
  obtain ⟨y, rfl⟩ := ofI b hb
  rw [timesI_B, timesI_B, mulB_comm]
theorem tI_assoc (a b c : Int) (ha : 0 ≤ a ∧ a < 4294967296) (hb : 0 ≤ b ∧ b < 4294967296) (hc : 0 ≤ c ∧ c < 4294967296) : timesI (timesI a b) c = timesI a (timesI b c) := by
  obtain ⟨x, rfl⟩ := ofI a ha
  obtain ⟨y, rfl⟩ := ofI b hb
  obtain ⟨z, rfl⟩ := ofI c hc
  rw [timesI_B, timesI_B, timesI_B, timesI_B, mulB_assoc]
theorem tI_xor (a b c : Int) (ha : 0 ≤ a ∧ a < 4294967296) (hb : 0 ≤ b ∧ b < 4294967296) (hc : 0 ≤ c ∧ c < 4294967296) : timesI a (bits .xor .u32 b c) = bits .xor .u32 (timesI a b) (timesI a c) := by
  obtain ⟨x, rfl⟩ := ofI a ha
  obtain ⟨y, rfl⟩ := ofI b hb
  obtain ⟨z, rfl⟩ := ofI c hc
  rw [xorI, timesI_B, timesI_B, timesI_B, xorI, mulB_xor]
theorem tI_one (a : Int) (ha : 0 ≤ a ∧ a < 4294967296) : timesI a 2147483648 = a := by
  obtain ⟨x, rfl⟩ := ofI a ha
  rw [show (2147483648 : Int) = (oneB.toNat : Int) from by decide, timesI_B, mulB_one]
theorem normI_neg (n : Int) : (normI n).toNat + (normI (-n)).toNat = 0 ∨ (normI n).toNat + (normI (-n)).toNat = 4294967295 := by
  unfold normI
  rw [Int.neg_tmod]
  have := tmod_bounds n
  split <;> split <;> omega
theorem powI_inv (n : Int) : timesI (powI n) (powI (-n)) = 2147483648 := by
  rw [powI_B, powI_B, timesI_B, xP_add]
  rcases normI_neg n with h | h
  · rw [h]; decide
  · rw [h, xP_order]; decide

set_option maxHeartbeats 4000000 in
set_option maxRecDepth 100000 in
theorem walkCombineField (a b c n : Int) (w : World) (ha : 0 ≤ a ∧ a < 4294967296) (hb : 0 ≤ b ∧ b < 4294967296) (hc : 0 ≤ c ∧ c < 4294967296) (hn : -9223372036854775808 ≤ n ∧ n ≤ 9223372036854775807) :
    Calls Try.prog 5 #[.int .u32 a, .int .u32 b, .int .u32 c, .int .i64 n] w fun e w' => e = .returned (.bool true) ∧ Below w.heap.size w w' := by
  have g1 : (timesI a b == timesI b a) = true := by rw [tI_comm a b ha hb]; simp
  have g2 : (timesI (timesI a b) c == timesI a (timesI b c)) = true := by rw [tI_assoc a b c ha hb hc]; simp
  have g3 : (timesI a (bits .xor .u32 b c) == bits .xor .u32 (timesI a b) (timesI a c)) = true := by rw [tI_xor a b c ha hb hc]; simp
  have g4 : (timesI a 2147483648 == a) = true := by rw [tI_one a ha]; simp
  have g5 : (timesI (powI n) (powI (-n)) == 2147483648) = true := by rw [powI_inv]; rfl
  have r1 := timesI_range a b
  have r2 := timesI_range b c
  have r3 := bits_range_u32 .xor b c
  have r4 := powI_range n
  have r5 := powI_range (-n)
  by_cases hmin : n = -9223372036854775808
  · subst hmin
    clear g5 r4 r5
    have hwr : wrap64 9223372036854775808 = -9223372036854775808 := by unfold wrap64; omega
    go_enter Try.func5, Try.ntmps5
    go_wp2_with fail
    refine (fixed37_any _).mono ?_
    rintro e w1 ⟨rfl, hb1⟩
    go_wp2
    go_ret
    exact ⟨rfl, hb1⟩
  · have hn1 : -9223372036854775807 ≤ n := by omega
    have hn2 := hn.2
    clear hn hmin
    by_cases hz : n = 0
    · subst hz
      go_enter Try.func5, Try.ntmps5
      go_wp2_with fail
      refine (fixed37_any _).mono ?_
      rintro e w1 ⟨rfl, hb1⟩
      go_wp2_with (first | (go_at_call 25; refine (times_any _ _ _ (by assumption) (by assumption)).mono ?_; rintro e w' ⟨rfl, rfl⟩) | (go_at_call 25; refine (times_any _ _ _ (by first | assumption | omega) (by first | assumption | omega)).mono ?_; rintro e w' ⟨rfl, rfl⟩) | (go_at_call 26; refine (power_any _ _ (by omega) (by omega)).mono ?_; rintro e w' ⟨rfl, rfl⟩))
      go_ret
      exact ⟨rfl, hb1⟩
    · have hne : (n == -n) = false := by simp; omega
      go_enter Try.func5, Try.ntmps5
      go_wp2_with fail
      refine (fixed37_any _).mono ?_
      rintro e w1 ⟨rfl, hb1⟩
      go_wp2_with (first | (go_at_call 25; refine (times_any _ _ _ (by assumption) (by assumption)).mono ?_; rintro e w' ⟨rfl, rfl⟩) | (go_at_call 25; refine (times_any _ _ _ (by first | assumption | omega) (by first | assumption | omega)).mono ?_; rintro e w' ⟨rfl, rfl⟩) | (go_at_call 26; refine (power_any _ _ (by omega) (by omega)).mono ?_; rintro e w' ⟨rfl, rfl⟩))
      go_ret
      exact ⟨rfl, hb1⟩

/-! The lift of the walk to the given statement CombineField. -/
set_option maxRecDepth 100000 in
theorem liftedCombineField (os : Os) (started : os.Started) (H : Type) (enc : TypeId × Value → H) :
    ReturnsInHanded {} Try.checked os 5 .any (Rows.combineFieldSpec.pre6 enc Try.prog Try.f5 Rows.combineFieldRow.domain false) (Rows.combineFieldSpec.post enc Try.prog Try.f5 false true false false) := by
  refine returnsInHanded_of_change (C := Try.checked) ownKnobT started (by kernel_rfl) Try.func5
    (ChangeSpec.witness6 (enc := enc) (C := Try.checked) false ⟨#[], #[.int .u32 0, .int .u32 0, .int .u32 0, .int .i64 0], []⟩ 8 (by kernel_rfl) (by kernel_rfl) (by kernel_rfl) (by kernel_rfl)) ?_
  intro W base args ds gs before hval0 hW hcnd _
  have hval : ∀ (j : Nat) t v, Try.f5.params[j]? = some t → args[j]? = some v → Value.okWide Try.prog W .any base t v := hval0
  have hW' := hW
  obtain ⟨p, q, hA0, hV, rfl, hfz, hnd⟩ := hW
  have hA : DataW.TrodAll enc Try.prog W 0 (fun _ => true) true Try.f5.params.toList args.toList ds p := hA0
  rw [Try.params5] at hA hval
  obtain ⟨v0, vs0, d0, ds0, p0, q0, hargs, rfl, rfl, h0, r0⟩ := trodAll_cons hA
  obtain ⟨v1, vs1, d1, ds1, p1, q1, rfl, rfl, rfl, h1, r1⟩ := trodAll_cons r0
  obtain ⟨v2, vs2, d2, ds2, p2, q2, rfl, rfl, rfl, h2, r2⟩ := trodAll_cons r1
  obtain ⟨v3, vs3, d3, ds3, p3, q3, rfl, rfl, rfl, h3, r3⟩ := trodAll_cons r2
  obtain ⟨rfl, rfl, rfl⟩ := trodAll_nil r3
  obtain rfl : args = #[v0, v1, v2, v3] := by cases args; simp_all
  obtain ⟨rfl, rfl⟩ := trodVars_none hV
  obtain ⟨a0, rfl, rfl, rfl, w0⟩ := open_int Try.underlying33 (hval 0 33 v0 rfl rfl) h0
  obtain ⟨a1, rfl, rfl, rfl, w1⟩ := open_int Try.underlying33 (hval 1 33 v1 rfl rfl) h1
  obtain ⟨a2, rfl, rfl, rfl, w2⟩ := open_int Try.underlying33 (hval 2 33 v2 rfl rfl) h2
  obtain ⟨a3, rfl, rfl, rfl, w3⟩ := open_int Try.underlying3 (hval 3 3 v3 rfl rfl) h3
  clear hA0 hval0
  refine (walkCombineField a0 a1 a2 a3 W (wf_u32R w0) (wf_u32R w1) (wf_u32R w2) (wf_i64R w3)).mono fun e W' ⟨he, bel⟩ => ?_
  subst he
  exact ⟨_, rfl, _, _, _, [], _, [], hW', trodAll_mk1 (shut_bool Try.underlying4 _), (trodAll_cons_mk (shut_int Try.underlying33 w0) (trodAll_cons_mk (shut_int Try.underlying33 w1) (trodAll_cons_mk (shut_int Try.underlying33 w2) (trodAll_cons_mk (shut_int Try.underlying3 w3) trodAll_mk0)))), rfl, bel.frame _, fun h => by cases h⟩

theorem overCombineField : Rows.combineFieldRow.holds Try.pinned (OpenSpec.ofChange Rows.combineFieldSpec) :=
  OpenClaim.holds_of_wide 5 Try.f5 rfl rfl rfl rfl rfl rfl rfl ⟨rfl, rfl, rfl, rfl, rfl⟩ rfl rfl rfl rfl rfl (by kernel_rfl) Try.func5 (by kernel_rfl)
    (of_decide_eq_true (by kernel_rfl)) (by unfold Func.isWrapper; first | (rw [if_pos (by decide +kernel)]; kernel_rfl) | (rw [if_neg (by decide +kernel)]; exact ⟨rfl, rfl⟩))
    (fun os started H enc _ => liftedCombineField os started H enc)

theorem holdsCombineField : Rows.CombineFieldSaid := overCombineField
#print axioms holdsCombineField
end Go.Proofs.Ytnfdbljeinlblaa
