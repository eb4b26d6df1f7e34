/- Proved: CombineFar returns true for every input: what is joined is parted, three rows are joined in either order, noughts add up. No condition. -/
import Derived.Test.YtnfdbljeinlblaaCombField
namespace Go.Proofs.Ytnfdbljeinlblaa
open Go.ChangeShapes Go.WideShapes Go.ChangeAt Go.RowKit
set_option linter.unusedVariables false
set_option linter.unusedSimpArgs false

theorem powI_nat (m : Nat) : powI (m : Int) = ((xP m).toNat : Int) := by
  rw [powI_B]
  have h : (normI (m : Int)).toNat = m % 4294967295 := by
    unfold normI
    rw [Int.tmod_eq_emod_of_nonneg (by omega), if_neg (by omega)]
    omega
  rw [h, xP_mod]
theorem bytesI_nat (k : Nat) : bytesI (k : Int) = ((xP (8 * k)).toNat : Int) := by
  unfold bytesI
  rw [Int.tmod_eq_emod_of_nonneg (by omega)]
  have e : (k : Int) % 4294967295 * 8 = ((8 * (k % 4294967295) : Nat) : Int) := by omega
  rw [e, powI_nat, ← xP_mod (8 * k), ← xP_mod (8 * (k % 4294967295))]
  rw [Nat.mul_mod 8 (k % 4294967295), Nat.mod_mod, ← Nat.mul_mod]
theorem bytesI_add (k l : Nat) : timesI (bytesI k) (bytesI l) = bytesI ((k : Int) + l) := by
  rw [show (k : Int) + l = ((k + l : Nat) : Int) from by omega, bytesI_nat, bytesI_nat, bytesI_nat, timesI_B, xP_add, Nat.mul_add]
theorem notI_B (x : B32) : notI (x.toNat : Int) = ((x ^^^ 4294967295#32).toNat : Int) := by
  unfold notI
  rw [show (4294967295 : Int) = ((4294967295#32 : B32).toNat : Int) from by decide, xorI, BitVec.xor_comm]
theorem notI_notI (a : Int) (ha : 0 ≤ a ∧ a < 4294967296) : notI (notI a) = a := by
  obtain ⟨x, rfl⟩ := ofI a ha
  rw [notI_B, notI_B, BitVec.xor_assoc]; simp
theorem xor_cancel (a b : Int) (ha : 0 ≤ a ∧ a < 4294967296) (hb : 0 ≤ b ∧ b < 4294967296) : bits .xor .u32 (bits .xor .u32 a b) b = a := by
  obtain ⟨x, rfl⟩ := ofI a ha
  obtain ⟨y, rfl⟩ := ofI b hb
  rw [xorI, xorI, BitVec.xor_assoc]; simp
theorem xor_cancel' (a b : Int) (ha : 0 ≤ a ∧ a < 4294967296) (hb : 0 ≤ b ∧ b < 4294967296) : bits .xor .u32 a (bits .xor .u32 a b) = b := by
  obtain ⟨x, rfl⟩ := ofI a ha
  obtain ⟨y, rfl⟩ := ofI b hb
  rw [xorI, xorI, ← BitVec.xor_assoc]; simp
theorem xor_assocI (a b c : Int) (ha : 0 ≤ a ∧ a < 4294967296) (hb : 0 ≤ b ∧ b < 4294967296) (hc : 0 ≤ c ∧ c < 4294967296) : bits .xor .u32 (bits .xor .u32 a b) c = bits .xor .u32 a (bits .xor .u32 b c) := by
  obtain ⟨x, rfl⟩ := ofI a ha
  obtain ⟨y, rfl⟩ := ofI b hb
  obtain ⟨z, rfl⟩ := ofI c hc
  rw [xorI, xorI, xorI, xorI, BitVec.xor_assoc]
theorem tI_xorl (a b c : Int) (ha : 0 ≤ a ∧ a < 4294967296) (hb : 0 ≤ b ∧ b < 4294967296) (hc : 0 ≤ c ∧ c < 4294967296) : timesI (bits .xor .u32 a b) c = bits .xor .u32 (timesI a c) (timesI b c) := by
  rw [tI_comm _ _ (bits_range_u32 _ _ _) hc, tI_xor c a b hc ha hb, tI_comm c a hc ha, tI_comm c b hc hb]

theorem head_join (a b : Int) (k : Int) (hk : 0 ≤ k) (ha : 0 ≤ a ∧ a < 4294967296) (hb : 0 ≤ b ∧ b < 4294967296) : headI (joinI a b k) b k = a := by
  unfold headI joinI
  rw [if_neg (by omega), if_neg (by omega), xor_cancel _ _ (timesI_range _ _) hb]
  unfold bytesI
  rw [tI_assoc _ _ _ ha (powI_range _) (powI_range _), powI_inv, tI_one a ha]
theorem tail_join (a b : Int) (k : Int) (hk : 0 ≤ k) (ha : 0 ≤ a ∧ a < 4294967296) (hb : 0 ≤ b ∧ b < 4294967296) : tailI (joinI a b k) a k = b := by
  unfold tailI joinI
  rw [if_neg (by omega), if_neg (by omega), if_neg (by omega), xor_cancel' _ _ (timesI_range _ _) hb]
theorem join_join (a b c : Int) (k l : Nat) (ha : 0 ≤ a ∧ a < 4294967296) (hb : 0 ≤ b ∧ b < 4294967296) (hc : 0 ≤ c ∧ c < 4294967296) :
    joinI (joinI a b k) c l = joinI a (joinI b c l) ((k : Int) + l) := by
  unfold joinI
  rw [if_neg (by omega), if_neg (by omega), if_neg (by omega), if_neg (by omega), tI_xorl _ _ _ (timesI_range _ _) hb (bytesI_range _), ← bytesI_add,
    ← tI_assoc a _ _ ha (bytesI_range _) (bytesI_range _), xor_assocI _ _ _ (timesI_range _ _) (timesI_range _ _) hc]
theorem noughts_noughts (a : Int) (k l : Nat) (ha : 0 ≤ a ∧ a < 4294967296) : noughtsI (noughtsI a k) l = noughtsI a ((k : Int) + l) := by
  unfold noughtsI
  rw [if_neg (by omega), if_neg (by omega), if_neg (by omega), notI_notI _ (timesI_range _ _), ← bytesI_add, tI_assoc _ _ _ (notI_range _) (bytesI_range _) (bytesI_range _)]

set_option maxHeartbeats 4000000 in
set_option maxRecDepth 100000 in
theorem walkCombineFar (a b c n m : Int) (w : World) (ha : 0 ≤ a ∧ a < 4294967296) (hb : 0 ≤ b ∧ b < 4294967296) (hc : 0 ≤ c ∧ c < 4294967296) (hn : 0 ≤ n ∧ n < 4294967296) (hm : 0 ≤ m ∧ m < 4294967296) :
    Calls Try.prog 7 #[.int .u32 a, .int .u32 b, .int .u32 c, .int .u32 n, .int .u32 m] w fun e w' => e = .returned (.bool true) ∧ Below w.heap.size w w' := by
  have g1 : (headI (joinI a b n) b n == a) = true := by rw [head_join a b n hn.1 ha hb]; simp
  have g2 : (tailI (joinI a b n) a n == b) = true := by rw [tail_join a b n hn.1 ha hb]; simp
  have g3 : (joinI (joinI a b n) c m == joinI a (joinI b c m) (n + m)) = true := by
    obtain ⟨k, rfl⟩ := Int.eq_ofNat_of_zero_le hn.1
    obtain ⟨l, rfl⟩ := Int.eq_ofNat_of_zero_le hm.1
    rw [join_join a b c k l ha hb hc]; simp
  have g4 : (noughtsI (noughtsI a n) m == noughtsI a (n + m)) = true := by
    obtain ⟨k, rfl⟩ := Int.eq_ofNat_of_zero_le hn.1
    obtain ⟨l, rfl⟩ := Int.eq_ofNat_of_zero_le hm.1
    rw [noughts_noughts a k l ha]; simp
  have r1 := joinI_range a b n
  have r2 := joinI_range b c m
  have r3 := noughtsI_range a n ha
  go_enter Try.func7, Try.ntmps7
  go_wp2_with fail
  refine (fixed37_any _).mono ?_
  rintro e w1 ⟨rfl, hb1⟩
  go_wp2_with (first | (go_at_call 22; refine (join_any _ _ _ _ (by assumption) (by assumption) (by omega) (by omega)).mono ?_; rintro e w' ⟨rfl, rfl⟩) | (go_at_call 23; refine (head_any _ _ _ _ (by assumption) (by assumption) (by omega) (by omega)).mono ?_; rintro e w' ⟨rfl, rfl⟩) | (go_at_call 24; refine (tail_any _ _ _ _ (by assumption) (by assumption) (by omega) (by omega)).mono ?_; rintro e w' ⟨rfl, rfl⟩) | (go_at_call 27; refine (noughts_any _ _ _ (by assumption) (by omega) (by omega)).mono ?_; rintro e w' ⟨rfl, rfl⟩))
  go_ret
  exact ⟨rfl, hb1⟩

/-! The lift of the walk to the given statement CombineFar. -/
set_option maxRecDepth 100000 in
theorem liftedCombineFar (os : Os) (started : os.Started) (H : Type) (enc : TypeId × Value → H) :
    ReturnsInHanded {} Try.checked os 7 .any (Rows.combineFarSpec.pre6 enc Try.prog Try.f7 Rows.combineFarRow.domain false) (Rows.combineFarSpec.post enc Try.prog Try.f7 false true false false) := by
  refine returnsInHanded_of_change (C := Try.checked) ownKnobT started (by kernel_rfl) Try.func7
    (ChangeSpec.witness6 (enc := enc) (C := Try.checked) false ⟨#[], #[.int .u32 0, .int .u32 0, .int .u32 0, .int .u32 0, .int .u32 0], []⟩ 8 (by kernel_rfl) (by kernel_rfl) (by kernel_rfl) (by kernel_rfl)) ?_
  intro W base args ds gs before hval0 hW hcnd _
  have hval : ∀ (j : Nat) t v, Try.f7.params[j]? = some t → args[j]? = some v → Value.okWide Try.prog W .any base t v := hval0
  have hW' := hW
  obtain ⟨p, q, hA0, hV, rfl, hfz, hnd⟩ := hW
  have hA : DataW.TrodAll enc Try.prog W 0 (fun _ => true) true Try.f7.params.toList args.toList ds p := hA0
  rw [Try.params7] at hA hval
  obtain ⟨v0, vs0, d0, ds0, p0, q0, hargs, rfl, rfl, h0, r0⟩ := trodAll_cons hA
  obtain ⟨v1, vs1, d1, ds1, p1, q1, rfl, rfl, rfl, h1, r1⟩ := trodAll_cons r0
  obtain ⟨v2, vs2, d2, ds2, p2, q2, rfl, rfl, rfl, h2, r2⟩ := trodAll_cons r1
  obtain ⟨v3, vs3, d3, ds3, p3, q3, rfl, rfl, rfl, h3, r3⟩ := trodAll_cons r2
  obtain ⟨v4, vs4, d4, ds4, p4, q4, rfl, rfl, rfl, h4, r4⟩ := trodAll_cons r3
  obtain ⟨rfl, rfl, rfl⟩ := trodAll_nil r4
  obtain rfl : args = #[v0, v1, v2, v3, v4] := by cases args; simp_all
  obtain ⟨rfl, rfl⟩ := trodVars_none hV
  obtain ⟨a0, rfl, rfl, rfl, w0⟩ := open_int Try.underlying33 (hval 0 33 v0 rfl rfl) h0
  obtain ⟨a1, rfl, rfl, rfl, w1⟩ := open_int Try.underlying33 (hval 1 33 v1 rfl rfl) h1
  obtain ⟨a2, rfl, rfl, rfl, w2⟩ := open_int Try.underlying33 (hval 2 33 v2 rfl rfl) h2
  obtain ⟨a3, rfl, rfl, rfl, w3⟩ := open_int Try.underlying33 (hval 3 33 v3 rfl rfl) h3
  obtain ⟨a4, rfl, rfl, rfl, w4⟩ := open_int Try.underlying33 (hval 4 33 v4 rfl rfl) h4
  clear hA0 hval0
  refine (walkCombineFar a0 a1 a2 a3 a4 W (wf_u32R w0) (wf_u32R w1) (wf_u32R w2) (wf_u32R w3) (wf_u32R w4)).mono fun e W' ⟨he, bel⟩ => ?_
  subst he
  exact ⟨_, rfl, _, _, _, [], _, [], hW', trodAll_mk1 (shut_bool Try.underlying4 _), (trodAll_cons_mk (shut_int Try.underlying33 w0) (trodAll_cons_mk (shut_int Try.underlying33 w1) (trodAll_cons_mk (shut_int Try.underlying33 w2) (trodAll_cons_mk (shut_int Try.underlying33 w3) (trodAll_cons_mk (shut_int Try.underlying33 w4) trodAll_mk0))))), rfl, bel.frame _, fun h => by cases h⟩

theorem overCombineFar : Rows.combineFarRow.holds Try.pinned (OpenSpec.ofChange Rows.combineFarSpec) :=
  OpenClaim.holds_of_wide 7 Try.f7 rfl rfl rfl rfl rfl rfl rfl ⟨rfl, rfl, rfl, rfl, rfl⟩ rfl rfl rfl rfl rfl (by kernel_rfl) Try.func7 (by kernel_rfl)
    (of_decide_eq_true (by kernel_rfl)) (by unfold Func.isWrapper; first | (rw [if_pos (by decide +kernel)]; kernel_rfl) | (rw [if_neg (by decide +kernel)]; exact ⟨rfl, rfl⟩))
    (fun os started H enc _ => liftedCombineFar os started H enc)

theorem holdsCombineFar : Rows.CombineFarSaid := overCombineFar
#print axioms holdsCombineFar
end Go.Proofs.Ytnfdbljeinlblaa
