/- Proved: CombineJoins returns true for every input: of any two rows the sum behind each other is told by their sums. No condition. -/
import Derived.Test.YtnfdbljeinlblaaCombFar
import Derived.Test.YtnfdbljeinlblaaCrcM
namespace Go.Proofs.Ytnfdbljeinlblaa
open Go.ChangeShapes Go.WideShapes Go.ChangeAt Go.RowKit
set_option linter.unusedVariables false
set_option linter.unusedSimpArgs false

theorem byte_one (k : List UInt8) : ∀ y ∈ k, (byteV y).oneCell' = true := fun _ _ => rfl
theorem refSumI_any (a : Option Addr) (n c : Nat) (b : List UInt8) (w : World) (hl : b.length = n) (hn : n ≤ 1000000000) (hr : Rd w byteV a b) :
  Calls Try.prog 21 #[.slice a n c] w fun e w' => e = .returned (.int .u32 (crcSumI b)) ∧ Below w.heap.size w w' :=
  (refSum_any a n c b w hl hn hr).mono fun e w' ⟨h1, h2⟩ => ⟨by rw [h1, refSum_eq], h2⟩

theorem regB_append (l m : List Bool) (v : B32) : regB (l ++ m) v = regB m (regB l v) := by simp [regB, List.foldl_append]
theorem nextB_iter (k : Nat) (v : B32) : nextB (iterB k v) = iterB k (nextB v) := by
  induction k generalizing v with
  | zero => rfl
  | succ k ih => simp only [iterB, ih]
theorem regB_lin (m : List Bool) (u v : B32) : regB m (u ^^^ v) = iterB m.length u ^^^ regB m v := by
  induction m generalizing u v with
  | nil => rfl
  | cons b m ih =>
    show regB m (nextB ((u ^^^ v) ^^^ bitB b)) = _
    rw [BitVec.xor_assoc, nextB_xor, ih]; rfl
theorem mulB_xP (x : B32) (k : Nat) : mulB x (xP k) = iterB k x := by
  have h : ∀ k, mulB x (xP k) = Nat.rec x (fun _ v => nextB v) k := by
    intro k
    induction k with
    | zero => exact mulB_one x
    | succ k ih => rw [xP, mulB_next, ih]
  rw [h]
  have h2 : ∀ (k : Nat) (v : B32), (Nat.rec v (fun _ v => nextB v) k : B32) = iterB k v := by
    intro k
    induction k with
    | zero => intro v; rfl
    | succ k ih => intro v; show nextB (Nat.rec v (fun _ v => nextB v) k) = _; rw [ih, nextB_iter]; rfl
  exact h2 k x
theorem ofL_append (a b : List UInt8) : ofL (a ++ b) = ofL a ++ ofL b := by simp [ofL, List.flatMap_append]
theorem sum_join (a b : List UInt8) : crcSumI (a ++ b) = joinI (crcSumI a) (crcSumI b) (b.length : Int) := by
  unfold joinI
  rw [if_neg (by omega), crcSumI_B, crcSumI_B, crcSumI_B, bytesI_nat, timesI_B, mulB_xP, xorI, ofL_append, regB_append]
  congr 2
  generalize regB (ofL a) onesB = r
  have h : r = (onesB ^^^ r) ^^^ onesB := by rw [BitVec.xor_comm, ← BitVec.xor_assoc, BitVec.xor_self, BitVec.zero_xor]
  have h2 := regB_lin (ofL b) (onesB ^^^ r) onesB
  rw [← h, ofL_length] at h2
  rw [h2, ← BitVec.xor_assoc, ← BitVec.xor_assoc, BitVec.xor_comm onesB]

set_option maxHeartbeats 4000000 in
set_option maxRecDepth 100000 in
theorem walkCombineJoins (a0 : Option Addr) (n0 c0 : Nat) (l0 : List UInt8) (a1 : Option Addr) (n1 c1 : Nat) (l1 : List UInt8) (w : World)
    (hl0 : l0.length = n0) (hm0 : n0 ≤ maxLen) (hr0 : Rd w byteV a0 l0) (hl1 : l1.length = n1) (hm1 : n1 ≤ maxLen) (hr1 : Rd w byteV a1 l1) :
    Calls Try.prog 4 #[.slice a0 n0 c0, .slice a1 n1 c1] w fun e w' => e = .returned (.bool true) ∧ Below w.heap.size w w' := by
  unfold maxLen at hm0 hm1
  by_cases h0 : 200 < n0
  · go_enter Try.func4, Try.ntmps4
    go_wp2_with fail
    refine (fixed37_any _).mono ?_
    rintro e w1 ⟨rfl, hb1⟩
    go_wp2
    go_ret
    exact ⟨rfl, hb1⟩
  by_cases h1 : 200 < n1
  · go_enter Try.func4, Try.ntmps4
    go_wp2_with fail
    refine (fixed37_any _).mono ?_
    rintro e w1 ⟨rfl, hb1⟩
    go_wp2
    go_ret
    exact ⟨rfl, hb1⟩
  have hj := sum_join l0 l1
  rw [hl1] at hj
  have hx := crcSumI_range l0
  have hy := crcSumI_range l1
  have hz := crcSumI_range (l0 ++ l1)
  have g1 : (joinI (crcSumI l0) (crcSumI l1) (n1 : Int) == crcSumI (l0 ++ l1)) = true := by rw [hj]; simp
  have g2 : (headI (crcSumI (l0 ++ l1)) (crcSumI l1) (n1 : Int) == crcSumI l0) = true := by rw [hj, head_join _ _ _ (by omega) hx hy]; simp
  have g3 : (tailI (crcSumI (l0 ++ l1)) (crcSumI l0) (n1 : Int) == crcSumI l1) = true := by rw [hj, tail_join _ _ _ (by omega) hx hy]; simp
  have HL0 := Lib.hid hl0
  have HL1 := Lib.hid hl1
  have HR0 := Lib.hid hr0
  have HR1 := Lib.hid hr1
  clear hl0 hl1 hr0 hr1 hj
  go_enter Try.func4, Try.ntmps4
  go_wp2_with fail
  refine (fixed37_any _).mono ?_
  rintro e w1 ⟨rfl, hb1⟩
  go_wp2_with fail
  refine (refSumI_any a0 n0 c0 l0 w1 HL0.out (by omega) (HR0.out.later hb1)).mono ?_
  rintro e w2 ⟨rfl, hb2⟩
  have hb3 := below_trans0 hb1 hb1.size hb2
  clear hb1 hb2
  go_wp2_with fail
  refine (refSumI_any a1 n1 c1 l1 w2 HL1.out (by omega) (HR1.out.later hb3)).mono ?_
  rintro e w3 ⟨rfl, hb4⟩
  have hb5 := below_trans0 hb3 hb3.size hb4
  clear hb3 hb4
  have hs5 := hb5.size
  have hown0 := Own.empty (E := byteV) w3 5 hs5
  have hb6 := hb5.alloc hs5 (.cells #[] 5)
  have hs6 := hb6.size
  have hq0 := HR0.out.later hb6
  have HQ0 := Lib.hid hq0
  clear hq0
  go_wp2_with (first | (at_builtin; refine wpList_cat slByte rfl _ _ rfl rfl hown0 rfl HL0.out HQ0.out (byte_one _) (by omega) (by unfold maxLen; omega) hs6 ?_; intro a4 c4 w4 hown4 hg4 _ _; simp only [Nat.zero_add, List.nil_append] at hown4; have hb7 := hown0.step hb6 hg4 hs6; have hs7 := hb7.size; have HQ1 := Lib.hid (HR1.out.later hb7); clear hown0 hb6 hg4) | (at_builtin; refine wpList_cat slByte rfl _ _ rfl rfl hown4 rfl HL1.out HQ1.out (byte_one _) (by omega) (by unfold maxLen; omega) hs7 ?_; intro a5 c5 w5 hown5 hg5 _ _; have hb8 := hown4.step hb7 hg5 hs7; clear hown4 hb7 hg5))
  refine (refSumI_any _ _ _ (l0 ++ l1) _ (by have := hown5.len; simpa using this) (by omega) (by simpa using hown5.rd)).mono ?_
  rintro e w6 ⟨rfl, hb9⟩
  have hb10 := below_trans0 hb8 hb8.size hb9
  clear hb8 hb9
  go_wp2_with fail
  refine (join_any _ _ _ _ hx hy (by omega) (by omega)).mono ?_
  rintro e w' ⟨rfl, rfl⟩
  go_wp2_with fail
  refine (head_any _ _ _ _ hz hy (by omega) (by omega)).mono ?_
  rintro e w' ⟨rfl, rfl⟩
  go_wp2_with fail
  refine (tail_any _ _ _ _ hz hx (by omega) (by omega)).mono ?_
  rintro e w' ⟨rfl, rfl⟩
  go_wp2
  go_ret
  exact ⟨rfl, hb10⟩

/-! The lift of the walk to the given statement CombineJoins. -/
set_option maxRecDepth 100000 in
theorem liftedCombineJoins (os : Os) (started : os.Started) (H : Type) (enc : TypeId × Value → H) :
    ReturnsInHanded {} Try.checked os 4 .any (Rows.combineJoinsSpec.pre6 enc Try.prog Try.f4 Rows.combineJoinsRow.domain false) (Rows.combineJoinsSpec.post enc Try.prog Try.f4 false true false false) := by
  refine returnsInHanded_of_change (C := Try.checked) ownKnobT started (by kernel_rfl) Try.func4
    (ChangeSpec.witness6 (enc := enc) (C := Try.checked) false ⟨#[], #[.slice none 0 0, .slice none 0 0], []⟩ 8 (by kernel_rfl) (by kernel_rfl) (by kernel_rfl) (by kernel_rfl)) ?_
  intro W base args ds gs before hval0 hW hcnd _
  have hval : ∀ (j : Nat) t v, Try.f4.params[j]? = some t → args[j]? = some v → Value.okWide Try.prog W .any base t v := hval0
  have hW' := hW
  obtain ⟨p, q, hA0, hV, rfl, hfz, hnd⟩ := hW
  have hA : DataW.TrodAll enc Try.prog W 0 (fun _ => true) true Try.f4.params.toList args.toList ds p := hA0
  rw [Try.params4] at hA hval
  obtain ⟨v0, vs0, d0, ds0, p0, q0, hargs, rfl, rfl, h0, r0⟩ := trodAll_cons hA
  obtain ⟨v1, vs1, d1, ds1, p1, q1, rfl, rfl, rfl, h1, r1⟩ := trodAll_cons r0
  obtain ⟨rfl, rfl, rfl⟩ := trodAll_nil r1
  obtain rfl : args = #[v0, v1] := by cases args; simp_all
  obtain ⟨rfl, rfl⟩ := trodVars_none hV
  obtain ⟨a0, n0, c0, rfl⟩ := okWide_slice Try.underlying32 (hval 0 32 v0 rfl rfl)
  have k0 := h0
  have lt0 : ∀ x ∈ p0, x.block < W.heap.size := by obtain ⟨m, hm⟩ := k0; exact DataW.trod_lt m _ _ _ hm
  obtain ⟨l0, hl0, hnc0, hcm0, hr0⟩ := openBytesL Try.underlying32 Try.underlying5 (by kernel_rfl) h0
  obtain ⟨a1, n1, c1, rfl⟩ := okWide_slice Try.underlying32 (hval 1 32 v1 rfl rfl)
  have k1 := h1
  have lt1 : ∀ x ∈ p1, x.block < W.heap.size := by obtain ⟨m, hm⟩ := k1; exact DataW.trod_lt m _ _ _ hm
  obtain ⟨l1, hl1, hnc1, hcm1, hr1⟩ := openBytesL Try.underlying32 Try.underlying5 (by kernel_rfl) h1
  clear hA0 hval0
  refine (walkCombineJoins a0 n0 c0 l0 a1 n1 c1 l1 W hl0 (Nat.le_trans hnc0 hcm0) hr0 hl1 (Nat.le_trans hnc1 hcm1) hr1).mono fun e W' ⟨he, bel⟩ => ?_
  subst he
  exact ⟨_, rfl, _, _, _, [], _, [], hW', trodAll_mk1 (shut_bool Try.underlying4 _), (trodAll_cons_mk (Below.trod laidOutT (by kernel_rfl) (of_decide_eq_true (by kernel_rfl)) k0 bel lt0) (trodAll_cons_mk (Below.trod laidOutT (by kernel_rfl) (of_decide_eq_true (by kernel_rfl)) k1 bel lt1) trodAll_mk0)), rfl, bel.frame _, fun h => by cases h⟩

theorem overCombineJoins : Rows.combineJoinsRow.holds Try.pinned (OpenSpec.ofChange Rows.combineJoinsSpec) :=
  OpenClaim.holds_of_wide 4 Try.f4 rfl rfl rfl rfl rfl rfl rfl ⟨rfl, rfl, rfl, rfl, rfl⟩ rfl rfl rfl rfl rfl (by kernel_rfl) Try.func4 (by kernel_rfl)
    (of_decide_eq_true (by kernel_rfl)) (by unfold Func.isWrapper; first | (rw [if_pos (by decide +kernel)]; kernel_rfl) | (rw [if_neg (by decide +kernel)]; exact ⟨rfl, rfl⟩))
    (fun os started H enc _ => liftedCombineJoins os started H enc)

theorem holdsCombineJoins : Rows.CombineJoinsSaid := overCombineJoins
#print axioms holdsCombineJoins
end Go.Proofs.Ytnfdbljeinlblaa
