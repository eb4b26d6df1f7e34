/- The walk of CrcAdds. -/
import Derived.Test.YtmmgcfhoigpomaaFix03
import Derived.Test.YtmmgcfhoigpomaaCrcA
import Derived.Test.YtmmgcfhoigpomaaGrow2
import Derived.Test.YtmmgcfhoigpomaaSl
import Derived.StillTailTactics
namespace Go.Proofs.Ytmmgcfhoigpomaa
open Go.RowKit
set_option linter.unusedVariables false
set_option linter.unusedSimpArgs false

theorem min3_any {P : Program} (n0 n1 n2 : Nat) (ts : Array TypeId) (t : TypeId) (w : World) : (Builtin.min_ ts t #[.int .i64 (n0 : Int), .int .i64 (n1 : Int), .int .i64 (n2 : Int)]).run P w = .ok (.int .i64 ((min n0 (min n1 n2) : Nat) : Int)) w := by
  simp [Builtin.min_, Builtin.min2]
  split <;> split <;> omega
/-- The first k of X, and noughts behind. -/
def partX (X : List UInt8) (k : Nat) : List UInt8 := X.take k ++ List.replicate (X.length - k) 0
theorem partX_zero (X : List UInt8) : partX X 0 = List.replicate X.length 0 := by simp [partX]
theorem partX_all (X : List UInt8) : partX X X.length = X := by simp [partX]
theorem partX_set (X : List UInt8) (k : Nat) (h : k < X.length) : (partX X k).set k X[k] = partX X (k + 1) := by
  apply List.ext_getElem?
  intro i
  unfold partX
  rw [List.getElem?_set]
  by_cases hik : k = i
  · subst hik
    rw [if_pos rfl, if_pos (by simp; omega), List.getElem?_append_left (by simp; omega), List.getElem?_take, if_pos (by omega)]
    simp [h]
  · rw [if_neg hik]
    by_cases hlt : i < k
    · rw [List.getElem?_append_left (by simp; omega), List.getElem?_append_left (by simp; omega), List.getElem?_take, List.getElem?_take, if_pos hlt, if_pos (by omega)]
    · rw [List.getElem?_append_right (by simp; omega), List.getElem?_append_right (by simp; omega), List.getElem?_replicate, List.getElem?_replicate]
      simp only [List.length_take]
      by_cases h2 : i < X.length
      · rw [if_pos (by omega), if_pos (by omega)]
      · rw [if_neg (by omega), if_neg (by omega)]
def zip3 (a b c : List UInt8) : List UInt8 := List.zipWith (fun x y => x ^^^ y) (List.zipWith (fun x y => x ^^^ y) a b) c
theorem zip3_get (a b c : List UInt8) (k : Nat) (x y z : UInt8) (h0 : a[k]? = some x) (h1 : b[k]? = some y) (h2 : c[k]? = some z) : (zip3 a b c)[k]? = some (x ^^^ y ^^^ z) := by
  simp [zip3, List.getElem?_zipWith, h0, h1, h2]
theorem xor3_val (x y z : UInt8) : Value.int .u8 (bits .xor .u8 (bits .xor .u8 (x.toNat : Int) (y.toNat : Int)) (z.toNat : Int)) = byteV (x ^^^ y ^^^ z) := by
  rw [u8_xor_nat _ _ x.toNat_lt y.toNat_lt, ← UInt8.toNat_xor, u8_xor_nat _ _ (UInt8.toNat_lt _) z.toNat_lt, ← UInt8.toNat_xor]

set_option maxHeartbeats 8000000 in
set_option maxRecDepth 100000 in
theorem walkCrcAdds (a0 : Option Addr) (n0 c0 : Nat) (l0 : List UInt8) (a1 : Option Addr) (n1 c1 : Nat) (l1 : List UInt8) (a2 : Option Addr) (n2 c2 : Nat) (l2 : List UInt8) (w : World)
    (hl0 : l0.length = n0) (hm0 : n0 ≤ c0 ∧ c0 ≤ maxLen) (hr0 : Rd w byteV a0 l0) (hl1 : l1.length = n1) (hm1 : n1 ≤ c1 ∧ c1 ≤ maxLen) (hr1 : Rd w byteV a1 l1) (hl2 : l2.length = n2) (hm2 : n2 ≤ c2 ∧ c2 ≤ maxLen) (hr2 : Rd w byteV a2 l2) :
    Calls Try.prog 11 #[.slice a0 n0 c0, .slice a1 n1 c1, .slice a2 n2 c2] w fun e w' => e = .returned (.bool true) ∧ Below w.heap.size w w' := by
  unfold maxLen at hm0 hm1 hm2
  have hmin := fun w => min3_any (P := Try.prog) n0 n1 n2 #[3, 3, 3] 3 w
  have hmn : min n0 (min n1 n2) ≤ n0 ∧ min n0 (min n1 n2) ≤ n1 ∧ min n0 (min n1 n2) ≤ n2 := by omega
  generalize min n0 (min n1 n2) = m at hmin hmn
  go_enter Try.func11, Try.ntmps11
  go_wp2_with fail
  refine (fixed03_any _).mono ?_
  rintro e w1 ⟨rfl, hb1⟩
  have hs1 := hb1.size
  by_cases h2000 : m > 2000
  · clear hr0 hr1 hr2
    go_wp2
    go_ret
    exact ⟨rfl, hb1⟩
  · have HR0 := Lib.hid (hr0.take m)
    have HR1 := Lib.hid (hr1.take m)
    have HR2 := Lib.hid (hr2.take m)
    have HT0 : Hid ((l0.take m).length = m) := Lib.hid (by rw [List.length_take]; omega)
    have HT1 : Hid ((l1.take m).length = m) := Lib.hid (by rw [List.length_take]; omega)
    have HT2 : Hid ((l2.take m).length = m) := Lib.hid (by rw [List.length_take]; omega)
    obtain ⟨X, hsum, hXL, hXg⟩ : ∃ X : List UInt8, crcSumI X = bits .xor .u32 (bits .xor .u32 (crcSumI (l0.take m)) (crcSumI (l1.take m))) (crcSumI (l2.take m)) ∧ X.length = m ∧ ∀ k x y z, (l0.take m)[k]? = some x → (l1.take m)[k]? = some y → (l2.take m)[k]? = some z → X[k]? = some (x ^^^ y ^^^ z) :=
      ⟨zip3 (l0.take m) (l1.take m) (l2.take m), sum_three _ _ _ (by rw [HT0.out, HT1.out]) (by rw [HT0.out, HT2.out]), by unfold zip3; simp; omega, fun k x y z => zip3_get _ _ _ k x y z⟩
    have HSUM := Lib.hid hsum
    have HXL := Lib.hid hXL
    have HXG := Lib.hid hXg
    clear hsum hXL hXg hr0 hr1 hr2 hl0 hl1 hl2
    go_wp2_with (at_make; refine wpList_mk (E := byteV) slByte rfl rfl _ _ rfl m rfl rfl rfl rfl (0 : UInt8) rfl (by omega) (by unfold maxLen; omega) hs1 ?_; intro p8 w2 hown8 hg8)
    have hb2 := below_trans0 hb1 hs1 (below_of_grownBy hg8)
    rw [← HXL.out, ← partX_zero, HXL.out] at hown8
    clear hb1 hs1 hg8
    go_loopw [25] (fun i wr => ∃ k : Nat, k ≤ m ∧ i = .int .i64 k ∧ Own wr w.heap.size 5 byteV p8 m m (partX X k) ∧ Below w.heap.size w wr) (fun i _ => m - (intOf i).toNat)
    case atStart => exact ⟨0, by omega, rfl, hown8, hb2⟩
    case round =>
      obtain ⟨k, hk, rfl, hown, hB⟩ := hrel
      clear hown8 hb2
      by_cases hlt : k < m
      · obtain ⟨g, old, rfl, hgb, hglt, -, hx, hf⟩ := hown.at (i := k) hlt
        have hlX : k < X.length := by rw [HXL.out]; exact hlt
        have hr0' := HR0.out.below hB
        have hr1' := HR1.out.below hB
        have hr2' := HR2.out.below hB
        obtain ⟨b0, o0, e0, -, q0⟩ := hr0'.at (k := k) (by rw [HT0.out]; exact hlt)
        obtain ⟨b1, o1, e1, -, q1⟩ := hr1'.at (k := k) (by rw [HT1.out]; exact hlt)
        obtain ⟨b2, o2, e2, -, q2⟩ := hr2'.at (k := k) (by rw [HT2.out]; exact hlt)
        have hXk : X[k] = (l0.take m)[k]'(by rw [HT0.out]; exact hlt) ^^^ (l1.take m)[k]'(by rw [HT1.out]; exact hlt) ^^^ (l2.take m)[k]'(by rw [HT2.out]; exact hlt) := by
          have := HXG.out k _ _ _ (List.getElem?_eq_getElem (by rw [HT0.out]; exact hlt)) (List.getElem?_eq_getElem (by rw [HT1.out]; exact hlt)) (List.getElem?_eq_getElem (by rw [HT2.out]; exact hlt))
          rw [List.getElem?_eq_getElem hlX] at this
          simpa using this
        generalize (l0.take m)[k]'(by rw [HT0.out]; exact hlt) = x0 at q0 hXk
        generalize (l1.take m)[k]'(by rw [HT1.out]; exact hlt) = x1 at q1 hXk
        generalize (l2.take m)[k]'(by rw [HT2.out]; exact hlt) = x2 at q2 hXk
        have hset := hown.set k hlt (x0 ^^^ x1 ^^^ x2)
        rw [← hXk, partX_set X k hlX, hXk, ← xor3_val] at hset
        have hBset := hB.setCell (p := ⟨g, k, none⟩) hgb (Value.int .u8 (bits .xor .u8 (bits .xor .u8 (x0.toNat : Int) (x1.toNat : Int)) (x2.toNat : Int)))
        subst e0 e1 e2
        have HS := Lib.hid hset
        have HBS := Lib.hid hBset
        clear hset hBset hown hB hr0' hr1' hr2' hXk
        go_wp2
        have s1 : (k : Int) < (n0 : Int) := by omega
        have s2 : (k : Int) < (n1 : Int) := by omega
        have s3 : (k : Int) < (n2 : Int) := by omega
        have s4 : (k : Int) < (m : Int) := by omega
        go_still_tail 17, (by kernel_rfl)
        clear s1 s2 s3 s4
        show wpList _ _ _ _ _ wr.drew
        go_wp2
        go_roundw
        case rel => exact ⟨k + 1, by omega, by go_num, HS.out.drew, HBS.out.drew⟩
        case measure => simp [intOf]; omega
      · have hk' : m = k := by omega
        subst hk'
        have hcap := hown.le_cap
        have hrX := hown.rd
        rw [show partX X m = X from by rw [← HXL.out, partX_all]] at hrX
        have HRX := Lib.hid hrX
        have HR0L := Lib.hid (HR0.out.below hB)
        have HR1L := Lib.hid (HR1.out.below hB)
        have HR2L := Lib.hid (HR2.out.below hB)
        clear hrX hown hk
        go_wp2_with fail
        refine wp_region_grow (by kernel_rfl) (by kernel_rfl) (by rfl) ?_
        apply gw_val
        · intro a' w' hk
          refine ⟨wanted_none rfl, ?_⟩
          simp [Oper.looksAt, Op.operands, Call.operands, KnownAt, List.lookup, consD] at hk
          simp [execOp, Act.eval, hk, go_sem]
          all_goals rfl
        refine gw_call _ #[.slice p8 m m] (fun v _ => v = .int .u32 (crcSumI (X))) (mono_eq _) (fun a' w' hk => ?_) (fun w' hb => (crcSum_any _ _ _ (X) w' HXL.out (by unfold maxLen; omega) (HRX.out.drew.later hb)).mono ?_) ?_
        · refine ⟨wanted_none rfl, ?_⟩
          simp [Oper.looksAt, Op.operands, Call.operands, KnownAt, List.lookup, consD] at hk
          simp [execOp, Act.eval, hk, go_sem]
          all_goals rfl
        · rintro e w'' ⟨rfl, hB⟩
          exact ⟨_, rfl, rfl, hB⟩
        apply gw_val
        · intro a' w' hk
          refine ⟨wanted_none rfl, ?_⟩
          simp [Oper.looksAt, Op.operands, Call.operands, KnownAt, List.lookup, consD] at hk
          simp [execOp, Act.eval, hk, go_sem]
          all_goals rfl
        apply gw_val
        · intro a' w' hk
          refine ⟨wanted_none rfl, ?_⟩
          simp [Oper.looksAt, Op.operands, Call.operands, KnownAt, List.lookup, consD] at hk
          simp [execOp, Act.eval, hk, go_sem]
          all_goals rfl
        refine gw_val (.slice a0 m c0) ?_ ?_
        · intro a' w' hk
          refine ⟨wanted_none rfl, ?_⟩
          simp [Oper.looksAt, Op.operands, Call.operands, KnownAt, List.lookup, consD] at hk
          have hq : (m : Int) ≤ (c0 : Int) := by omega
          simp [execOp, Act.eval, hk, go_sem, hq, map_add0]
          all_goals rfl
        refine gw_call _ #[.slice a0 m c0] (fun v _ => v = .int .u32 (crcSumI (l0.take m))) (mono_eq _) (fun a' w' hk => ?_) (fun w' hb => (crcSum_any _ _ _ (l0.take m) w' HT0.out (by unfold maxLen; omega) (HR0L.out.drew.later hb)).mono ?_) ?_
        · refine ⟨wanted_none rfl, ?_⟩
          simp [Oper.looksAt, Op.operands, Call.operands, KnownAt, List.lookup, consD] at hk
          simp [execOp, Act.eval, hk, go_sem]
          all_goals rfl
        · rintro e w'' ⟨rfl, hB⟩
          exact ⟨_, rfl, rfl, hB⟩
        apply gw_val
        · intro a' w' hk
          refine ⟨wanted_none rfl, ?_⟩
          simp [Oper.looksAt, Op.operands, Call.operands, KnownAt, List.lookup, consD] at hk
          simp [execOp, Act.eval, hk, go_sem]
          all_goals rfl
        apply gw_val
        · intro a' w' hk
          refine ⟨wanted_none rfl, ?_⟩
          simp [Oper.looksAt, Op.operands, Call.operands, KnownAt, List.lookup, consD] at hk
          simp [execOp, Act.eval, hk, go_sem]
          all_goals rfl
        refine gw_val (.slice a1 m c1) ?_ ?_
        · intro a' w' hk
          refine ⟨wanted_none rfl, ?_⟩
          simp [Oper.looksAt, Op.operands, Call.operands, KnownAt, List.lookup, consD] at hk
          have hq : (m : Int) ≤ (c1 : Int) := by omega
          simp [execOp, Act.eval, hk, go_sem, hq, map_add0]
          all_goals rfl
        refine gw_call _ #[.slice a1 m c1] (fun v _ => v = .int .u32 (crcSumI (l1.take m))) (mono_eq _) (fun a' w' hk => ?_) (fun w' hb => (crcSum_any _ _ _ (l1.take m) w' HT1.out (by unfold maxLen; omega) (HR1L.out.drew.later hb)).mono ?_) ?_
        · refine ⟨wanted_none rfl, ?_⟩
          simp [Oper.looksAt, Op.operands, Call.operands, KnownAt, List.lookup, consD] at hk
          simp [execOp, Act.eval, hk, go_sem]
          all_goals rfl
        · rintro e w'' ⟨rfl, hB⟩
          exact ⟨_, rfl, rfl, hB⟩
        apply gw_val
        · intro a' w' hk
          refine ⟨wanted_none rfl, ?_⟩
          simp [Oper.looksAt, Op.operands, Call.operands, KnownAt, List.lookup, consD] at hk
          simp [execOp, Act.eval, hk, go_sem]
          all_goals rfl
        apply gw_val
        · intro a' w' hk
          refine ⟨wanted_none rfl, ?_⟩
          simp [Oper.looksAt, Op.operands, Call.operands, KnownAt, List.lookup, consD] at hk
          simp [execOp, Act.eval, hk, go_sem]
          all_goals rfl
        apply gw_val
        · intro a' w' hk
          refine ⟨wanted_none rfl, ?_⟩
          simp [Oper.looksAt, Op.operands, Call.operands, KnownAt, List.lookup, consD] at hk
          simp [execOp, Act.eval, hk, go_sem]
          all_goals rfl
        refine gw_val (.slice a2 m c2) ?_ ?_
        · intro a' w' hk
          refine ⟨wanted_none rfl, ?_⟩
          simp [Oper.looksAt, Op.operands, Call.operands, KnownAt, List.lookup, consD] at hk
          have hq : (m : Int) ≤ (c2 : Int) := by omega
          simp [execOp, Act.eval, hk, go_sem, hq, map_add0]
          all_goals rfl
        refine gw_call _ #[.slice a2 m c2] (fun v _ => v = .int .u32 (crcSumI (l2.take m))) (mono_eq _) (fun a' w' hk => ?_) (fun w' hb => (crcSum_any _ _ _ (l2.take m) w' HT2.out (by unfold maxLen; omega) (HR2L.out.drew.later hb)).mono ?_) ?_
        · refine ⟨wanted_none rfl, ?_⟩
          simp [Oper.looksAt, Op.operands, Call.operands, KnownAt, List.lookup, consD] at hk
          simp [execOp, Act.eval, hk, go_sem]
          all_goals rfl
        · rintro e w'' ⟨rfl, hB⟩
          exact ⟨_, rfl, rfl, hB⟩
        apply gw_val
        · intro a' w' hk
          refine ⟨wanted_none rfl, ?_⟩
          simp [Oper.looksAt, Op.operands, Call.operands, KnownAt, List.lookup, consD] at hk
          simp [execOp, Act.eval, hk, go_sem]
          all_goals rfl
        apply gw_val
        · intro a' w' hk
          refine ⟨wanted_none rfl, ?_⟩
          simp [Oper.looksAt, Op.operands, Call.operands, KnownAt, List.lookup, consD] at hk
          simp [execOp, Act.eval, hk, go_sem]
          all_goals rfl
        apply gw_val
        · intro a' w' hk
          refine ⟨wanted_none rfl, ?_⟩
          simp [Oper.looksAt, Op.operands, Call.operands, KnownAt, List.lookup, consD] at hk
          simp [execOp, Act.eval, hk, go_sem]
          all_goals rfl
        intro vs w' hb hall
        simp only [AllS, consD] at hall
        simp only [consD, putAllS, Act.put]
        obtain ⟨h6, -⟩ := hall
        rw [h6]
        simp only [List.setIfInBounds_toArray, List.set_cons_succ, List.set_cons_zero]
        go_wp2
        go_ret
        exact ⟨ret_bool (beq_iff_eq.2 HSUM.out), below_trans0 hB.drew hB.drew.size hb⟩
end Go.Proofs.Ytmmgcfhoigpomaa
