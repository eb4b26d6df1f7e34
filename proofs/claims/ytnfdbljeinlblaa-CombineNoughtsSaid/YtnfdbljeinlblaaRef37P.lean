/- The walks of packsaddleref37.Power and Noughts. -/
import Derived.Test.YtnfdbljeinlblaaRef37W
import Derived.Deep.DeepCutAuto
namespace Go.Proofs.Ytnfdbljeinlblaa
open Go.RowKit
set_option linter.unusedVariables false
set_option linter.unusedSimpArgs false

def refPowN : Nat → Nat
  | 0 => 2147483648
  | n+1 => refTimesN (refPowN n) 1073741824
theorem refPowN_lt (n : Nat) : refPowN n < 4294967296 := by
  cases n with
  | zero => decide
  | succ n => exact refTimesN_lt _ _

def falses32 : Array Value := ((List.replicate 32 false).map Value.bool).toArray
theorem mk32 (w : World) : (Instr.makeSlice 90 (.int .i64 32) (.int .i64 32)).run Try.prog w = .ok (.slice (some ⟨w.heap.size, 0, none⟩) 32 32) (w.alloc (.cells falses32 4)) := by kernel_rfl
set_option maxRecDepth 100000 in
set_option maxHeartbeats 4000000 in
theorem refPower_any (n : Nat) (w : World) (hn : n ≤ 1000000) :
  Calls Try.prog 30 #[.int .i64 (n : Int)] w fun e w' => e = .returned (.int .u32 (refPowN n : Nat)) ∧ Below w.heap.size w w' := by
  have hmk := mk32
  go_enter Try.func30, Try.ntmps30
  go_upto_region 1 with fail
  go_cut [3, 4] (fun one x wr => ∃ g1 g2 : Nat, one = .slice (some ⟨g1, 0, none⟩) 32 32 ∧ x = .slice (some ⟨g2, 0, none⟩) 32 32 ∧ g1 ≠ g2 ∧ w.heap.size ≤ g1 ∧ w.heap.size ≤ g2 ∧ Own wr w.heap.size 4 Value.bool (some ⟨g1, 0, none⟩) 32 32 (List.replicate 32 false) ∧ Own wr w.heap.size 4 Value.bool (some ⟨g2, 0, none⟩) 32 32 (List.replicate 32 false) ∧ Below w.heap.size w wr)
  case first =>
    have o1 : Own (w.alloc (.cells falses32 4)) w.heap.size 4 Value.bool (some ⟨w.heap.size, 0, none⟩) 32 32 (List.replicate 32 false) :=
      ⟨⟨rfl, .inr ⟨w.heap.size, 32, _, rfl, Nat.le_refl _, heap_alloc_new w _, Nat.le_refl _, by decide, rfl, rfl⟩⟩, rfl⟩
    have o2 : Own ((w.alloc (.cells falses32 4)).alloc (.cells falses32 4)) w.heap.size 4 Value.bool (some ⟨w.heap.size + 1, 0, none⟩) 32 32 (List.replicate 32 false) :=
      ⟨⟨rfl, .inr ⟨w.heap.size + 1, 32, _, rfl, by omega, heap_alloc2_new w _ _, Nat.le_refl _, by decide, rfl, rfl⟩⟩, rfl⟩
    have o3 := o1.alloc (.cells falses32 4)
    have ob : Below w.heap.size w ((w.alloc (.cells falses32 4)).alloc (.cells falses32 4)) := ((Below.refl _ _).alloc (Nat.le_refl _) _).alloc (by simp) _
    go_region
    all_goals
      go_wp2_with fail
      go_meet
      first
        | exact ⟨w.heap.size, w.heap.size + 1, rfl, rfl, by omega, by omega, by omega, o3.drew, o2.drew, ob.drew⟩
        | exact ⟨w.heap.size + 1, w.heap.size, rfl, rfl, by omega, by omega, by omega, o2.drew, o3.drew, ob.drew⟩
  case rest =>
    obtain ⟨g1, g2, rfl, rfl, hne, hg1, hg2, ho1, ho2, hB⟩ := hcut
    obtain ⟨gg, v1, hq, -, -, -, hx1, hf1⟩ := ho1.at (i := 31) (by omega)
    obtain rfl : g1 = gg := by simpa using hq
    obtain ⟨gg, v2, hq2, -, -, -, hx2, hf2⟩ := ho2.at (i := 30) (by omega)
    obtain rfl : g2 = gg := by simpa using hq2
    have hs1 := (ho1.set 31 (by omega) true).setCell_ne (p := ⟨g2, 30, none⟩) (by intro q hq; simp at hq; show q ≠ g2; omega) (.bool true)
    have hs2 := (ho2.setCell_ne (p := ⟨g1, 31, none⟩) (by intro q hq; simp at hq; show q ≠ g1; omega) (.bool true)).set 30 (by omega) true
    have hBs := (hB.setCell (p := ⟨g1, 31, none⟩) hg1 (.bool true)).setCell (p := ⟨g2, 30, none⟩) hg2 (.bool true)
    clear hq hq2 ho1 ho2 hB
    go_wp2_with fail
    generalize (wc.setCell ⟨g1, 31, none⟩ (.bool true)).setCell ⟨g2, 30, none⟩ (.bool true) = w3 at hs1 hs2 hBs ⊢
    refine (number_any _ _ _ ((List.replicate 32 false).set 31 true) _ (by simp) (by omega) hs1.rd).mono ?_
    rintro e w' ⟨rfl, rfl⟩
    have n1 : numL ((List.replicate 32 false).set 31 true) = 2147483648 := by decide
    have n2 : numL ((List.replicate 32 false).set 30 true) = 1073741824 := by decide
    rw [n1]
    clear hx1 hx2 hf1 hf2
    go_wp2
    go_loopw [5, 6] (fun out i wr => ∃ k : Nat, k ≤ n ∧ i = .int .i64 k ∧ out = .int .u32 (refPowN k : Nat) ∧ Own wr w.heap.size 4 Value.bool (some ⟨g2, 0, none⟩) 32 32 ((List.replicate 32 false).set 30 true) ∧ Below w.heap.size w wr) (fun _ i _ => n - (intOf i).toNat)
    case atStart => exact ⟨0, by omega, rfl, rfl, hs2, hBs⟩
    case round =>
      obtain ⟨k, hk, rfl, rfl, hox, hBr⟩ := hrel
      have hlt := refPowN_lt k
      by_cases hkn : k < n
      · have hnext : refTimesN (refPowN k) 1073741824 = refPowN (k + 1) := rfl
        have HNX := Lib.hid hnext
        clear hnext
        generalize refPowN k = v at hlt HNX ⊢
        go_wp2_with fail
        refine (number_any _ _ _ ((List.replicate 32 false).set 30 true) _ (by simp) (by omega) hox.rd).mono ?_
        rintro e w' ⟨rfl, rfl⟩
        rw [n2]
        go_wp2_with fail
        refine (refTimes_any v 1073741824 _ hlt (by omega)).mono ?_
        rintro e w5 ⟨rfl, hB5⟩
        have hox5 := hox.below hB5
        have hB6 := below_trans0 hBr hBr.size hB5
        rw [HNX.out]
        clear hox hBr hB5
        go_wp2
        go_roundw
        case rel => exact ⟨k + 1, by omega, by go_num, rfl, hox5, hB6⟩
        case measure => simp [intOf]; omega
      · have hk' : k = n := by omega
        subst hk'
        go_wp2
        go_ret
        exact ⟨rfl, hBr⟩

theorem byte_one' (k : List UInt8) : ∀ y ∈ k, (Value.int .u8 (y.toNat : Int)).oneCell' = true := fun _ _ => rfl
theorem own_empty {α : Type} {E : α → Value} (w : World) (e : TypeId) {base : Nat} (hb : base ≤ w.heap.size) : Own (w.alloc (.cells #[] e)) base e E (some ⟨w.heap.size, 0, none⟩) 0 0 ([] : List α) :=
  ⟨World.ownsRow_made w #[] 0 hb (Nat.zero_le _) (by simp), rfl⟩

section
variable {P : Program} {w : World} {ops : Array Oper} {rest : List Oper} {o : Oper} {a : Act} {Q : Exit → Act → World → Prop} {α : Type} {E : α → Value} {T e : TypeId} {z : Value} {bytes base : Nat}
/-- append(s, make([]T, 0)...). -/
theorem wpList_zeros0 (hT : SlT P T e z 1 bytes) (hgd : o.guard = none) (s x : Operand) {tn : TypeId} {kn kq : IntKind} (htn : P.underlying tn = some (.int kn))
    (ho : o.op = .call { callee := .builtin .append, args := #[s, x], argTypes := #[T, tn] })
    {p : Option Addr} {n c : Nat} {l : List α} (hs : a.eval s = .slice p n c) (hown : Own w base e E p n c l)
    {i : Int} (hx : a.eval x = .int kq i) (hik : i = 0)
    (h : wpList P ops Q rest (a.put o.dst (.slice p n c)) w) :
    wpList P ops Q (o :: rest) a w := by
  obtain ⟨ti, hti, hz0, hz2, hz3⟩ := info_parts hT.info
  subst hik
  have hroom := hown.le_cap
  have hw : IntKind.i64.wrap (0 : Int) = 0 := by rw [IntKind.wrap_i64]; omega
  have hrun : (Builtin.append_ #[T, tn] o.type #[.slice p n c, .int kq 0]).run P w = .ok (.slice p n c) w := by
    cases p <;> simp [Builtin.append_, run_underlying hT.under, run_underlying htn, sizeOf, typeInfo, hti, asInt, asIntOf, hw, hroom, storeCells]
  exact Lib.wpList_append_run w hgd s x T tn ho _ _ hs hx _ _ hrun h
end

set_option maxRecDepth 100000 in
set_option maxHeartbeats 4000000 in
theorem refNoughts_any (a : Option Addr) (n c : Nat) (l : List UInt8) (k : Nat) (w : World) (hl : l.length = n) (hn : n ≤ 1000000) (hk : k ≤ 1000000) (hr : Rd w (fun b : UInt8 => Value.int .u8 (b.toNat : Int)) a l) :
  Calls Try.prog 28 #[.slice a n c, .int .i64 (k : Int)] w fun e w' => e = .returned (.int .u32 (refSumN (l ++ List.replicate k 0) : Nat)) ∧ Below w.heap.size w w' := by
  have hq := hr.below (below_alloc w (.cells #[] 5))
  have HQ := Lib.hid hq
  have HL := Lib.hid hl
  clear hq hr hl
  have hown0 := own_empty (E := fun b : UInt8 => Value.int .u8 (b.toNat : Int)) w 5 (Nat.le_refl _)
  have hB0 := below_alloc w (.cells #[] 5)
  have hs0 := hB0.size
  by_cases hk0 : k = 0
  · subst hk0
    go_enter Try.func28, Try.ntmps28
    go_wp2_with (first | (at_builtin; refine wpList_cat slByte rfl _ _ rfl rfl hown0 rfl HL.out HQ.out (byte_one' _) (by omega) (by unfold maxLen; omega) hs0 ?_; intro a4 c4 w4 hown4 hg4 _ _; simp only [Nat.zero_add, List.nil_append] at hown4; have hb7 := hown0.step hB0 hg4 hs0; have hs7 := hb7.size; clear hown0 hB0 hg4) | (at_builtin; refine wpList_zeros0 slByte rfl _ _ Try.underlying3 rfl rfl hown4 rfl rfl ?_))
    refine (refSum_any _ _ _ l _ hown4.len (by omega) hown4.rd).mono ?_
    rintro e w6 ⟨rfl, hb9⟩
    go_wp2
    go_ret
    exact ⟨ret_int (by simp), below_trans0 hb7 hs7 hb9⟩
  · go_enter Try.func28, Try.ntmps28
    go_wp2_with (first | (at_builtin; refine wpList_cat slByte rfl _ _ rfl rfl hown0 rfl HL.out HQ.out (byte_one' _) (by omega) (by unfold maxLen; omega) hs0 ?_; intro a4 c4 w4 hown4 hg4 _ _; simp only [Nat.zero_add, List.nil_append] at hown4; have hb7 := hown0.step hB0 hg4 hs0; have hs7 := hb7.size; clear hown0 hB0 hg4) | (at_builtin; refine wpList_zeros slByte rfl rfl _ _ Try.underlying3 rfl rfl hown4 k rfl rfl (by omega) 0 rfl rfl (by omega) (by unfold maxLen; omega) hs7 ?_; intro a5 c5 w5 hown5 hg5; have hb8 := hown4.step hb7 hg5 hs7; clear hown4 hb7 hg5))
    refine (refSum_any _ _ _ (l ++ List.replicate k 0) _ hown5.len (by omega) hown5.rd).mono ?_
    rintro e w6 ⟨rfl, hb9⟩
    go_wp2
    go_ret
    exact ⟨rfl, below_trans0 hb8 hb8.size hb9⟩
end Go.Proofs.Ytnfdbljeinlblaa
