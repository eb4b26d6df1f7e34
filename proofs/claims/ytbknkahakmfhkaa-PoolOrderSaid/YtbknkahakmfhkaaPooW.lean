/- Values of constants held against each other. -/
import Derived.Test.YtbknkahakmfhkaaPooQ
import Derived.Test.YtbknkahakmfhkaaOpenW
import Derived.Test.YtbknkahakmfhkaaPooG
namespace Go.Proofs.Ytbknkahakmfhkaa
open Go.RowKit
set_option linter.unusedVariables false
set_option linter.unusedSimpArgs false

def sgnI (a b : Int) : Int := if a < b then -1 else if b < a then 1 else 0
def ltS (s t : ByteArray) : Bool := Op.bytesLess s.toList t.toList
theorem run_gtrS (a b : ByteArray) (w : World) : (binOp .gtr 9 (.string a) (.string b)).run Try.prog w = .ok (.bool !(Op.bytesLess a.toList b.toList || a.toList == b.toList)) w := by kernel_rfl
attribute [go_sem] run_gtrS
def sgnS (s t : ByteArray) : Int := if ltS s t then -1 else if (ltS s t || s.toList == t.toList) then 0 else 1
set_option maxRecDepth 100000 in
theorem nanI (a : Int) (w : World) : Calls Try.prog 119 #[.int .i64 a] w fun e w' => e = .returned (.bool false) ∧ w' = w := by
  go_enter Try.func119, Try.ntmps119
  go_wp2
  go_ret
  exact ⟨rfl, rfl⟩
set_option maxRecDepth 100000 in
set_option maxHeartbeats 4000000 in
theorem cmpI (a b : Int) (w : World) : Calls Try.prog 95 #[.int .i64 a, .int .i64 b] w fun e w' => e = .returned (.int .i64 (sgnI a b)) ∧ w' = w := by
  have HN1 := Lib.hid (nanI a w)
  have HN2 := Lib.hid (nanI b w)
  by_cases h1 : a < b
  · have HV : Hid (sgnI a b = -1) := Lib.hid (by unfold sgnI; rw [if_pos h1])
    go_enter Try.func95, Try.ntmps95
    go_wp2_with fail
    refine HN1.out.mono ?_
    rintro e wf ⟨rfl, hwf⟩; subst hwf
    go_wp2_with fail
    refine HN2.out.mono ?_
    rintro e wf ⟨rfl, hwf⟩; subst hwf
    go_wp2_with fail
    go_ret
    exact ⟨by rw [HV.out] <;> rfl, rfl⟩
  · by_cases h2 : b < a
    · have HV : Hid (sgnI a b = 1) := Lib.hid (by unfold sgnI; rw [if_neg h1, if_pos h2])
      go_enter Try.func95, Try.ntmps95
      go_wp2_with fail
      refine HN1.out.mono ?_
      rintro e wf ⟨rfl, hwf⟩; subst hwf
      go_wp2_with fail
      refine HN2.out.mono ?_
      rintro e wf ⟨rfl, hwf⟩; subst hwf
      go_wp2_with fail
      go_ret
      exact ⟨by rw [HV.out] <;> rfl, rfl⟩
    · have HV : Hid (sgnI a b = 0) := Lib.hid (by unfold sgnI; rw [if_neg h1, if_neg h2])
      go_enter Try.func95, Try.ntmps95
      go_wp2_with fail
      refine HN1.out.mono ?_
      rintro e wf ⟨rfl, hwf⟩; subst hwf
      go_wp2_with fail
      refine HN2.out.mono ?_
      rintro e wf ⟨rfl, hwf⟩; subst hwf
      go_wp2_with fail
      go_ret
      exact ⟨by rw [HV.out] <;> rfl, rfl⟩
set_option maxRecDepth 100000 in
theorem nanU (a : Int) (w : World) : Calls Try.prog 121 #[.int .u64 a] w fun e w' => e = .returned (.bool false) ∧ w' = w := by
  go_enter Try.func121, Try.ntmps121
  go_wp2
  go_ret
  exact ⟨rfl, rfl⟩
set_option maxRecDepth 100000 in
set_option maxHeartbeats 4000000 in
theorem cmpU (a b : Int) (w : World) : Calls Try.prog 97 #[.int .u64 a, .int .u64 b] w fun e w' => e = .returned (.int .i64 (sgnI a b)) ∧ w' = w := by
  have HN1 := Lib.hid (nanU a w)
  have HN2 := Lib.hid (nanU b w)
  by_cases h1 : a < b
  · have HV : Hid (sgnI a b = -1) := Lib.hid (by unfold sgnI; rw [if_pos h1])
    go_enter Try.func97, Try.ntmps97
    go_wp2_with fail
    refine HN1.out.mono ?_
    rintro e wf ⟨rfl, hwf⟩; subst hwf
    go_wp2_with fail
    refine HN2.out.mono ?_
    rintro e wf ⟨rfl, hwf⟩; subst hwf
    go_wp2_with fail
    go_ret
    exact ⟨by rw [HV.out] <;> rfl, rfl⟩
  · by_cases h2 : b < a
    · have HV : Hid (sgnI a b = 1) := Lib.hid (by unfold sgnI; rw [if_neg h1, if_pos h2])
      go_enter Try.func97, Try.ntmps97
      go_wp2_with fail
      refine HN1.out.mono ?_
      rintro e wf ⟨rfl, hwf⟩; subst hwf
      go_wp2_with fail
      refine HN2.out.mono ?_
      rintro e wf ⟨rfl, hwf⟩; subst hwf
      go_wp2_with fail
      go_ret
      exact ⟨by rw [HV.out] <;> rfl, rfl⟩
    · have HV : Hid (sgnI a b = 0) := Lib.hid (by unfold sgnI; rw [if_neg h1, if_neg h2])
      go_enter Try.func97, Try.ntmps97
      go_wp2_with fail
      refine HN1.out.mono ?_
      rintro e wf ⟨rfl, hwf⟩; subst hwf
      go_wp2_with fail
      refine HN2.out.mono ?_
      rintro e wf ⟨rfl, hwf⟩; subst hwf
      go_wp2_with fail
      go_ret
      exact ⟨by rw [HV.out] <;> rfl, rfl⟩
set_option maxRecDepth 100000 in
theorem nanS (a : ByteArray) (w : World) : Calls Try.prog 120 #[.string a] w fun e w' => e = .returned (.bool false) ∧ w' = w := by
  go_enter Try.func120, Try.ntmps120
  go_wp2
  go_ret
  exact ⟨rfl, rfl⟩
set_option maxRecDepth 100000 in
set_option maxHeartbeats 4000000 in
theorem cmpS (a b : ByteArray) (w : World) : Calls Try.prog 96 #[.string a, .string b] w fun e w' => e = .returned (.int .i64 (sgnS a b)) ∧ w' = w := by
  have HN1 := Lib.hid (nanS a w)
  have HN2 := Lib.hid (nanS b w)
  by_cases h1 : ltS a b = true
  · have HV : Hid (sgnS a b = -1) := Lib.hid (by unfold sgnS; rw [if_pos h1])
    unfold ltS at h1
    go_enter Try.func96, Try.ntmps96
    go_wp2_with fail
    refine HN1.out.mono ?_
    rintro e wf ⟨rfl, hwf⟩; subst hwf
    go_wp2_with fail
    refine HN2.out.mono ?_
    rintro e wf ⟨rfl, hwf⟩; subst hwf
    go_wp2_with fail
    go_ret
    exact ⟨by rw [HV.out] <;> rfl, rfl⟩
  · by_cases h2 : (a.toList == b.toList) = true
    · have h3 : a = b := str_inj (by simpa using h2)
      subst h3
      have HV : Hid (sgnS a a = 0) := Lib.hid (by unfold sgnS; rw [if_neg h1]; simp)
      unfold ltS at h1
      replace h1 := Bool.eq_false_iff.2 h1
      clear h2
      go_enter Try.func96, Try.ntmps96
      go_wp2_with fail
      refine HN1.out.mono ?_
      rintro e wf ⟨rfl, hwf⟩; subst hwf
      go_wp2_with fail
      refine HN2.out.mono ?_
      rintro e wf ⟨rfl, hwf⟩; subst hwf
      go_wp2_with fail
      go_ret
      exact ⟨by rw [HV.out] <;> rfl, rfl⟩
    · have HV : Hid (sgnS a b = 1) := Lib.hid (by unfold sgnS; rw [if_neg h1, Bool.eq_false_iff.2 h1, Bool.eq_false_iff.2 h2]; rfl)
      unfold ltS at h1
      have h1 := Bool.eq_false_iff.2 h1
      have h2 := Bool.eq_false_iff.2 h2
      have h3 : ¬ a.toList = b.toList := by simpa using h2
      go_enter Try.func96, Try.ntmps96
      go_wp2_with fail
      refine HN1.out.mono ?_
      rintro e wf ⟨rfl, hwf⟩; subst hwf
      go_wp2_with fail
      refine HN2.out.mono ?_
      rintro e wf ⟨rfl, hwf⟩; subst hwf
      go_wp2_with fail
      go_ret
      exact ⟨by rw [HV.out] <;> rfl, rfl⟩
def iE : Int → Value := fun x => .int .i64 x
def orK : List Int → Int
  | [] => 0
  | x :: l => if x = 0 then orK l else x
set_option maxRecDepth 100000 in
set_option maxHeartbeats 4000000 in
theorem or_any (p : Option Addr) (n c : Nat) (vs : List Int) (w : World) (hl : vs.length = n) (hn : n ≤ 100) (hr : Rd w iE p vs) : Calls Try.prog 94 #[.slice p n c] w fun e w' => e = .returned (.int .i64 (orK vs)) ∧ w' = w := by
  have HH := Lib.hid (And.intro hl hr)
  clear hl hr
  go_enter Try.func94, Try.ntmps94
  go_wp2_with fail
  go_loopw [8] (fun x8 wr => wr = w ∧ ∃ i : Nat, i ≤ n ∧ x8 = .int .i64 (i : Int) ∧ Hid (orK vs = orK (vs.drop i))) (fun x8 _ => n - (intOf x8).toNat)
  case atStart => exact ⟨rfl, 0, Nat.zero_le _, rfl, Lib.hid rfl⟩
  case round =>
    obtain ⟨hw, i, hi, rfl, hO⟩ := hrel
    subst hw
    by_cases hin : i < n
    · have hix : i < vs.length := by rw [HH.out.1]; exact hin
      obtain ⟨b, off, rfl, -, hc⟩ := HH.out.2.at hix
      have HO2 : Hid (orK vs = if vs[i] = 0 then orK (vs.drop (i + 1)) else vs[i]) := Lib.hid (by rw [hO.out, List.drop_eq_getElem_cons hix]; rfl)
      generalize vs[i] = x at *
      replace hc : wr.cell? ⟨b, off + i, none⟩ = some (.int .i64 x) := hc
      by_cases hx : x = 0
      · subst hx
        have HO3 : Hid (orK vs = orK (vs.drop (i + 1))) := Lib.hid (by rw [HO2.out, if_pos rfl])
        go_wp2_with fail
        go_roundw
        case rel => exact ⟨by first | rfl | trivial, i + 1, by omega, by go_num, HO3⟩
        case measure => simp [intOf] <;> omega
      · have HO3 : Hid (orK vs = x) := Lib.hid (by rw [HO2.out, if_neg hx])
        have hxb : (x != 0) = true := by simpa using hx
        go_wp2_with fail
        go_ret
        exact ⟨by rw [HO3.out] <;> rfl, rfl⟩
    · have HO3 : Hid (orK vs = 0) := Lib.hid (by rw [hO.out, List.drop_of_length_le (by rw [HH.out.1]; omega)]; rfl)
      go_wp2_with fail
      go_ret
      exact ⟨by rw [HO3.out] <;> rfl, rfl⟩
def cmpL (a b : ValK) : List Int := [sgnI a.tag b.tag, sgnS a.text b.text, sgnI a.bits b.bits, sgnS a.cls b.cls, sgnS a.name b.name, sgnS a.desc b.desc]
def cmpK (a b : ValK) : Int := orK (cmpL a b)
set_option maxRecDepth 100000 in
set_option maxHeartbeats 8000000 in
theorem compare_any (a b : ValK) (w : World) : Calls Try.prog 48 #[.agg a.arr, .agg b.arr] w fun e w' => e = .returned (.int .i64 (cmpK a b)) ∧ Below w.heap.size w w' := by
  have mixed : Try.prog.follows .mixedOrders = true := by kernel_rfl
  have HA : Hid (Blk ((w.alloc (.cells a.arr VAL)).alloc (.cells b.arr VAL)) w.heap.size VAL a.arr) := Lib.hid ((Blk.new _ _ _).below (below_alloc _ _))
  have HB : Hid (Blk ((w.alloc (.cells a.arr VAL)).alloc (.cells b.arr VAL)) (w.heap.size + 1) VAL b.arr) := Lib.hid (by
    have := Blk.new (w.alloc (.cells a.arr VAL)) VAL b.arr
    rwa [show (w.alloc (.cells a.arr VAL)).heap.size = w.heap.size + 1 by simp] at this)
  have HW : Hid (Below w.heap.size w ((w.alloc (.cells a.arr VAL)).alloc (.cells b.arr VAL))) := Lib.hid ((below_alloc _ _).alloc (below_alloc _ _).size _)
  obtain ⟨t, s, bi, cl, nm, ds⟩ := a
  obtain ⟨t', s', bi', cl', nm', ds'⟩ := b
  simp only [ValK.arr] at HA HB HW ⊢
  go_enter Try.func48, Try.ntmps48
  go_wp2_with fail
  obtain ⟨w2, hw2⟩ : ∃ w2, w2 = ((w.alloc (.cells #[.int .i64 t, .string s, .int .u64 bi, .string cl, .string nm, .string ds] VAL)).alloc (.cells #[.int .i64 t', .string s', .int .u64 bi', .string cl', .string nm', .string ds'] VAL)) := ⟨_, rfl⟩
  obtain ⟨o2, ho2⟩ : ∃ o, o = w.heap.size := ⟨_, rfl⟩
  obtain ⟨o3, ho3⟩ : ∃ o, o = w.heap.size + 1 := ⟨_, rfl⟩
  have HA2 : Hid (Blk w2 o2 VAL #[.int .i64 t, .string s, .int .u64 bi, .string cl, .string nm, .string ds]) := Lib.hid (by rw [hw2, ho2]; exact HA.out)
  have HB2 : Hid (Blk w2 o3 VAL #[.int .i64 t', .string s', .int .u64 bi', .string cl', .string nm', .string ds']) := Lib.hid (by rw [hw2, ho3]; exact HB.out)
  have HW2 : Hid (Below w.heap.size w w2) := Lib.hid (by rw [hw2]; exact HW.out)
  rw [← hw2, ← ho3, ← ho2]
  clear hw2 ho2 ho3 HA HB HW
  refine wp_region_grow (by kernel_rfl) (by kernel_rfl) (by rfl) ?_
  apply gw_val
  · intro a' w' hk
    refine ⟨wanted_none rfl, ?_⟩
    simp [Oper.looksAt, Op.operands, Call.operands, KnownAt, List.lookup, consD] at hk
    simp [execOp, Act.eval, hk, go_sem]
    all_goals rfl
  refine gw_valB (fun v _ => v = (.int .i64 t)) (mono_eq _) ?_ ?_
  · intro a' w' hb' hk
    refine ⟨wanted_none rfl, _, ?_, rfl⟩
    have hc := ((Blk.drew HA2.out).below hb').cell (i := 0) rfl
    simp [Oper.looksAt, Op.operands, Call.operands, KnownAt, List.lookup, consD] at hk
    simp [execOp, Act.eval, hk, hc, go_sem]
    all_goals rfl
  apply gw_val
  · intro a' w' hk
    refine ⟨wanted_none rfl, ?_⟩
    simp [Oper.looksAt, Op.operands, Call.operands, KnownAt, List.lookup, consD] at hk
    simp [execOp, Act.eval, hk, go_sem]
    all_goals rfl
  refine gw_valB (fun v _ => v = (.int .i64 t')) (mono_eq _) ?_ ?_
  · intro a' w' hb' hk
    refine ⟨wanted_none rfl, _, ?_, rfl⟩
    have hc := ((Blk.drew HB2.out).below hb').cell (i := 0) rfl
    simp [Oper.looksAt, Op.operands, Call.operands, KnownAt, List.lookup, consD] at hk
    simp [execOp, Act.eval, hk, hc, go_sem]
    all_goals rfl
  refine gw_call _ _ (fun v _ => v = .int .i64 (sgnI t t')) (mono_eq _) (fun a' w' hk => ?_) (fun w' hb => (cmpI t t' w').mono ?_) ?_
  · refine ⟨wanted_none rfl, ?_⟩
    simp [Oper.looksAt, Op.operands, Call.operands, KnownAt, List.lookup, consD] at hk
    simp [execOp, Act.eval, hk, go_sem]
    all_goals rfl
  · rintro e w'' ⟨rfl, rfl⟩
    exact ⟨_, rfl, rfl, Below.refl _ _⟩
  apply gw_val
  · intro a' w' hk
    refine ⟨wanted_none rfl, ?_⟩
    simp [Oper.looksAt, Op.operands, Call.operands, KnownAt, List.lookup, consD] at hk
    simp [execOp, Act.eval, hk, go_sem]
    all_goals rfl
  refine gw_valB (fun v _ => v = (.string s)) (mono_eq _) ?_ ?_
  · intro a' w' hb' hk
    refine ⟨wanted_none rfl, _, ?_, rfl⟩
    have hc := ((Blk.drew HA2.out).below hb').cell (i := 1) rfl
    simp [Oper.looksAt, Op.operands, Call.operands, KnownAt, List.lookup, consD] at hk
    simp [execOp, Act.eval, hk, hc, go_sem]
    all_goals rfl
  apply gw_val
  · intro a' w' hk
    refine ⟨wanted_none rfl, ?_⟩
    simp [Oper.looksAt, Op.operands, Call.operands, KnownAt, List.lookup, consD] at hk
    simp [execOp, Act.eval, hk, go_sem]
    all_goals rfl
  refine gw_valB (fun v _ => v = (.string s')) (mono_eq _) ?_ ?_
  · intro a' w' hb' hk
    refine ⟨wanted_none rfl, _, ?_, rfl⟩
    have hc := ((Blk.drew HB2.out).below hb').cell (i := 1) rfl
    simp [Oper.looksAt, Op.operands, Call.operands, KnownAt, List.lookup, consD] at hk
    simp [execOp, Act.eval, hk, hc, go_sem]
    all_goals rfl
  refine gw_call _ _ (fun v _ => v = .int .i64 (sgnS s s')) (mono_eq _) (fun a' w' hk => ?_) (fun w' hb => (cmpS s s' w').mono ?_) ?_
  · refine ⟨wanted_none rfl, ?_⟩
    simp [Oper.looksAt, Op.operands, Call.operands, KnownAt, List.lookup, consD] at hk
    simp [execOp, Act.eval, hk, go_sem]
    all_goals rfl
  · rintro e w'' ⟨rfl, rfl⟩
    exact ⟨_, rfl, rfl, Below.refl _ _⟩
  apply gw_val
  · intro a' w' hk
    refine ⟨wanted_none rfl, ?_⟩
    simp [Oper.looksAt, Op.operands, Call.operands, KnownAt, List.lookup, consD] at hk
    simp [execOp, Act.eval, hk, go_sem]
    all_goals rfl
  refine gw_valB (fun v _ => v = (.int .u64 bi)) (mono_eq _) ?_ ?_
  · intro a' w' hb' hk
    refine ⟨wanted_none rfl, _, ?_, rfl⟩
    have hc := ((Blk.drew HA2.out).below hb').cell (i := 2) rfl
    simp [Oper.looksAt, Op.operands, Call.operands, KnownAt, List.lookup, consD] at hk
    simp [execOp, Act.eval, hk, hc, go_sem]
    all_goals rfl
  apply gw_val
  · intro a' w' hk
    refine ⟨wanted_none rfl, ?_⟩
    simp [Oper.looksAt, Op.operands, Call.operands, KnownAt, List.lookup, consD] at hk
    simp [execOp, Act.eval, hk, go_sem]
    all_goals rfl
  refine gw_valB (fun v _ => v = (.int .u64 bi')) (mono_eq _) ?_ ?_
  · intro a' w' hb' hk
    refine ⟨wanted_none rfl, _, ?_, rfl⟩
    have hc := ((Blk.drew HB2.out).below hb').cell (i := 2) rfl
    simp [Oper.looksAt, Op.operands, Call.operands, KnownAt, List.lookup, consD] at hk
    simp [execOp, Act.eval, hk, hc, go_sem]
    all_goals rfl
  refine gw_call _ _ (fun v _ => v = .int .i64 (sgnI bi bi')) (mono_eq _) (fun a' w' hk => ?_) (fun w' hb => (cmpU bi bi' w').mono ?_) ?_
  · refine ⟨wanted_none rfl, ?_⟩
    simp [Oper.looksAt, Op.operands, Call.operands, KnownAt, List.lookup, consD] at hk
    simp [execOp, Act.eval, hk, go_sem]
    all_goals rfl
  · rintro e w'' ⟨rfl, rfl⟩
    exact ⟨_, rfl, rfl, Below.refl _ _⟩
  apply gw_val
  · intro a' w' hk
    refine ⟨wanted_none rfl, ?_⟩
    simp [Oper.looksAt, Op.operands, Call.operands, KnownAt, List.lookup, consD] at hk
    simp [execOp, Act.eval, hk, go_sem]
    all_goals rfl
  refine gw_valB (fun v _ => v = (.string cl)) (mono_eq _) ?_ ?_
  · intro a' w' hb' hk
    refine ⟨wanted_none rfl, _, ?_, rfl⟩
    have hc := ((Blk.drew HA2.out).below hb').cell (i := 3) rfl
    simp [Oper.looksAt, Op.operands, Call.operands, KnownAt, List.lookup, consD] at hk
    simp [execOp, Act.eval, hk, hc, go_sem]
    all_goals rfl
  apply gw_val
  · intro a' w' hk
    refine ⟨wanted_none rfl, ?_⟩
    simp [Oper.looksAt, Op.operands, Call.operands, KnownAt, List.lookup, consD] at hk
    simp [execOp, Act.eval, hk, go_sem]
    all_goals rfl
  refine gw_valB (fun v _ => v = (.string cl')) (mono_eq _) ?_ ?_
  · intro a' w' hb' hk
    refine ⟨wanted_none rfl, _, ?_, rfl⟩
    have hc := ((Blk.drew HB2.out).below hb').cell (i := 3) rfl
    simp [Oper.looksAt, Op.operands, Call.operands, KnownAt, List.lookup, consD] at hk
    simp [execOp, Act.eval, hk, hc, go_sem]
    all_goals rfl
  refine gw_call _ _ (fun v _ => v = .int .i64 (sgnS cl cl')) (mono_eq _) (fun a' w' hk => ?_) (fun w' hb => (cmpS cl cl' w').mono ?_) ?_
  · refine ⟨wanted_none rfl, ?_⟩
    simp [Oper.looksAt, Op.operands, Call.operands, KnownAt, List.lookup, consD] at hk
    simp [execOp, Act.eval, hk, go_sem]
    all_goals rfl
  · rintro e w'' ⟨rfl, rfl⟩
    exact ⟨_, rfl, rfl, Below.refl _ _⟩
  apply gw_val
  · intro a' w' hk
    refine ⟨wanted_none rfl, ?_⟩
    simp [Oper.looksAt, Op.operands, Call.operands, KnownAt, List.lookup, consD] at hk
    simp [execOp, Act.eval, hk, go_sem]
    all_goals rfl
  refine gw_valB (fun v _ => v = (.string nm)) (mono_eq _) ?_ ?_
  · intro a' w' hb' hk
    refine ⟨wanted_none rfl, _, ?_, rfl⟩
    have hc := ((Blk.drew HA2.out).below hb').cell (i := 4) rfl
    simp [Oper.looksAt, Op.operands, Call.operands, KnownAt, List.lookup, consD] at hk
    simp [execOp, Act.eval, hk, hc, go_sem]
    all_goals rfl
  apply gw_val
  · intro a' w' hk
    refine ⟨wanted_none rfl, ?_⟩
    simp [Oper.looksAt, Op.operands, Call.operands, KnownAt, List.lookup, consD] at hk
    simp [execOp, Act.eval, hk, go_sem]
    all_goals rfl
  refine gw_valB (fun v _ => v = (.string nm')) (mono_eq _) ?_ ?_
  · intro a' w' hb' hk
    refine ⟨wanted_none rfl, _, ?_, rfl⟩
    have hc := ((Blk.drew HB2.out).below hb').cell (i := 4) rfl
    simp [Oper.looksAt, Op.operands, Call.operands, KnownAt, List.lookup, consD] at hk
    simp [execOp, Act.eval, hk, hc, go_sem]
    all_goals rfl
  refine gw_call _ _ (fun v _ => v = .int .i64 (sgnS nm nm')) (mono_eq _) (fun a' w' hk => ?_) (fun w' hb => (cmpS nm nm' w').mono ?_) ?_
  · refine ⟨wanted_none rfl, ?_⟩
    simp [Oper.looksAt, Op.operands, Call.operands, KnownAt, List.lookup, consD] at hk
    simp [execOp, Act.eval, hk, go_sem]
    all_goals rfl
  · rintro e w'' ⟨rfl, rfl⟩
    exact ⟨_, rfl, rfl, Below.refl _ _⟩
  apply gw_val
  · intro a' w' hk
    refine ⟨wanted_none rfl, ?_⟩
    simp [Oper.looksAt, Op.operands, Call.operands, KnownAt, List.lookup, consD] at hk
    simp [execOp, Act.eval, hk, go_sem]
    all_goals rfl
  refine gw_valB (fun v _ => v = (.string ds)) (mono_eq _) ?_ ?_
  · intro a' w' hb' hk
    refine ⟨wanted_none rfl, _, ?_, rfl⟩
    have hc := ((Blk.drew HA2.out).below hb').cell (i := 5) rfl
    simp [Oper.looksAt, Op.operands, Call.operands, KnownAt, List.lookup, consD] at hk
    simp [execOp, Act.eval, hk, hc, go_sem]
    all_goals rfl
  apply gw_val
  · intro a' w' hk
    refine ⟨wanted_none rfl, ?_⟩
    simp [Oper.looksAt, Op.operands, Call.operands, KnownAt, List.lookup, consD] at hk
    simp [execOp, Act.eval, hk, go_sem]
    all_goals rfl
  refine gw_valB (fun v _ => v = (.string ds')) (mono_eq _) ?_ ?_
  · intro a' w' hb' hk
    refine ⟨wanted_none rfl, _, ?_, rfl⟩
    have hc := ((Blk.drew HB2.out).below hb').cell (i := 5) rfl
    simp [Oper.looksAt, Op.operands, Call.operands, KnownAt, List.lookup, consD] at hk
    simp [execOp, Act.eval, hk, hc, go_sem]
    all_goals rfl
  refine gw_call _ _ (fun v _ => v = .int .i64 (sgnS ds ds')) (mono_eq _) (fun a' w' hk => ?_) (fun w' hb => (cmpS ds ds' w').mono ?_) ?_
  · refine ⟨wanted_none rfl, ?_⟩
    simp [Oper.looksAt, Op.operands, Call.operands, KnownAt, List.lookup, consD] at hk
    simp [execOp, Act.eval, hk, go_sem]
    all_goals rfl
  · rintro e w'' ⟨rfl, rfl⟩
    exact ⟨_, rfl, rfl, Below.refl _ _⟩
  refine gw_litU (E := iE) [sgnI t t', sgnS s s', sgnI bi bi', sgnS cl cl', sgnS nm nm', sgnS ds ds'] ?_ ?_
  · intro a' w' hk
    refine ⟨wanted_none rfl, (List.map iE [sgnI t t', sgnS s s', sgnI bi bi', sgnS cl cl', sgnS nm nm', sgnS ds ds']).toArray, 3, by simp, ?_⟩
    simp [Oper.looksAt, Op.operands, Call.operands, KnownAt, List.lookup, consD] at hk
    simp [execOp, Act.eval, hk, go_sem]
    all_goals rfl
  refine gw_callE 94 (fun args w => ∃ v1 : Value, args = #[v1] ∧ (SliceG iE [sgnI t t', sgnS s s', sgnI bi bi', sgnS cl cl', sgnS nm nm', sgnS ds ds']) v1 w) (fun y _ => y = .int .i64 (orK [sgnI t t', sgnS s s', sgnI bi bi', sgnS cl cl', sgnS nm nm', sgnS ds ds'])) (mono_eq _) (fun a' w' hk => ?_) (fun w' args hb hA => ?_) ?_
  · refine ⟨wanted_none rfl, #[a'.tmps.getD 35 undef], ⟨_, rfl, hk 35 (by decide)⟩, ?_⟩
    simp [execOp, Act.eval, go_sem]
    all_goals rfl
  · obtain ⟨v1, rfl, q, m', d', rfl, hm', hq⟩ := hA
    refine (or_any q m' d' [sgnI t t', sgnS s s', sgnI bi bi', sgnS cl cl', sgnS nm nm', sgnS ds ds'] w' hm' (by rw [← hm']; simp) hq).mono ?_
    rintro e w'' ⟨rfl, rfl⟩
    exact ⟨_, rfl, rfl, Below.refl _ _⟩
  apply gw_val
  · intro a' w' hk
    refine ⟨wanted_none rfl, ?_⟩
    simp [Oper.looksAt, Op.operands, Call.operands, KnownAt, List.lookup, consD] at hk
    simp [execOp, Act.eval, hk, go_sem]
    all_goals rfl
  intro vs w8 hb8 hall
  simp only [AllS, consD] at hall
  simp only [consD, putAllS, Act.put]
  obtain ⟨h4, h36, -⟩ := hall
  rw [h4]
  simp only [List.setIfInBounds_toArray, List.set_cons_succ, List.set_cons_zero]
  have HB8 := Lib.hid (HW2.out.trans ((((Below.refl w2.heap.size w2).drew).trans hb8).mono HW2.out.size))
  clear hb8
  go_wp2_with fail
  go_ret
  exact ⟨rfl, HB8.out⟩
end Go.Proofs.Ytbknkahakmfhkaa
