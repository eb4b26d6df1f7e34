/- The small functions of package runs, and the document's. -/
import Derived.Test.YtmmgcfhoigpomaaRows
import Derived.Test.YtmmgcfhoigpomaaGrowM
import Derived.Test.YtmmgcfhoigpomaaCurO
import Derived.Test.YtmmgcfhoigpomaaMem
namespace Go.Proofs.Ytmmgcfhoigpomaa
open Go.RowKit
set_option linter.unusedVariables false
set_option linter.unusedSimpArgs false

def bitsOf (s : Int) : Nat := if s = 16 then 2 else if s = 17 then 3 else if s = 18 then 7 else 0
def leastOf (s : Int) : Nat := if s = 16 ∨ s = 17 then 3 else if s = 18 then 11 else 1
theorem bitsOf_le (s : Int) : bitsOf s ≤ 7 := by unfold bitsOf; split; omega; split; omega; split <;> omega
def rightB (s m : Int) : Bool := decide (0 ≤ s) && decide (s ≤ 18) && decide (0 ≤ m) && decide (m / 2 ^ bitsOf s = 0)
theorem cell_later2 {w w' : World} {a : Addr} {v : Value} (h : w.cell? a = some v) (hb : Below w.drew.heap.size w.drew w') : w'.cell? a = some v :=
  (hb.cell (World.block_lt_of_cell? _ _ h)).trans h

set_option maxRecDepth 100000 in
theorem runBits_any (s : Int) (w : World) : Calls Try.prog 45 #[.int .i64 s] w fun e w' => e = .returned (.int .i64 ((bitsOf s : Nat) : Int)) ∧ w = w' := by
  by_cases h16 : s = 16
  · subst h16
    go_enter Try.func45, Try.ntmps45
    go_wp2
    go_ret
    exact ⟨ret_int (by decide), rfl⟩
  by_cases h17 : s = 17
  · subst h17
    clear h16
    go_enter Try.func45, Try.ntmps45
    go_wp2
    go_ret
    exact ⟨ret_int (by decide), rfl⟩
  by_cases h18 : s = 18
  · subst h18
    clear h16 h17
    go_enter Try.func45, Try.ntmps45
    go_wp2
    go_ret
    exact ⟨ret_int (by decide), rfl⟩
  have hd : bitsOf s = 0 := by unfold bitsOf; simp [h16, h17, h18]
  have k16 : (s == 16) = false := by simpa using h16
  have k17 : (s == 17) = false := by simpa using h17
  have k18 : (s == 18) = false := by simpa using h18
  rw [hd]
  clear hd h16 h17 h18
  go_enter Try.func45, Try.ntmps45
  go_wp2
  go_ret
  exact ⟨rfl, rfl⟩
set_option maxRecDepth 100000 in
theorem refBits_any (s : Int) (w : World) : Calls Try.prog 46 #[.int .i64 s] w fun e w' => e = .returned (.int .i64 ((bitsOf s : Nat) : Int)) ∧ w = w' := by
  by_cases h16 : s = 16
  · subst h16
    go_enter Try.func46, Try.ntmps46
    go_wp2
    go_ret
    exact ⟨ret_int (by decide), rfl⟩
  by_cases h17 : s = 17
  · subst h17
    clear h16
    go_enter Try.func46, Try.ntmps46
    go_wp2
    go_ret
    exact ⟨ret_int (by decide), rfl⟩
  by_cases h18 : s = 18
  · subst h18
    clear h16 h17
    go_enter Try.func46, Try.ntmps46
    go_wp2
    go_ret
    exact ⟨ret_int (by decide), rfl⟩
  have hd : bitsOf s = 0 := by unfold bitsOf; simp [h16, h17, h18]
  have k16 : (s == 16) = false := by simpa using h16
  have k17 : (s == 17) = false := by simpa using h17
  have k18 : (s == 18) = false := by simpa using h18
  rw [hd]
  clear hd h16 h17 h18
  go_enter Try.func46, Try.ntmps46
  go_wp2
  go_ret
  exact ⟨rfl, rfl⟩
set_option maxRecDepth 100000 in
theorem least_any (s : Int) (w : World) : Calls Try.prog 60 #[.int .i64 s] w fun e w' => e = .returned (.int .i64 ((leastOf s : Nat) : Int)) ∧ w = w' := by
  by_cases h16 : s = 16
  · subst h16
    go_enter Try.func60, Try.ntmps60
    go_wp2
    go_ret
    exact ⟨ret_int (by decide), rfl⟩
  by_cases h17 : s = 17
  · subst h17
    clear h16
    go_enter Try.func60, Try.ntmps60
    go_wp2
    go_ret
    exact ⟨ret_int (by decide), rfl⟩
  by_cases h18 : s = 18
  · subst h18
    clear h16 h17
    go_enter Try.func60, Try.ntmps60
    go_wp2
    go_ret
    exact ⟨ret_int (by decide), rfl⟩
  have hd : leastOf s = 1 := by unfold leastOf; simp [h16, h17, h18]
  have k16 : (s == 16) = false := by simpa using h16
  have k17 : (s == 17) = false := by simpa using h17
  have k18 : (s == 18) = false := by simpa using h18
  rw [hd]
  clear hd h16 h17 h18
  go_enter Try.func60, Try.ntmps60
  go_wp2
  go_ret
  exact ⟨rfl, rfl⟩
set_option maxRecDepth 100000 in
set_option maxHeartbeats 4000000 in
theorem runRight_any (s m : Int) (w : World) (hs : -9223372036854775808 ≤ s ∧ s ≤ 9223372036854775807) (hm : -9223372036854775808 ≤ m ∧ m ≤ 9223372036854775807) :
  Calls Try.prog 47 #[.agg #[.int .i64 s, .int .i64 m]] w fun e w' => e = .returned (.bool (rightB s m)) ∧ Below w.heap.size w w' := by
  have hc0 : (w.alloc (.cells #[.int .i64 s, .int .i64 m] 74)).cell? ⟨w.heap.size, 0, none⟩ = some (.int .i64 s) := (Blk.new w _ _).cell rfl
  have hc1 : (w.alloc (.cells #[.int .i64 s, .int .i64 m] 74)).cell? ⟨w.heap.size, 1, none⟩ = some (.int .i64 m) := (Blk.new w _ _).cell rfl
  have HC0 := Lib.hid hc0
  have HC1 := Lib.hid hc1
  have HBA := Lib.hid (below_alloc w (.cells #[.int .i64 s, .int .i64 m] 74))
  clear hc0 hc1
  go_enter Try.func47, Try.ntmps47
  go_wp2_with fail
  by_cases g5' : 0 ≤ s
  · have g5 : decide (0 ≤ s) = true := decide_eq_true g5'
    by_cases g9' : s ≤ 18
    · have g9 : decide (s ≤ 18) = true := decide_eq_true g9'
      by_cases g14' : 0 ≤ m
      · have g14 : decide (0 ≤ m) = true := decide_eq_true g14'
        by_cases g24' : m / 2 ^ bitsOf s = 0
        · have g24 : (m / 2 ^ bitsOf s == 0) = true := beq_iff_eq.2 g24'
          have HFIN : Hid (rightB s m = true) := Lib.hid (by unfold rightB; rw [g5, g9, g14, decide_eq_true g24']; rfl)
          clear g24'
          refine wp_region_grow (by kernel_rfl) (by kernel_rfl) (by rfl) ?_
          apply gw_val
          · intro a' w' hk
            refine ⟨wanted_none rfl, ?_⟩
            simp [Oper.looksAt, Op.operands, Call.operands, KnownAt, List.lookup, consD] at hk
            simp [execOp, Act.eval, hk, go_sem]
            all_goals rfl
          refine gw_valB (fun v _ => v = .int .i64 s) (mono_eq _) ?_ ?_
          · intro a' w' hb' hk
            refine ⟨wanted_none rfl, _, ?_, rfl⟩
            have hc := cell_later2 HC0.out hb'
            simp [Oper.looksAt, Op.operands, Call.operands, KnownAt, List.lookup, consD] at hk
            simp [execOp, Act.eval, hk, hc, go_sem]
            all_goals rfl
          apply gw_val
          · intro a' w' hk
            refine ⟨wanted_none rfl, ?_⟩
            simp [Oper.looksAt, Op.operands, Call.operands, KnownAt, List.lookup, consD] at hk
            simp [execOp, Act.eval, hk, go_sem, g5]
            all_goals rfl
          apply gw_val
          · intro a' w' hk
            refine ⟨wanted_none rfl, ?_⟩
            simp [Oper.looksAt, Op.operands, Call.operands, KnownAt, List.lookup, consD] at hk
            simp [execOp, Act.eval, hk, go_sem]
            all_goals rfl
          apply gw_val
          · intro a' w' hk
            refine ⟨wanted_guard (t := 6) rfl rfl (by simpa [KnownAt, List.lookup, consD] using hk 6 (by decide)), ?_⟩
            simp [Oper.looksAt, Op.operands, Call.operands, KnownAt, List.lookup, consD] at hk
            simp [execOp, Act.eval, hk, go_sem]
            all_goals rfl
          refine gw_valB (fun v _ => v = .int .i64 s) (mono_eq _) ?_ ?_
          · intro a' w' hb' hk
            refine ⟨wanted_guard (t := 6) rfl rfl (by simpa [KnownAt, List.lookup, consD] using hk 6 (by decide)), _, ?_, rfl⟩
            have hc := cell_later2 HC0.out hb'
            simp [Oper.looksAt, Op.operands, Call.operands, KnownAt, List.lookup, consD] at hk
            simp [execOp, Act.eval, hk, hc, go_sem]
            all_goals rfl
          apply gw_val
          · intro a' w' hk
            refine ⟨wanted_guard (t := 6) rfl rfl (by simpa [KnownAt, List.lookup, consD] using hk 6 (by decide)), ?_⟩
            simp [Oper.looksAt, Op.operands, Call.operands, KnownAt, List.lookup, consD] at hk
            simp [execOp, Act.eval, hk, go_sem, g9]
            all_goals rfl
          apply gw_val
          · intro a' w' hk
            refine ⟨wanted_none rfl, ?_⟩
            simp [Oper.looksAt, Op.operands, Call.operands, KnownAt, List.lookup, consD] at hk
            simp [execOp, Act.eval, hk, go_sem]
            all_goals rfl
          apply gw_val
          · intro a' w' hk
            refine ⟨wanted_none rfl, ?_⟩
            simp [Oper.looksAt, Op.operands, Call.operands, KnownAt, List.lookup, consD] at hk
            simp [execOp, Act.eval, hk, go_sem]
            all_goals rfl
          apply gw_val
          · intro a' w' hk
            refine ⟨wanted_guard (t := 11) rfl rfl (by simpa [KnownAt, List.lookup, consD] using hk 11 (by decide)), ?_⟩
            simp [Oper.looksAt, Op.operands, Call.operands, KnownAt, List.lookup, consD] at hk
            simp [execOp, Act.eval, hk, go_sem]
            all_goals rfl
          refine gw_valB (fun v _ => v = .int .i64 m) (mono_eq _) ?_ ?_
          · intro a' w' hb' hk
            refine ⟨wanted_guard (t := 11) rfl rfl (by simpa [KnownAt, List.lookup, consD] using hk 11 (by decide)), _, ?_, rfl⟩
            have hc := cell_later2 HC1.out hb'
            simp [Oper.looksAt, Op.operands, Call.operands, KnownAt, List.lookup, consD] at hk
            simp [execOp, Act.eval, hk, hc, go_sem]
            all_goals rfl
          apply gw_val
          · intro a' w' hk
            refine ⟨wanted_guard (t := 11) rfl rfl (by simpa [KnownAt, List.lookup, consD] using hk 11 (by decide)), ?_⟩
            simp [Oper.looksAt, Op.operands, Call.operands, KnownAt, List.lookup, consD] at hk
            simp [execOp, Act.eval, hk, go_sem, g14]
            all_goals rfl
          apply gw_val
          · intro a' w' hk
            refine ⟨wanted_none rfl, ?_⟩
            simp [Oper.looksAt, Op.operands, Call.operands, KnownAt, List.lookup, consD] at hk
            simp [execOp, Act.eval, hk, go_sem]
            all_goals rfl
          apply gw_val
          · intro a' w' hk
            refine ⟨wanted_none rfl, ?_⟩
            simp [Oper.looksAt, Op.operands, Call.operands, KnownAt, List.lookup, consD] at hk
            simp [execOp, Act.eval, hk, go_sem]
            all_goals rfl
          apply gw_val
          · intro a' w' hk
            refine ⟨wanted_guard (t := 16) rfl rfl (by simpa [KnownAt, List.lookup, consD] using hk 16 (by decide)), ?_⟩
            simp [Oper.looksAt, Op.operands, Call.operands, KnownAt, List.lookup, consD] at hk
            simp [execOp, Act.eval, hk, go_sem]
            all_goals rfl
          refine gw_valB (fun v _ => v = .int .i64 m) (mono_eq _) ?_ ?_
          · intro a' w' hb' hk
            refine ⟨wanted_guard (t := 16) rfl rfl (by simpa [KnownAt, List.lookup, consD] using hk 16 (by decide)), _, ?_, rfl⟩
            have hc := cell_later2 HC1.out hb'
            simp [Oper.looksAt, Op.operands, Call.operands, KnownAt, List.lookup, consD] at hk
            simp [execOp, Act.eval, hk, hc, go_sem]
            all_goals rfl
          apply gw_val
          · intro a' w' hk
            refine ⟨wanted_guard (t := 16) rfl rfl (by simpa [KnownAt, List.lookup, consD] using hk 16 (by decide)), ?_⟩
            simp [Oper.looksAt, Op.operands, Call.operands, KnownAt, List.lookup, consD] at hk
            simp [execOp, Act.eval, hk, go_sem]
            all_goals rfl
          refine gw_valB (fun v _ => v = .int .i64 s) (mono_eq _) ?_ ?_
          · intro a' w' hb' hk
            refine ⟨wanted_guard (t := 16) rfl rfl (by simpa [KnownAt, List.lookup, consD] using hk 16 (by decide)), _, ?_, rfl⟩
            have hc := cell_later2 HC0.out hb'
            simp [Oper.looksAt, Op.operands, Call.operands, KnownAt, List.lookup, consD] at hk
            simp [execOp, Act.eval, hk, hc, go_sem]
            all_goals rfl
          refine gw_call _ #[.int .i64 s] (fun v _ => v = .int .i64 ((bitsOf s : Nat) : Int)) (mono_eq _) (fun a' w' hk => ?_) (fun w' hb => (runBits_any s w').mono ?_) ?_
          · refine ⟨wanted_guard (t := 16) rfl rfl (by simpa [KnownAt, List.lookup, consD] using hk 16 (by decide)), ?_⟩
            simp [Oper.looksAt, Op.operands, Call.operands, KnownAt, List.lookup, consD] at hk
            simp [execOp, Act.eval, hk, go_sem]
            all_goals rfl
          · rintro e w'' ⟨rfl, rfl⟩
            exact ⟨_, rfl, rfl, Below.refl _ _⟩
          refine gw_val (.int .u64 ((bitsOf s : Nat) : Int)) ?_ ?_
          · intro a' w' hk
            refine ⟨wanted_guard (t := 16) rfl rfl (by simpa [KnownAt, List.lookup, consD] using hk 16 (by decide)), ?_⟩
            simp [Oper.looksAt, Op.operands, Call.operands, KnownAt, List.lookup, consD] at hk
            have hwb : IntKind.u64.wrap ((bitsOf s : Nat) : Int) = ((bitsOf s : Nat) : Int) := by rw [IntKind.wrap_u64]; have := bitsOf_le s; omega
            simp [execOp, Act.eval, hk, go_sem, hwb]
            all_goals rfl
          refine gw_val (.int .i64 (m / 2 ^ bitsOf s)) ?_ ?_
          · intro a' w' hk
            refine ⟨wanted_guard (t := 16) rfl rfl (by simpa [KnownAt, List.lookup, consD] using hk 16 (by decide)), ?_⟩
            simp [Oper.looksAt, Op.operands, Call.operands, KnownAt, List.lookup, consD] at hk
            have hmn : min (bitsOf s) 64 = bitsOf s := Nat.min_eq_left (by have := bitsOf_le s; omega)
            simp [execOp, Act.eval, hk, go_sem, hmn]
            all_goals rfl
          apply gw_val
          · intro a' w' hk
            refine ⟨wanted_guard (t := 16) rfl rfl (by simpa [KnownAt, List.lookup, consD] using hk 16 (by decide)), ?_⟩
            simp [Oper.looksAt, Op.operands, Call.operands, KnownAt, List.lookup, consD] at hk
            simp [execOp, Act.eval, hk, go_sem, g24]
            all_goals rfl
          apply gw_val
          · intro a' w' hk
            refine ⟨wanted_none rfl, ?_⟩
            simp [Oper.looksAt, Op.operands, Call.operands, KnownAt, List.lookup, consD] at hk
            simp [execOp, Act.eval, hk, go_sem]
            all_goals rfl
          apply gw_val
          · intro a' w' hk
            refine ⟨wanted_none rfl, ?_⟩
            simp [Oper.looksAt, Op.operands, Call.operands, KnownAt, List.lookup, consD] at hk
            simp [execOp, Act.eval, hk, go_sem]
            all_goals rfl
          intro vs w' hb hall
          simp only [AllS, consD] at hall
          simp only [consD, putAllS, Act.put]
          obtain ⟨h6, -⟩ := hall
          rw [h6]
          simp only [List.setIfInBounds_toArray, List.set_cons_succ, List.set_cons_zero]
          go_wp2
          go_ret
          exact ⟨ret_bool HFIN.out.symm, HBA.out.drew.trans (hb.mono HBA.out.size)⟩
        · have g24 : (m / 2 ^ bitsOf s == 0) = false := beq_eq_false_iff_ne.2 g24'
          have HFIN : Hid (rightB s m = false) := Lib.hid (by unfold rightB; rw [g5, g9, g14, decide_eq_false g24']; rfl)
          clear g24'
          refine wp_region_grow (by kernel_rfl) (by kernel_rfl) (by rfl) ?_
          apply gw_val
          · intro a' w' hk
            refine ⟨wanted_none rfl, ?_⟩
            simp [Oper.looksAt, Op.operands, Call.operands, KnownAt, List.lookup, consD] at hk
            simp [execOp, Act.eval, hk, go_sem]
            all_goals rfl
          refine gw_valB (fun v _ => v = .int .i64 s) (mono_eq _) ?_ ?_
          · intro a' w' hb' hk
            refine ⟨wanted_none rfl, _, ?_, rfl⟩
            have hc := cell_later2 HC0.out hb'
            simp [Oper.looksAt, Op.operands, Call.operands, KnownAt, List.lookup, consD] at hk
            simp [execOp, Act.eval, hk, hc, go_sem]
            all_goals rfl
          apply gw_val
          · intro a' w' hk
            refine ⟨wanted_none rfl, ?_⟩
            simp [Oper.looksAt, Op.operands, Call.operands, KnownAt, List.lookup, consD] at hk
            simp [execOp, Act.eval, hk, go_sem, g5]
            all_goals rfl
          apply gw_val
          · intro a' w' hk
            refine ⟨wanted_none rfl, ?_⟩
            simp [Oper.looksAt, Op.operands, Call.operands, KnownAt, List.lookup, consD] at hk
            simp [execOp, Act.eval, hk, go_sem]
            all_goals rfl
          apply gw_val
          · intro a' w' hk
            refine ⟨wanted_guard (t := 6) rfl rfl (by simpa [KnownAt, List.lookup, consD] using hk 6 (by decide)), ?_⟩
            simp [Oper.looksAt, Op.operands, Call.operands, KnownAt, List.lookup, consD] at hk
            simp [execOp, Act.eval, hk, go_sem]
            all_goals rfl
          refine gw_valB (fun v _ => v = .int .i64 s) (mono_eq _) ?_ ?_
          · intro a' w' hb' hk
            refine ⟨wanted_guard (t := 6) rfl rfl (by simpa [KnownAt, List.lookup, consD] using hk 6 (by decide)), _, ?_, rfl⟩
            have hc := cell_later2 HC0.out hb'
            simp [Oper.looksAt, Op.operands, Call.operands, KnownAt, List.lookup, consD] at hk
            simp [execOp, Act.eval, hk, hc, go_sem]
            all_goals rfl
          apply gw_val
          · intro a' w' hk
            refine ⟨wanted_guard (t := 6) rfl rfl (by simpa [KnownAt, List.lookup, consD] using hk 6 (by decide)), ?_⟩
            simp [Oper.looksAt, Op.operands, Call.operands, KnownAt, List.lookup, consD] at hk
            simp [execOp, Act.eval, hk, go_sem, g9]
            all_goals rfl
          apply gw_val
          · intro a' w' hk
            refine ⟨wanted_none rfl, ?_⟩
            simp [Oper.looksAt, Op.operands, Call.operands, KnownAt, List.lookup, consD] at hk
            simp [execOp, Act.eval, hk, go_sem]
            all_goals rfl
          apply gw_val
          · intro a' w' hk
            refine ⟨wanted_none rfl, ?_⟩
            simp [Oper.looksAt, Op.operands, Call.operands, KnownAt, List.lookup, consD] at hk
            simp [execOp, Act.eval, hk, go_sem]
            all_goals rfl
          apply gw_val
          · intro a' w' hk
            refine ⟨wanted_guard (t := 11) rfl rfl (by simpa [KnownAt, List.lookup, consD] using hk 11 (by decide)), ?_⟩
            simp [Oper.looksAt, Op.operands, Call.operands, KnownAt, List.lookup, consD] at hk
            simp [execOp, Act.eval, hk, go_sem]
            all_goals rfl
          refine gw_valB (fun v _ => v = .int .i64 m) (mono_eq _) ?_ ?_
          · intro a' w' hb' hk
            refine ⟨wanted_guard (t := 11) rfl rfl (by simpa [KnownAt, List.lookup, consD] using hk 11 (by decide)), _, ?_, rfl⟩
            have hc := cell_later2 HC1.out hb'
            simp [Oper.looksAt, Op.operands, Call.operands, KnownAt, List.lookup, consD] at hk
            simp [execOp, Act.eval, hk, hc, go_sem]
            all_goals rfl
          apply gw_val
          · intro a' w' hk
            refine ⟨wanted_guard (t := 11) rfl rfl (by simpa [KnownAt, List.lookup, consD] using hk 11 (by decide)), ?_⟩
            simp [Oper.looksAt, Op.operands, Call.operands, KnownAt, List.lookup, consD] at hk
            simp [execOp, Act.eval, hk, go_sem, g14]
            all_goals rfl
          apply gw_val
          · intro a' w' hk
            refine ⟨wanted_none rfl, ?_⟩
            simp [Oper.looksAt, Op.operands, Call.operands, KnownAt, List.lookup, consD] at hk
            simp [execOp, Act.eval, hk, go_sem]
            all_goals rfl
          apply gw_val
          · intro a' w' hk
            refine ⟨wanted_none rfl, ?_⟩
            simp [Oper.looksAt, Op.operands, Call.operands, KnownAt, List.lookup, consD] at hk
            simp [execOp, Act.eval, hk, go_sem]
            all_goals rfl
          apply gw_val
          · intro a' w' hk
            refine ⟨wanted_guard (t := 16) rfl rfl (by simpa [KnownAt, List.lookup, consD] using hk 16 (by decide)), ?_⟩
            simp [Oper.looksAt, Op.operands, Call.operands, KnownAt, List.lookup, consD] at hk
            simp [execOp, Act.eval, hk, go_sem]
            all_goals rfl
          refine gw_valB (fun v _ => v = .int .i64 m) (mono_eq _) ?_ ?_
          · intro a' w' hb' hk
            refine ⟨wanted_guard (t := 16) rfl rfl (by simpa [KnownAt, List.lookup, consD] using hk 16 (by decide)), _, ?_, rfl⟩
            have hc := cell_later2 HC1.out hb'
            simp [Oper.looksAt, Op.operands, Call.operands, KnownAt, List.lookup, consD] at hk
            simp [execOp, Act.eval, hk, hc, go_sem]
            all_goals rfl
          apply gw_val
          · intro a' w' hk
            refine ⟨wanted_guard (t := 16) rfl rfl (by simpa [KnownAt, List.lookup, consD] using hk 16 (by decide)), ?_⟩
            simp [Oper.looksAt, Op.operands, Call.operands, KnownAt, List.lookup, consD] at hk
            simp [execOp, Act.eval, hk, go_sem]
            all_goals rfl
          refine gw_valB (fun v _ => v = .int .i64 s) (mono_eq _) ?_ ?_
          · intro a' w' hb' hk
            refine ⟨wanted_guard (t := 16) rfl rfl (by simpa [KnownAt, List.lookup, consD] using hk 16 (by decide)), _, ?_, rfl⟩
            have hc := cell_later2 HC0.out hb'
            simp [Oper.looksAt, Op.operands, Call.operands, KnownAt, List.lookup, consD] at hk
            simp [execOp, Act.eval, hk, hc, go_sem]
            all_goals rfl
          refine gw_call _ #[.int .i64 s] (fun v _ => v = .int .i64 ((bitsOf s : Nat) : Int)) (mono_eq _) (fun a' w' hk => ?_) (fun w' hb => (runBits_any s w').mono ?_) ?_
          · refine ⟨wanted_guard (t := 16) rfl rfl (by simpa [KnownAt, List.lookup, consD] using hk 16 (by decide)), ?_⟩
            simp [Oper.looksAt, Op.operands, Call.operands, KnownAt, List.lookup, consD] at hk
            simp [execOp, Act.eval, hk, go_sem]
            all_goals rfl
          · rintro e w'' ⟨rfl, rfl⟩
            exact ⟨_, rfl, rfl, Below.refl _ _⟩
          refine gw_val (.int .u64 ((bitsOf s : Nat) : Int)) ?_ ?_
          · intro a' w' hk
            refine ⟨wanted_guard (t := 16) rfl rfl (by simpa [KnownAt, List.lookup, consD] using hk 16 (by decide)), ?_⟩
            simp [Oper.looksAt, Op.operands, Call.operands, KnownAt, List.lookup, consD] at hk
            have hwb : IntKind.u64.wrap ((bitsOf s : Nat) : Int) = ((bitsOf s : Nat) : Int) := by rw [IntKind.wrap_u64]; have := bitsOf_le s; omega
            simp [execOp, Act.eval, hk, go_sem, hwb]
            all_goals rfl
          refine gw_val (.int .i64 (m / 2 ^ bitsOf s)) ?_ ?_
          · intro a' w' hk
            refine ⟨wanted_guard (t := 16) rfl rfl (by simpa [KnownAt, List.lookup, consD] using hk 16 (by decide)), ?_⟩
            simp [Oper.looksAt, Op.operands, Call.operands, KnownAt, List.lookup, consD] at hk
            have hmn : min (bitsOf s) 64 = bitsOf s := Nat.min_eq_left (by have := bitsOf_le s; omega)
            simp [execOp, Act.eval, hk, go_sem, hmn]
            all_goals rfl
          apply gw_val
          · intro a' w' hk
            refine ⟨wanted_guard (t := 16) rfl rfl (by simpa [KnownAt, List.lookup, consD] using hk 16 (by decide)), ?_⟩
            simp [Oper.looksAt, Op.operands, Call.operands, KnownAt, List.lookup, consD] at hk
            simp [execOp, Act.eval, hk, go_sem, g24]
            all_goals rfl
          apply gw_val
          · intro a' w' hk
            refine ⟨wanted_none rfl, ?_⟩
            simp [Oper.looksAt, Op.operands, Call.operands, KnownAt, List.lookup, consD] at hk
            simp [execOp, Act.eval, hk, go_sem]
            all_goals rfl
          apply gw_val
          · intro a' w' hk
            refine ⟨wanted_none rfl, ?_⟩
            simp [Oper.looksAt, Op.operands, Call.operands, KnownAt, List.lookup, consD] at hk
            simp [execOp, Act.eval, hk, go_sem]
            all_goals rfl
          intro vs w' hb hall
          simp only [AllS, consD] at hall
          simp only [consD, putAllS, Act.put]
          obtain ⟨h6, -⟩ := hall
          rw [h6]
          simp only [List.setIfInBounds_toArray, List.set_cons_succ, List.set_cons_zero]
          go_wp2
          go_ret
          exact ⟨ret_bool HFIN.out.symm, HBA.out.drew.trans (hb.mono HBA.out.size)⟩
      · have g14 : decide (0 ≤ m) = false := decide_eq_false g14'
        have HFIN : Hid (rightB s m = false) := Lib.hid (by unfold rightB; rw [g14]; simp)
        refine wp_region_grow (by kernel_rfl) (by kernel_rfl) (by rfl) ?_
        apply gw_val
        · intro a' w' hk
          refine ⟨wanted_none rfl, ?_⟩
          simp [Oper.looksAt, Op.operands, Call.operands, KnownAt, List.lookup, consD] at hk
          simp [execOp, Act.eval, hk, go_sem]
          all_goals rfl
        refine gw_valB (fun v _ => v = .int .i64 s) (mono_eq _) ?_ ?_
        · intro a' w' hb' hk
          refine ⟨wanted_none rfl, _, ?_, rfl⟩
          have hc := cell_later2 HC0.out hb'
          simp [Oper.looksAt, Op.operands, Call.operands, KnownAt, List.lookup, consD] at hk
          simp [execOp, Act.eval, hk, hc, go_sem]
          all_goals rfl
        apply gw_val
        · intro a' w' hk
          refine ⟨wanted_none rfl, ?_⟩
          simp [Oper.looksAt, Op.operands, Call.operands, KnownAt, List.lookup, consD] at hk
          simp [execOp, Act.eval, hk, go_sem, g5]
          all_goals rfl
        apply gw_val
        · intro a' w' hk
          refine ⟨wanted_none rfl, ?_⟩
          simp [Oper.looksAt, Op.operands, Call.operands, KnownAt, List.lookup, consD] at hk
          simp [execOp, Act.eval, hk, go_sem]
          all_goals rfl
        apply gw_val
        · intro a' w' hk
          refine ⟨wanted_guard (t := 6) rfl rfl (by simpa [KnownAt, List.lookup, consD] using hk 6 (by decide)), ?_⟩
          simp [Oper.looksAt, Op.operands, Call.operands, KnownAt, List.lookup, consD] at hk
          simp [execOp, Act.eval, hk, go_sem]
          all_goals rfl
        refine gw_valB (fun v _ => v = .int .i64 s) (mono_eq _) ?_ ?_
        · intro a' w' hb' hk
          refine ⟨wanted_guard (t := 6) rfl rfl (by simpa [KnownAt, List.lookup, consD] using hk 6 (by decide)), _, ?_, rfl⟩
          have hc := cell_later2 HC0.out hb'
          simp [Oper.looksAt, Op.operands, Call.operands, KnownAt, List.lookup, consD] at hk
          simp [execOp, Act.eval, hk, hc, go_sem]
          all_goals rfl
        apply gw_val
        · intro a' w' hk
          refine ⟨wanted_guard (t := 6) rfl rfl (by simpa [KnownAt, List.lookup, consD] using hk 6 (by decide)), ?_⟩
          simp [Oper.looksAt, Op.operands, Call.operands, KnownAt, List.lookup, consD] at hk
          simp [execOp, Act.eval, hk, go_sem, g9]
          all_goals rfl
        apply gw_val
        · intro a' w' hk
          refine ⟨wanted_none rfl, ?_⟩
          simp [Oper.looksAt, Op.operands, Call.operands, KnownAt, List.lookup, consD] at hk
          simp [execOp, Act.eval, hk, go_sem]
          all_goals rfl
        apply gw_val
        · intro a' w' hk
          refine ⟨wanted_none rfl, ?_⟩
          simp [Oper.looksAt, Op.operands, Call.operands, KnownAt, List.lookup, consD] at hk
          simp [execOp, Act.eval, hk, go_sem]
          all_goals rfl
        apply gw_val
        · intro a' w' hk
          refine ⟨wanted_guard (t := 11) rfl rfl (by simpa [KnownAt, List.lookup, consD] using hk 11 (by decide)), ?_⟩
          simp [Oper.looksAt, Op.operands, Call.operands, KnownAt, List.lookup, consD] at hk
          simp [execOp, Act.eval, hk, go_sem]
          all_goals rfl
        refine gw_valB (fun v _ => v = .int .i64 m) (mono_eq _) ?_ ?_
        · intro a' w' hb' hk
          refine ⟨wanted_guard (t := 11) rfl rfl (by simpa [KnownAt, List.lookup, consD] using hk 11 (by decide)), _, ?_, rfl⟩
          have hc := cell_later2 HC1.out hb'
          simp [Oper.looksAt, Op.operands, Call.operands, KnownAt, List.lookup, consD] at hk
          simp [execOp, Act.eval, hk, hc, go_sem]
          all_goals rfl
        apply gw_val
        · intro a' w' hk
          refine ⟨wanted_guard (t := 11) rfl rfl (by simpa [KnownAt, List.lookup, consD] using hk 11 (by decide)), ?_⟩
          simp [Oper.looksAt, Op.operands, Call.operands, KnownAt, List.lookup, consD] at hk
          simp [execOp, Act.eval, hk, go_sem, g14]
          all_goals rfl
        apply gw_val
        · intro a' w' hk
          refine ⟨wanted_none rfl, ?_⟩
          simp [Oper.looksAt, Op.operands, Call.operands, KnownAt, List.lookup, consD] at hk
          simp [execOp, Act.eval, hk, go_sem]
          all_goals rfl
        apply gw_val
        · intro a' w' hk
          refine ⟨wanted_none rfl, ?_⟩
          simp [Oper.looksAt, Op.operands, Call.operands, KnownAt, List.lookup, consD] at hk
          simp [execOp, Act.eval, hk, go_sem]
          all_goals rfl
        refine gw_skip (fun a' w' hk => wanted_not (t := 16) rfl rfl (by simpa [KnownAt, List.lookup, consD] using hk 16 (by decide)) (by decide)) ?_
        refine gw_skip (fun a' w' hk => wanted_not (t := 16) rfl rfl (by simpa [KnownAt, List.lookup, consD] using hk 16 (by decide)) (by decide)) ?_
        refine gw_skip (fun a' w' hk => wanted_not (t := 16) rfl rfl (by simpa [KnownAt, List.lookup, consD] using hk 16 (by decide)) (by decide)) ?_
        refine gw_skip (fun a' w' hk => wanted_not (t := 16) rfl rfl (by simpa [KnownAt, List.lookup, consD] using hk 16 (by decide)) (by decide)) ?_
        refine gw_skip (fun a' w' hk => wanted_not (t := 16) rfl rfl (by simpa [KnownAt, List.lookup, consD] using hk 16 (by decide)) (by decide)) ?_
        refine gw_skip (fun a' w' hk => wanted_not (t := 16) rfl rfl (by simpa [KnownAt, List.lookup, consD] using hk 16 (by decide)) (by decide)) ?_
        refine gw_skip (fun a' w' hk => wanted_not (t := 16) rfl rfl (by simpa [KnownAt, List.lookup, consD] using hk 16 (by decide)) (by decide)) ?_
        refine gw_skip (fun a' w' hk => wanted_not (t := 16) rfl rfl (by simpa [KnownAt, List.lookup, consD] using hk 16 (by decide)) (by decide)) ?_
        apply gw_val
        · intro a' w' hk
          refine ⟨wanted_none rfl, ?_⟩
          simp [Oper.looksAt, Op.operands, Call.operands, KnownAt, List.lookup, consD] at hk
          simp [execOp, Act.eval, hk, go_sem]
          all_goals rfl
        apply gw_val
        · intro a' w' hk
          refine ⟨wanted_none rfl, ?_⟩
          simp [Oper.looksAt, Op.operands, Call.operands, KnownAt, List.lookup, consD] at hk
          simp [execOp, Act.eval, hk, go_sem]
          all_goals rfl
        intro vs w' hb hall
        simp only [AllS, consD] at hall
        simp only [consD, putAllS, Act.put]
        obtain ⟨h6, -⟩ := hall
        rw [h6]
        simp only [List.setIfInBounds_toArray, List.set_cons_succ, List.set_cons_zero]
        go_wp2
        go_ret
        exact ⟨ret_bool HFIN.out.symm, HBA.out.drew.trans (hb.mono HBA.out.size)⟩
    · have g9 : decide (s ≤ 18) = false := decide_eq_false g9'
      have HFIN : Hid (rightB s m = false) := Lib.hid (by unfold rightB; rw [g9]; simp)
      refine wp_region_grow (by kernel_rfl) (by kernel_rfl) (by rfl) ?_
      apply gw_val
      · intro a' w' hk
        refine ⟨wanted_none rfl, ?_⟩
        simp [Oper.looksAt, Op.operands, Call.operands, KnownAt, List.lookup, consD] at hk
        simp [execOp, Act.eval, hk, go_sem]
        all_goals rfl
      refine gw_valB (fun v _ => v = .int .i64 s) (mono_eq _) ?_ ?_
      · intro a' w' hb' hk
        refine ⟨wanted_none rfl, _, ?_, rfl⟩
        have hc := cell_later2 HC0.out hb'
        simp [Oper.looksAt, Op.operands, Call.operands, KnownAt, List.lookup, consD] at hk
        simp [execOp, Act.eval, hk, hc, go_sem]
        all_goals rfl
      apply gw_val
      · intro a' w' hk
        refine ⟨wanted_none rfl, ?_⟩
        simp [Oper.looksAt, Op.operands, Call.operands, KnownAt, List.lookup, consD] at hk
        simp [execOp, Act.eval, hk, go_sem, g5]
        all_goals rfl
      apply gw_val
      · intro a' w' hk
        refine ⟨wanted_none rfl, ?_⟩
        simp [Oper.looksAt, Op.operands, Call.operands, KnownAt, List.lookup, consD] at hk
        simp [execOp, Act.eval, hk, go_sem]
        all_goals rfl
      apply gw_val
      · intro a' w' hk
        refine ⟨wanted_guard (t := 6) rfl rfl (by simpa [KnownAt, List.lookup, consD] using hk 6 (by decide)), ?_⟩
        simp [Oper.looksAt, Op.operands, Call.operands, KnownAt, List.lookup, consD] at hk
        simp [execOp, Act.eval, hk, go_sem]
        all_goals rfl
      refine gw_valB (fun v _ => v = .int .i64 s) (mono_eq _) ?_ ?_
      · intro a' w' hb' hk
        refine ⟨wanted_guard (t := 6) rfl rfl (by simpa [KnownAt, List.lookup, consD] using hk 6 (by decide)), _, ?_, rfl⟩
        have hc := cell_later2 HC0.out hb'
        simp [Oper.looksAt, Op.operands, Call.operands, KnownAt, List.lookup, consD] at hk
        simp [execOp, Act.eval, hk, hc, go_sem]
        all_goals rfl
      apply gw_val
      · intro a' w' hk
        refine ⟨wanted_guard (t := 6) rfl rfl (by simpa [KnownAt, List.lookup, consD] using hk 6 (by decide)), ?_⟩
        simp [Oper.looksAt, Op.operands, Call.operands, KnownAt, List.lookup, consD] at hk
        simp [execOp, Act.eval, hk, go_sem, g9]
        all_goals rfl
      apply gw_val
      · intro a' w' hk
        refine ⟨wanted_none rfl, ?_⟩
        simp [Oper.looksAt, Op.operands, Call.operands, KnownAt, List.lookup, consD] at hk
        simp [execOp, Act.eval, hk, go_sem]
        all_goals rfl
      apply gw_val
      · intro a' w' hk
        refine ⟨wanted_none rfl, ?_⟩
        simp [Oper.looksAt, Op.operands, Call.operands, KnownAt, List.lookup, consD] at hk
        simp [execOp, Act.eval, hk, go_sem]
        all_goals rfl
      refine gw_skip (fun a' w' hk => wanted_not (t := 11) rfl rfl (by simpa [KnownAt, List.lookup, consD] using hk 11 (by decide)) (by decide)) ?_
      refine gw_skip (fun a' w' hk => wanted_not (t := 11) rfl rfl (by simpa [KnownAt, List.lookup, consD] using hk 11 (by decide)) (by decide)) ?_
      refine gw_skip (fun a' w' hk => wanted_not (t := 11) rfl rfl (by simpa [KnownAt, List.lookup, consD] using hk 11 (by decide)) (by decide)) ?_
      apply gw_val
      · intro a' w' hk
        refine ⟨wanted_none rfl, ?_⟩
        simp [Oper.looksAt, Op.operands, Call.operands, KnownAt, List.lookup, consD] at hk
        simp [execOp, Act.eval, hk, go_sem]
        all_goals rfl
      apply gw_val
      · intro a' w' hk
        refine ⟨wanted_none rfl, ?_⟩
        simp [Oper.looksAt, Op.operands, Call.operands, KnownAt, List.lookup, consD] at hk
        simp [execOp, Act.eval, hk, go_sem]
        all_goals rfl
      refine gw_skip (fun a' w' hk => wanted_not (t := 16) rfl rfl (by simpa [KnownAt, List.lookup, consD] using hk 16 (by decide)) (by decide)) ?_
      refine gw_skip (fun a' w' hk => wanted_not (t := 16) rfl rfl (by simpa [KnownAt, List.lookup, consD] using hk 16 (by decide)) (by decide)) ?_
      refine gw_skip (fun a' w' hk => wanted_not (t := 16) rfl rfl (by simpa [KnownAt, List.lookup, consD] using hk 16 (by decide)) (by decide)) ?_
      refine gw_skip (fun a' w' hk => wanted_not (t := 16) rfl rfl (by simpa [KnownAt, List.lookup, consD] using hk 16 (by decide)) (by decide)) ?_
      refine gw_skip (fun a' w' hk => wanted_not (t := 16) rfl rfl (by simpa [KnownAt, List.lookup, consD] using hk 16 (by decide)) (by decide)) ?_
      refine gw_skip (fun a' w' hk => wanted_not (t := 16) rfl rfl (by simpa [KnownAt, List.lookup, consD] using hk 16 (by decide)) (by decide)) ?_
      refine gw_skip (fun a' w' hk => wanted_not (t := 16) rfl rfl (by simpa [KnownAt, List.lookup, consD] using hk 16 (by decide)) (by decide)) ?_
      refine gw_skip (fun a' w' hk => wanted_not (t := 16) rfl rfl (by simpa [KnownAt, List.lookup, consD] using hk 16 (by decide)) (by decide)) ?_
      apply gw_val
      · intro a' w' hk
        refine ⟨wanted_none rfl, ?_⟩
        simp [Oper.looksAt, Op.operands, Call.operands, KnownAt, List.lookup, consD] at hk
        simp [execOp, Act.eval, hk, go_sem]
        all_goals rfl
      apply gw_val
      · intro a' w' hk
        refine ⟨wanted_none rfl, ?_⟩
        simp [Oper.looksAt, Op.operands, Call.operands, KnownAt, List.lookup, consD] at hk
        simp [execOp, Act.eval, hk, go_sem]
        all_goals rfl
      intro vs w' hb hall
      simp only [AllS, consD] at hall
      simp only [consD, putAllS, Act.put]
      obtain ⟨h6, -⟩ := hall
      rw [h6]
      simp only [List.setIfInBounds_toArray, List.set_cons_succ, List.set_cons_zero]
      go_wp2
      go_ret
      exact ⟨ret_bool HFIN.out.symm, HBA.out.drew.trans (hb.mono HBA.out.size)⟩
  · have g5 : decide (0 ≤ s) = false := decide_eq_false g5'
    have HFIN : Hid (rightB s m = false) := Lib.hid (by unfold rightB; rw [g5]; simp)
    refine wp_region_grow (by kernel_rfl) (by kernel_rfl) (by rfl) ?_
    apply gw_val
    · intro a' w' hk
      refine ⟨wanted_none rfl, ?_⟩
      simp [Oper.looksAt, Op.operands, Call.operands, KnownAt, List.lookup, consD] at hk
      simp [execOp, Act.eval, hk, go_sem]
      all_goals rfl
    refine gw_valB (fun v _ => v = .int .i64 s) (mono_eq _) ?_ ?_
    · intro a' w' hb' hk
      refine ⟨wanted_none rfl, _, ?_, rfl⟩
      have hc := cell_later2 HC0.out hb'
      simp [Oper.looksAt, Op.operands, Call.operands, KnownAt, List.lookup, consD] at hk
      simp [execOp, Act.eval, hk, hc, go_sem]
      all_goals rfl
    apply gw_val
    · intro a' w' hk
      refine ⟨wanted_none rfl, ?_⟩
      simp [Oper.looksAt, Op.operands, Call.operands, KnownAt, List.lookup, consD] at hk
      simp [execOp, Act.eval, hk, go_sem, g5]
      all_goals rfl
    apply gw_val
    · intro a' w' hk
      refine ⟨wanted_none rfl, ?_⟩
      simp [Oper.looksAt, Op.operands, Call.operands, KnownAt, List.lookup, consD] at hk
      simp [execOp, Act.eval, hk, go_sem]
      all_goals rfl
    refine gw_skip (fun a' w' hk => wanted_not (t := 6) rfl rfl (by simpa [KnownAt, List.lookup, consD] using hk 6 (by decide)) (by decide)) ?_
    refine gw_skip (fun a' w' hk => wanted_not (t := 6) rfl rfl (by simpa [KnownAt, List.lookup, consD] using hk 6 (by decide)) (by decide)) ?_
    refine gw_skip (fun a' w' hk => wanted_not (t := 6) rfl rfl (by simpa [KnownAt, List.lookup, consD] using hk 6 (by decide)) (by decide)) ?_
    apply gw_val
    · intro a' w' hk
      refine ⟨wanted_none rfl, ?_⟩
      simp [Oper.looksAt, Op.operands, Call.operands, KnownAt, List.lookup, consD] at hk
      simp [execOp, Act.eval, hk, go_sem]
      all_goals rfl
    apply gw_val
    · intro a' w' hk
      refine ⟨wanted_none rfl, ?_⟩
      simp [Oper.looksAt, Op.operands, Call.operands, KnownAt, List.lookup, consD] at hk
      simp [execOp, Act.eval, hk, go_sem]
      all_goals rfl
    refine gw_skip (fun a' w' hk => wanted_not (t := 11) rfl rfl (by simpa [KnownAt, List.lookup, consD] using hk 11 (by decide)) (by decide)) ?_
    refine gw_skip (fun a' w' hk => wanted_not (t := 11) rfl rfl (by simpa [KnownAt, List.lookup, consD] using hk 11 (by decide)) (by decide)) ?_
    refine gw_skip (fun a' w' hk => wanted_not (t := 11) rfl rfl (by simpa [KnownAt, List.lookup, consD] using hk 11 (by decide)) (by decide)) ?_
    apply gw_val
    · intro a' w' hk
      refine ⟨wanted_none rfl, ?_⟩
      simp [Oper.looksAt, Op.operands, Call.operands, KnownAt, List.lookup, consD] at hk
      simp [execOp, Act.eval, hk, go_sem]
      all_goals rfl
    apply gw_val
    · intro a' w' hk
      refine ⟨wanted_none rfl, ?_⟩
      simp [Oper.looksAt, Op.operands, Call.operands, KnownAt, List.lookup, consD] at hk
      simp [execOp, Act.eval, hk, go_sem]
      all_goals rfl
    refine gw_skip (fun a' w' hk => wanted_not (t := 16) rfl rfl (by simpa [KnownAt, List.lookup, consD] using hk 16 (by decide)) (by decide)) ?_
    refine gw_skip (fun a' w' hk => wanted_not (t := 16) rfl rfl (by simpa [KnownAt, List.lookup, consD] using hk 16 (by decide)) (by decide)) ?_
    refine gw_skip (fun a' w' hk => wanted_not (t := 16) rfl rfl (by simpa [KnownAt, List.lookup, consD] using hk 16 (by decide)) (by decide)) ?_
    refine gw_skip (fun a' w' hk => wanted_not (t := 16) rfl rfl (by simpa [KnownAt, List.lookup, consD] using hk 16 (by decide)) (by decide)) ?_
    refine gw_skip (fun a' w' hk => wanted_not (t := 16) rfl rfl (by simpa [KnownAt, List.lookup, consD] using hk 16 (by decide)) (by decide)) ?_
    refine gw_skip (fun a' w' hk => wanted_not (t := 16) rfl rfl (by simpa [KnownAt, List.lookup, consD] using hk 16 (by decide)) (by decide)) ?_
    refine gw_skip (fun a' w' hk => wanted_not (t := 16) rfl rfl (by simpa [KnownAt, List.lookup, consD] using hk 16 (by decide)) (by decide)) ?_
    refine gw_skip (fun a' w' hk => wanted_not (t := 16) rfl rfl (by simpa [KnownAt, List.lookup, consD] using hk 16 (by decide)) (by decide)) ?_
    apply gw_val
    · intro a' w' hk
      refine ⟨wanted_none rfl, ?_⟩
      simp [Oper.looksAt, Op.operands, Call.operands, KnownAt, List.lookup, consD] at hk
      simp [execOp, Act.eval, hk, go_sem]
      all_goals rfl
    apply gw_val
    · intro a' w' hk
      refine ⟨wanted_none rfl, ?_⟩
      simp [Oper.looksAt, Op.operands, Call.operands, KnownAt, List.lookup, consD] at hk
      simp [execOp, Act.eval, hk, go_sem]
      all_goals rfl
    intro vs w' hb hall
    simp only [AllS, consD] at hall
    simp only [consD, putAllS, Act.put]
    obtain ⟨h6, -⟩ := hall
    rw [h6]
    simp only [List.setIfInBounds_toArray, List.set_cons_succ, List.set_cons_zero]
    go_wp2
    go_ret
    exact ⟨ret_bool HFIN.out.symm, HBA.out.drew.trans (hb.mono HBA.out.size)⟩
/-- A number halved k times. -/
theorem half_pow (m : Int) (k : Nat) : m / 2 ^ (k + 1) = m / 2 ^ k / 2 := by
  rw [Int.pow_succ, Int.ediv_ediv_of_nonneg (Int.le_of_lt (Int.pow_pos (by decide)))]
set_option maxRecDepth 100000 in
set_option maxHeartbeats 4000000 in
theorem refRight_any (s m : Int) (w : World) (hs : -9223372036854775808 ≤ s ∧ s ≤ 9223372036854775807) (hm : -9223372036854775808 ≤ m ∧ m ≤ 9223372036854775807) :
  Calls Try.prog 48 #[.int .i64 s, .int .i64 m] w fun e w' => e = .returned (.bool (rightB s m)) ∧ w = w' := by
  by_cases g5 : s < 0
  · have HFIN : rightB s m = false := by unfold rightB; rw [decide_eq_false (show ¬ 0 ≤ s by omega)]; rfl
    rw [HFIN]
    clear HFIN
    go_enter Try.func48, Try.ntmps48
    go_wp2
    go_ret
    exact ⟨rfl, rfl⟩
  · by_cases g9 : s > 18
    · have HFIN : rightB s m = false := by unfold rightB; rw [decide_eq_false (show ¬ s ≤ 18 by omega)]; simp
      rw [HFIN]
      clear HFIN
      go_enter Try.func48, Try.ntmps48
      go_wp2
      go_ret
      exact ⟨rfl, rfl⟩
    · by_cases g14 : m < 0
      · have HFIN : rightB s m = false := by unfold rightB; rw [decide_eq_false (show ¬ 0 ≤ m by omega)]; simp
        rw [HFIN]
        clear HFIN
        go_enter Try.func48, Try.ntmps48
        go_wp2
        go_ret
        exact ⟨rfl, rfl⟩
      · have HFIN : Hid (rightB s m = (m / 2 ^ bitsOf s == 0)) := Lib.hid (by
          unfold rightB
          rw [decide_eq_true (show 0 ≤ s by omega), decide_eq_true (show s ≤ 18 by omega), decide_eq_true (show 0 ≤ m by omega)]
          by_cases h : m / 2 ^ bitsOf s = 0
          · rw [h]; rfl
          · rw [decide_eq_false h, beq_eq_false_iff_ne.2 h]; rfl)
        have hbl := bitsOf_le s
        go_enter Try.func48, Try.ntmps48
        go_wp2
        go_loop [1, 5] (fun mv i => ∃ k : Nat, k ≤ bitsOf s ∧ i = .int .i64 k ∧ mv = .int .i64 (m / 2 ^ k)) (fun _ i => bitsOf s - (intOf i).toNat)
        case atStart => exact ⟨0, by omega, rfl, by simp⟩
        case round =>
          obtain ⟨k, hk, rfl, rfl⟩ := hrel
          go_wp2_with fail
          refine (refBits_any s w).mono ?_
          rintro e w' ⟨rfl, rfl⟩
          by_cases hlt : k < bitsOf s
          · have hp := half_pow m k
            have hp0 : (0 : Int) < 2 ^ k := Int.pow_pos (by decide)
            have hx0 : 0 ≤ m / 2 ^ k := Int.ediv_nonneg (by omega) (by omega)
            have hx1 : m / 2 ^ k ≤ m := Int.ediv_le_self _ (by omega)
            have HP := Lib.hid hp
            clear hp hp0
            generalize m / 2 ^ k = x at HP hx0 hx1 ⊢
            go_wp2
            go_round
            case rel => exact ⟨k + 1, by omega, by go_num, by rw [HP.out]⟩
            case measure => simp [intOf]; omega
          · have hk' : bitsOf s = k := by omega
            rw [hk'] at HFIN ⊢
            generalize m / 2 ^ k = x at HFIN ⊢
            clear hk' hlt hk hbl
            go_wp2
            go_ret
            exact ⟨ret_bool HFIN.out.symm, rfl⟩

set_option maxRecDepth 100000 in
set_option maxHeartbeats 4000000 in
theorem same_any (a : Option Addr) (n c : Nat) (l : List Int) (b : Option Addr) (m d : Nat) (k : List Int) (w : World) (hl : l.length = n) (hk : k.length = m) (hn : n ≤ 1000000) (hm : m ≤ 1000000) (hr : Rd w (fun x => Value.int .i64 x) a l) (hq : Rd w (fun x => Value.int .i64 x) b k) :
  Calls Try.prog 51 #[.slice a n c, .slice b m d] w fun e w' => e = .returned (.bool (decide (l = k))) ∧ Below w.heap.size w w' := by
  by_cases hlen : n = m
  · subst hlen
    go_enter Try.func51, Try.ntmps51
    have HL := Lib.hid hl
    have HK := Lib.hid hk
    clear hl hk
    go_wp2
    go_loopw [13] (fun i wr => ∃ j : Nat, j ≤ n ∧ i = .int .i64 j ∧ l.take j = k.take j ∧ Below w.heap.size w wr) (fun i _ => n - (intOf i).toNat)
    case atStart => exact ⟨0, by omega, rfl, by simp, Below.refl _ _⟩
    case round =>
      obtain ⟨j, hj, rfl, heq, hB⟩ := hrel
      have HE := Lib.hid heq
      clear heq
      by_cases hlt : j < n
      · have hjl : j < l.length := by rw [HL.out]; exact hlt
        have hjk : j < k.length := by rw [HK.out]; exact hlt
        obtain ⟨b1, o1, rfl, -, c1⟩ := (hr.below hB).at (k := j) hjl
        obtain ⟨b2, o2, rfl, -, c2⟩ := (hq.below hB).at (k := j) hjk
        have HR := Lib.hid hr
        have HQ := Lib.hid hq
        clear hr hq
        by_cases hx : l[j] = k[j]
        · have hst : l.take (j + 1) = k.take (j + 1) := by rw [List.take_succ_eq_append_getElem hjl, List.take_succ_eq_append_getElem hjk, HE.out, hx]
          have HST := Lib.hid hst
          rw [hx] at c1
          clear hst hx
          generalize k[j] = y at c1 c2
          go_wp2
          go_quiet (fail)
          go_wp2
          go_roundw
          case rel => exact ⟨j + 1, by omega, by go_num, HST.out, hB.trans (below_drewN _ _ _)⟩
          case measure => simp [intOf]; omega
        · have hne : ¬ l = k := fun e => hx (by subst e; rfl)
          have hxb : (l[j] != k[j]) = true := bne_iff_ne.2 hx
          have HF : Hid (decide (l = k) = false) := Lib.hid (decide_eq_false hne)
          clear hx hne
          generalize l[j] = x at c1 hxb
          generalize k[j] = y at c2 hxb
          go_wp2
          go_quiet (fail)
          go_wp2
          go_ret
          exact ⟨ret_bool HF.out.symm, hB.trans (below_drewN _ _ _)⟩
      · have hj' : n = j := by omega
        have hfin : l = k := by
          have := HE.out
          rw [List.take_of_length_le (by rw [HL.out]; omega), List.take_of_length_le (by rw [HK.out]; omega)] at this
          exact this
        have HF : Hid (decide (l = k) = true) := Lib.hid (decide_eq_true hfin)
        clear hfin
        subst hj'
        go_wp2
        go_ret
        exact ⟨ret_bool HF.out.symm, hB⟩
  · have hne : ¬ l = k := fun e => hlen (by rw [← hl, ← hk, e])
    rw [decide_eq_false hne]
    have hb : ((n : Int) != (m : Int)) = true := bne_iff_ne.2 (by omega)
    clear hne hr hq hl hk
    go_enter Try.func51, Try.ntmps51
    go_wp2
    go_ret
    exact ⟨rfl, Below.refl _ _⟩
end Go.Proofs.Ytmmgcfhoigpomaa
