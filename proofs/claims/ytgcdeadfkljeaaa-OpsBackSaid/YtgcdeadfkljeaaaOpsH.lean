/- Writing instructions: goes, within, short, wide, noughts, sized, far. -/
import Derived.Test.YtgcdeadfkljeaaaOpsD
import Derived.BigQuiet
namespace Go.Proofs.Ytgcdeadfkljeaaa
open Go.RowKit
set_option linter.unusedVariables false
set_option linter.unusedSimpArgs false

def goesK (f : Nat) : Bool := f == 106 || f == 119 || f == 116 || f == 108
def inK (v : Int) (b : Nat) : Bool := decide (-((2 : Int) ^ (b - 1)) ≤ v) && decide (v < (2 : Int) ^ (b - 1))
def shortK (v : Int) : Bool := decide (0 ≤ v ∧ v < 65536)
def wideK (st : StepK) (f : Nat) : Bool := ((f == 118 || f == 105) && decide (255 < st.var)) || (f == 105 && !inK st.num 8)
def nghK (at' : Nat) : Nat := (3 - at' % 4)
def sizedK (st : StepK) : Bool := st.keys.length == st.tgts.length && decide (st.keys.length ≤ 65536)
def farK6 (to' at' : Int) (b : Nat) : Bool := decide (0 ≤ to') && decide (to' ≤ 1099511627776) && inK (to' - at') b
/-- An instruction by value. -/
structure StvOk (w : World) (st : StepK) (ka : Option Addr) (kn kc : Nat) (ta : Option Addr) (tn tc : Nat) : Prop where
  kl : st.keys.length = kn
  tl : st.tgts.length = tn
  kb : kn ≤ 100000 ∧ tn ≤ 100000
  rk : Rd w nE ka st.keys
  rt : Rd w nE ta st.tgts
  vr : -1099511627776 ≤ st.var ∧ st.var ≤ 1099511627776
  nr : -1099511627776 ≤ st.num ∧ st.num ≤ 1099511627776
  pr : -1099511627776 ≤ st.pool ∧ st.pool ≤ 1099511627776
  gr : -1099511627776 ≤ st.goal ∧ st.goal ≤ 1099511627776
  op : -1099511627776 ≤ st.op ∧ st.op ≤ 1099511627776
  kr : ∀ x ∈ st.keys, -1099511627776 ≤ x ∧ x ≤ 1099511627776
  tr : ∀ x ∈ st.tgts, -1099511627776 ≤ x ∧ x ≤ 1099511627776
theorem StvOk.below {w w' : World} {st : StepK} {ka : Option Addr} {kn kc : Nat} {ta : Option Addr} {tn tc : Nat} (h : StvOk w st ka kn kc ta tn tc) (hb : Below w.heap.size w w') : StvOk w' st ka kn kc ta tn tc :=
  ⟨h.kl, h.tl, h.kb, h.rk.below hb, h.rt.below hb, h.vr, h.nr, h.pr, h.gr, h.op, h.kr, h.tr⟩
set_option maxRecDepth 100000 in
theorem goes_any (f : Nat) (w : World) (hf : f < 256) : Calls Try.prog 47 #[.int .u8 (f : Int)] w fun e w' => e = .returned (.bool (goesK f)) ∧ w' = w := by
  have e : ∀ k : Nat, ((f : Int) == (k : Int)) = (f == k) := fun k => by
    rw [Bool.eq_iff_iff]; simp; omega
  have e1 := e 106
  have e2 := e 119
  have e3 := e 116
  have e4 := e 108
  have HG : Hid (goesK f = (f == 106 || f == 119 || f == 116 || f == 108)) := Lib.hid rfl
  simp only [Int.cast_ofNat_Int] at e1 e2 e3 e4
  rw [HG.out]
  generalize (f == 106) = b1 at *
  generalize (f == 119) = b2 at *
  generalize (f == 116) = b3 at *
  generalize (f == 108) = b4 at *
  clear e HG
  cases b1 <;> cases b2 <;> cases b3 <;> cases b4 <;> (
    go_enter Try.func47, Try.ntmps47
    go_wp2
    go_ret
    exact ⟨rfl, rfl⟩)
set_option maxRecDepth 100000 in
theorem within_any (v : Int) (b : Nat) (w : World) (hb : b = 8 ∨ b = 16 ∨ b = 32) : Calls Try.prog 78 #[.int .i64 v, .int .u64 (b : Int)] w fun e w' => e = .returned (.bool (inK v b)) ∧ w' = w := by
  rcases hb with rfl | rfl | rfl
  · have HI : Hid (inK v 8 = (decide (-128 ≤ v) && decide (v < 128))) := Lib.hid rfl
    rw [HI.out]
    by_cases h1 : -128 ≤ v
    · have c1 : decide (-128 ≤ v) = true := decide_eq_true h1
      rw [c1]
      clear h1
      go_enter Try.func78, Try.ntmps78
      go_wp2
      go_ret
      exact ⟨by simp, rfl⟩
    · have c1 : decide (-128 ≤ v) = false := decide_eq_false h1
      rw [c1]
      clear h1
      go_enter Try.func78, Try.ntmps78
      go_wp2
      go_ret
      exact ⟨by simp, rfl⟩
  · have HI : Hid (inK v 16 = (decide (-32768 ≤ v) && decide (v < 32768))) := Lib.hid rfl
    rw [HI.out]
    by_cases h1 : -32768 ≤ v
    · have c1 : decide (-32768 ≤ v) = true := decide_eq_true h1
      rw [c1]
      clear h1
      go_enter Try.func78, Try.ntmps78
      go_wp2
      go_ret
      exact ⟨by simp, rfl⟩
    · have c1 : decide (-32768 ≤ v) = false := decide_eq_false h1
      rw [c1]
      clear h1
      go_enter Try.func78, Try.ntmps78
      go_wp2
      go_ret
      exact ⟨by simp, rfl⟩
  · have HI : Hid (inK v 32 = (decide (-2147483648 ≤ v) && decide (v < 2147483648))) := Lib.hid rfl
    rw [HI.out]
    by_cases h1 : -2147483648 ≤ v
    · have c1 : decide (-2147483648 ≤ v) = true := decide_eq_true h1
      rw [c1]
      clear h1
      go_enter Try.func78, Try.ntmps78
      go_wp2
      go_ret
      exact ⟨by simp, rfl⟩
    · have c1 : decide (-2147483648 ≤ v) = false := decide_eq_false h1
      rw [c1]
      clear h1
      go_enter Try.func78, Try.ntmps78
      go_wp2
      go_ret
      exact ⟨by simp, rfl⟩
set_option maxRecDepth 100000 in
theorem short_any (v : Int) (w : World) (hv : -1099511627776 ≤ v ∧ v ≤ 1099511627776) : Calls Try.prog 79 #[.int .i64 v] w fun e w' => e = .returned (.bool (shortK v)) ∧ w' = w := by
  have HI : Hid (shortK v = (v / 65536 == 0)) := Lib.hid (by unfold shortK; rw [Bool.eq_iff_iff]; simp; omega)
  rw [HI.out]
  go_enter Try.func79, Try.ntmps79
  go_wp2
  go_ret
  exact ⟨rfl, rfl⟩
theorem and3_i (n : Int) : bits .and .i64 n 3 = n % 4 := by
  have hm : (BitVec.ofInt 64 3).toNat = 2 ^ 2 - 1 := by decide
  have key : (BitVec.ofInt 64 n &&& BitVec.ofInt 64 3).toNat = (n % ((2 ^ 64 : Nat) : Int)).toNat % 2 ^ 2 := by
    rw [BitVec.toNat_and, BitVec.toNat_ofInt, hm, Nat.and_two_pow_sub_one_eq_mod]
  show IntKind.i64.wrap ((BitVec.ofInt 64 n &&& BitVec.ofInt 64 3).toNat : Nat) = _
  rw [key, IntKind.wrap_i64]
  omega
set_option maxRecDepth 100000 in
theorem noughts_any (p : Nat) (w : World) (hp : p ≤ 1000000000) : Calls Try.prog 53 #[.int .i64 (p : Int)] w fun e w' => e = .returned (.int .i64 ((nghK p : Nat) : Int)) ∧ w' = w := by
  have ha : bits .and .i64 (-((p : Int) + 1)) 3 = ((nghK p : Nat) : Int) := by rw [and3_i]; unfold nghK; omega
  go_enter Try.func53, Try.ntmps53
  go_wp2
  go_ret
  exact ⟨by first | rfl | (rw [ha] <;> rfl), rfl⟩
abbrev stV (st : StepK) (ka : Option Addr) (kn kc : Nat) (ta : Option Addr) (tn tc : Nat) : Value := .agg (stC st (.slice ka kn kc) (.slice ta tn tc))
section
variable {st : StepK} {ka : Option Addr} {kn kc : Nat} {ta : Option Addr} {tn tc : Nat}
set_option maxRecDepth 100000 in
theorem wide_any (f : Nat) (w : World) (hf : f < 256) : Calls Try.prog 50 #[stV st ka kn kc ta tn tc, .int .u8 (f : Int)] w fun e w' => e = .returned (.bool (wideK st f)) ∧ Below w.heap.size w w' := by
  by_cases h1 : f = 118
  · subst h1
    have HW : Hid (wideK st 118 = decide (255 < st.var)) := Lib.hid (by unfold wideK; simp)
    rw [HW.out]
    by_cases h2 : 255 < st.var
    · have c1 : decide (255 < st.var) = true := decide_eq_true h2
      rw [c1]
      clear h2 HW
      go_enter Try.func50, Try.ntmps50
      go_wp2
      go_ret
      exact ⟨rfl, below_alloc _ _⟩
    · have c1 : decide (255 < st.var) = false := decide_eq_false h2
      rw [c1]
      clear h2 HW
      go_enter Try.func50, Try.ntmps50
      go_wp2
      go_ret
      exact ⟨rfl, below_alloc _ _⟩
  by_cases h2 : f = 105
  · subst h2
    by_cases h3 : 255 < st.var
    · have c1 : decide (255 < st.var) = true := decide_eq_true h3
      have HW : Hid (wideK st 105 = true) := Lib.hid (by unfold wideK; rw [c1]; rfl)
      rw [HW.out]
      clear h3 HW
      go_enter Try.func50, Try.ntmps50
      go_wp2
      go_ret
      exact ⟨rfl, below_alloc _ _⟩
    · have c1 : decide (255 < st.var) = false := decide_eq_false h3
      have HW : Hid (wideK st 105 = !inK st.num 8) := Lib.hid (by unfold wideK; rw [c1]; rfl)
      rw [HW.out]
      have HI := Lib.hid (fun w' => within_any st.num 8 w' (.inl rfl))
      generalize inK st.num 8 = b at *
      clear h3 HW
      go_enter Try.func50, Try.ntmps50
      go_wp2_with fail
      refine (HI.out _).mono ?_
      rintro e w' ⟨rfl, rfl⟩
      go_wp2
      go_ret
      exact ⟨rfl, below_alloc _ _⟩
  · have c1 : ((f : Int) == 118) = false := by simp; omega
    have c2 : ((f : Int) == 105) = false := by simp; omega
    have HW : Hid (wideK st f = false) := Lib.hid (by unfold wideK; simp [h1, h2])
    rw [HW.out]
    clear h1 h2 HW
    go_enter Try.func50, Try.ntmps50
    go_wp2
    go_ret
    exact ⟨rfl, below_alloc _ _⟩
set_option maxRecDepth 100000 in
theorem sized18_any (w : World) (hk : st.keys.length = kn) (ht : st.tgts.length = tn) : Calls Try.prog 55 #[stV st ka kn kc ta tn tc] w fun e w' => e = .returned (.bool (sizedK st)) ∧ Below w.heap.size w w' := by
  by_cases h1 : kn = tn
  · have HW : Hid (sizedK st = decide (kn ≤ 65536)) := Lib.hid (by unfold sizedK; rw [hk, ht]; simp [h1])
    have c1 : ((kn : Int) == (tn : Int)) = true := by simp; omega
    by_cases h2 : kn ≤ 65536
    · have c2 : decide ((kn : Int) ≤ 65536) = true := decide_eq_true (by omega)
      rw [HW.out, decide_eq_true h2]
      clear h1 h2 HW hk ht
      go_enter Try.func55, Try.ntmps55
      go_wp2
      go_ret
      exact ⟨rfl, below_alloc _ _⟩
    · have c2 : decide ((kn : Int) ≤ 65536) = false := decide_eq_false (by omega)
      rw [HW.out, decide_eq_false h2]
      clear h1 h2 HW hk ht
      go_enter Try.func55, Try.ntmps55
      go_wp2
      go_ret
      exact ⟨rfl, below_alloc _ _⟩
  · have HW : Hid (sizedK st = false) := Lib.hid (by unfold sizedK; rw [hk, ht]; simp [h1])
    have c1 : ((kn : Int) == (tn : Int)) = false := by simp; omega
    rw [HW.out]
    clear h1 HW hk ht
    go_enter Try.func55, Try.ntmps55
    go_wp2
    go_ret
    exact ⟨rfl, below_alloc _ _⟩
end
set_option maxRecDepth 100000 in
theorem far18_any (to' at' : Int) (b : Nat) (w : World) (hb : b = 8 ∨ b = 16 ∨ b = 32) (ht : -1099511627776 ≤ to' ∧ to' ≤ 1099511627776) (ha : 0 ≤ at' ∧ at' ≤ 1099511627776) : Calls Try.prog 80 #[.int .i64 to', .int .i64 at', .int .u64 (b : Int)] w fun e w' => e = .returned (.bool (farK6 to' at' b)) ∧ w' = w := by
  have c2 : decide (to' ≤ 1099511627776) = true := decide_eq_true ht.2
  by_cases h1 : 0 ≤ to'
  · have c1 : decide (0 ≤ to') = true := decide_eq_true h1
    have HW : Hid (farK6 to' at' b = inK (to' - at') b) := Lib.hid (by unfold farK6; rw [c1, c2]; rfl)
    rw [HW.out]
    have HI := Lib.hid (fun w' => within_any (to' - at') b w' hb)
    generalize hin : inK (to' - at') b = r at *
    clear h1 HW hin hb
    go_enter Try.func80, Try.ntmps80
    go_wp2_with fail
    refine (HI.out _).mono ?_
    rintro e w' ⟨rfl, rfl⟩
    go_wp2
    go_ret
    exact ⟨rfl, rfl⟩
  · have c1 : decide (0 ≤ to') = false := decide_eq_false h1
    have HW : Hid (farK6 to' at' b = false) := Lib.hid (by unfold farK6; rw [c1]; rfl)
    rw [HW.out]
    clear h1 HW
    go_enter Try.func80, Try.ntmps80
    go_wp2
    go_ret
    exact ⟨rfl, rfl⟩
end Go.Proofs.Ytgcdeadfkljeaaa
