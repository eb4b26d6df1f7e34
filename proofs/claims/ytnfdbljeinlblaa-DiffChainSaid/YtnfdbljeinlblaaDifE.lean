/- diff.Same of entries that are the same. -/
import Derived.Test.YtnfdbljeinlblaaDifD
namespace Go.Proofs.Ytnfdbljeinlblaa
open Go.RowKit
set_option linter.unusedVariables false
set_option linter.unusedSimpArgs false

set_option maxRecDepth 100000 in
set_option maxHeartbeats 4000000 in
theorem bEqual_any (p : Option Addr) (k c : Nat) (q : Option Addr) (m d : Nat) (dt : List UInt8) (w : World) (hk : dt.length = k) (hr : Rd w bE p dt) (hm : dt.length = m) (hq : Rd w bE q dt) :
  Calls Try.prog 61 #[.slice p k c, .slice q m d] w fun e w' => e = .returned (.bool true) ∧ w' = w := by
  have hcv := conv_str (P := Try.prog) Try.underlying32 Try.underlying5 Try.underlying9 c hk hr
  have hcv' := conv_str (P := Try.prog) Try.underlying32 Try.underlying5 Try.underlying9 d hm hq
  clear hk hr hm hq
  go_enter Try.func61, Try.ntmps61
  go_wp2
  go_ret
  exact ⟨rfl, rfl⟩
set_option maxRecDepth 100000 in
set_option maxHeartbeats 4000000 in
theorem same1_any (na : ByteArray) (da cl : Int) (p : Option Addr) (k c : Nat) (q : Option Addr) (m d : Nat) (dt : List UInt8) (w : World) (hk : dt.length = k) (hr : Rd w bE p dt) (hm : dt.length = m) (hq : Rd w bE q dt) :
  Calls Try.prog 60 #[.agg #[.string na, .int .u16 da, .int .u16 cl, .slice p k c], .agg #[.string na, .int .u16 da, .int .u16 cl, .slice q m d]] w fun e w' => e = .returned (.bool true) ∧ Below w.heap.size w w' := by
  have HH := Lib.hid (And.intro hk (And.intro hr (And.intro hm hq)))
  clear hk hr hm hq
  go_enter Try.func60, Try.ntmps60
  go_wp2_with fail
  have hB := (below_alloc w (.cells #[.string na, .int .u16 da, .int .u16 cl, .slice p k c] ET)).trans ((below_alloc (w.alloc (.cells #[.string na, .int .u16 da, .int .u16 cl, .slice p k c] ET)) (.cells #[.string na, .int .u16 da, .int .u16 cl, .slice q m d] ET)).mono (by simp))
  refine (bEqual_any p k c q m d dt _ HH.out.1 (HH.out.2.1.below hB) HH.out.2.2.1 (HH.out.2.2.2.below hB)).mono ?_
  rintro e w5 ⟨rfl, rfl⟩
  have HB := Lib.hid hB
  clear hB
  go_wp2
  go_ret
  exact ⟨rfl, HB.out⟩
set_option maxRecDepth 100000 in
set_option maxHeartbeats 8000000 in
theorem eqFunc_any (a : Option Addr) (n c : Nat) (xs : List Ent) (b : Option Addr) (d : Nat) (ys : List Ent) (w : World) (hn : n ≤ 1000000) (hp : RdE w a n xs) (hq : RdE w b n ys) (he : xs.map enK = ys.map enK) :
  Calls Try.prog 59 #[.slice a n c, .slice b n d, .func (.func 60) #[] #[]] w fun e w' => e = .returned (.bool true) ∧ Below w.heap.size w w' := by
  have HP := Lib.hid hp
  have HQ := Lib.hid hq
  have HE := Lib.hid he
  have HN := Lib.hid (And.intro hp.1 hq.1)
  clear hp hq he
  go_enter Try.func59, Try.ntmps59
  go_wp2
  go_loopw [17] (fun x17 wr => ∃ i : Nat, i ≤ n ∧ x17 = .int .i64 i ∧ Below w.heap.size w wr) (fun x17 _ => n - (intOf x17).toNat)
  case atStart => exact ⟨0, Nat.zero_le _, rfl, Below.refl _ _⟩
  case round =>
    obtain ⟨i, hi, rfl, hB⟩ := hrel
    by_cases him : i < n
    · have hx : i < xs.length := by rw [HN.out.1]; exact him
      have hy : i < ys.length := by rw [HN.out.2]; exact him
      obtain ⟨b1, o1, p, k, c1, rfl, c0, c1', c2, c3, hk, hr⟩ := (HP.out.below hB).at hx
      have hal := below_alloc wr (.cells #[.string xs[i].na, .int .u16 xs[i].da, .int .u16 xs[i].cl, .slice p k c1] ET)
      obtain ⟨b2, o2, q, m, c4, rfl, d0, d1, d2, d3, hm, hq⟩ := (HQ.out.below (hB.trans (hal.mono hB.size))).at hy
      have hal2 := below_alloc (wr.alloc (.cells #[.string xs[i].na, .int .u16 xs[i].da, .int .u16 xs[i].cl, .slice p k c1] ET)) (.cells #[.string ys[i].na, .int .u16 ys[i].da, .int .u16 ys[i].cl, .slice q m c4] ET)
      have he : enK xs[i] = enK ys[i] := by
        have h1 : (xs.map enK)[i]? = (ys.map enK)[i]? := by rw [HE.out]
        simpa [hx, hy] using h1
      have HB := Lib.hid hB
      have HALL := Lib.hid (And.intro hk (And.intro hr (And.intro hm (And.intro hq (And.intro hal hal2)))))
      clear hB hk hr hm hq hal hal2
      generalize xs[i] = x at *
      generalize ys[i] = y at *
      obtain ⟨na, da, cl, dt⟩ := x
      obtain ⟨na', da', cl', dt'⟩ := y
      simp only [enK, Prod.mk.injEq] at he
      obtain ⟨rfl, rfl, rfl, rfl⟩ := he
      simp only at c0 c1' c2 d0 d1 d2 HALL
      go_wp2_with fail
      refine (same1_any na da cl p k c1 q m c4 dt _ HALL.out.1 ((HALL.out.2.1.below HALL.out.2.2.2.2.1).below HALL.out.2.2.2.2.2) HALL.out.2.2.1 (HALL.out.2.2.2.1.below HALL.out.2.2.2.2.2)).mono ?_
      rintro e w5 ⟨rfl, hB5⟩
      have HF := Lib.hid (HB.out.trans (((HALL.out.2.2.2.2.1).trans ((HALL.out.2.2.2.2.2.trans (hB5.mono HALL.out.2.2.2.2.2.size)).mono HALL.out.2.2.2.2.1.size)).mono HB.out.size))
      clear HALL HB hB5 c0 c1' c2 c3 d0 d1 d2 d3
      go_wp2
      go_roundw
      case rel => exact ⟨i + 1, by omega, by go_num, HF.out⟩
      case measure => simp [intOf] <;> omega
    · have him' : i = n := by omega
      subst him'
      have HF := Lib.hid hB
      clear hB
      go_wp2
      go_ret
      exact ⟨rfl, HF.out⟩
set_option maxRecDepth 100000 in
set_option maxHeartbeats 8000000 in
theorem same_any (a : Option Addr) (n c : Nat) (xs : List Ent) (b : Option Addr) (d : Nat) (ys : List Ent) (w : World) (hn : n ≤ 1000000) (hp : RdE w a n xs) (hq : RdE w b n ys) (he : xs.map enK = ys.map enK) :
  Calls Try.prog 19 #[.slice a n c, .slice b n d] w fun e w' => e = .returned (.bool true) ∧ Below w.heap.size w w' := by
  go_enter Try.func19, Try.ntmps19
  go_wp2_with fail
  refine (eqFunc_any a n c xs b d ys w hn hp hq he).mono ?_
  rintro e w5 ⟨rfl, hB⟩
  clear hp hq he
  have HB := Lib.hid hB
  clear hB
  go_wp2
  go_ret
  exact ⟨rfl, HB.out⟩
def FewPost (w : World) (n : Nat) (xs : List Ent) (e : Ending) (w' : World) : Prop := ∃ r, e = .returned (.bool r) ∧ (r = true → n ≤ 30 ∧ SmallE xs) ∧ Below w.heap.size w w'
set_option maxRecDepth 100000 in
set_option maxHeartbeats 8000000 in
theorem few40_any (a : Option Addr) (n c : Nat) (xs : List Ent) (w : World) (hn : n ≤ c) (hc : c ≤ maxLen) (hp : RdE w a n xs) (hsz : ∀ e ∈ xs, e.na.size ≤ maxLen ∧ e.dt.length ≤ maxLen) :
  Calls Try.prog 16 #[.slice a n c] w (FewPost w n xs) := by
  have HP := Lib.hid hp
  have HS := Lib.hid hsz
  have HN := Lib.hid hp.1
  clear hp hsz
  unfold maxLen at hc
  go_enter Try.func16, Try.ntmps16
  go_wp2
  go_loopw [7] (fun x7 wr => ∃ i : Nat, i ≤ n ∧ x7 = .int .i64 i ∧ Below w.heap.size w wr ∧ SmallE (xs.take i)) (fun x7 _ => n - (intOf x7).toNat)
  case atStart => exact ⟨0, Nat.zero_le _, rfl, Below.refl _ _, fun e he => by simp at he⟩
  case round =>
    obtain ⟨i, hi, rfl, hB, hsm⟩ := hrel
    by_cases him : i < n
    · have hx : i < xs.length := by rw [HN.out]; exact him
      obtain ⟨b1, o1, p, k, c1, rfl, c0, c1', c2, c3, hk, hr⟩ := (HP.out.below hB).at hx
      have hs := HS.out xs[i] (List.getElem_mem hx)
      have hal := below_alloc wr (.cells #[.string xs[i].na, .int .u16 xs[i].da, .int .u16 xs[i].cl, .slice p k c1] ET)
      have HF := Lib.hid (hB.trans (hal.mono hB.size))
      have HSN : Hid (xs[i].na.size ≤ 300 → k ≤ 400 → SmallE (xs.take (i + 1))) := Lib.hid (fun h1 h2 e he => by
        rw [List.take_succ_eq_append_getElem hx] at he
        rcases List.mem_append.1 he with he | he
        · exact hsm e he
        · rw [List.mem_singleton.1 he]; exact ⟨by omega, by omega⟩)
      have hkm : k ≤ maxLen := by rw [← hk]; exact hs.2
      have hsm' := hs.1
      clear hB hk hr hal hsm hs
      unfold maxLen at hkm hsm'
      generalize xs[i] = x at *
      obtain ⟨na, da, cl, dt⟩ := x
      simp only at c0 c1' c2 HSN HF hsm'
      by_cases h3 : na.size ≤ 300
      · by_cases h4 : k ≤ 400
        · have g3 : ¬ (300 : Int) < (na.size : Int) := by omega
          have g4 : ¬ (400 : Int) < (k : Int) := by omega
          go_wp2
          go_roundw
          case rel => exact ⟨i + 1, by omega, by go_num, HF.out, HSN.out h3 h4⟩
          case measure => simp [intOf] <;> omega
        · have g3 : ¬ (300 : Int) < (na.size : Int) := by omega
          have g4 : (400 : Int) < (k : Int) := by omega
          go_wp2
          go_ret
          exact ⟨_, rfl, (fun h => by cases h), HF.out⟩
      · have g3 : (300 : Int) < (na.size : Int) := by omega
        go_wp2
        go_ret
        exact ⟨_, rfl, (fun h => by cases h), HF.out⟩
    · have him' : i = n := by omega
      subst him'
      have HF := Lib.hid (And.intro hB hsm)
      clear hB hsm
      go_wp2
      go_ret
      refine ⟨_, rfl, fun h => ⟨by simp at h; omega, ?_⟩, HF.out.1⟩
      have := HF.out.2
      rwa [List.take_of_length_le (by rw [HN.out]; exact Nat.le_refl _)] at this
end Go.Proofs.Ytnfdbljeinlblaa
