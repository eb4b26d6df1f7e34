/- InflateMost, walked. -/
import Derived.Test.YtgcdeadfkljeaaaInfMa
import Derived.Test.YtgcdeadfkljeaaaSl
namespace Go.Proofs.Ytgcdeadfkljeaaa
open Go.RowKit
set_option linter.unusedVariables false
set_option linter.unusedSimpArgs false

theorem run_slice_h1 {P : Program} {T e : TypeId} {z : Value} {bytes : Nat} (hT : SlT P T e z 1 bytes) (a : Option Addr) (n c hi : Nat) (h2 : hi ≤ c) (y : Int) (hy : y = (hi : Int)) (w : World) :
    (Instr.slice T (.slice a n c) none (some (.int .i64 y)) none).run P w = .ok (.slice (slP a c 0) hi c) w := by
  subst hy
  obtain ⟨i, hi', hz0, hz1, hz2⟩ := info_parts hT.info
  have hu := hT.under
  simp [Instr.slice, run_underlying hu, Instr.sliceBounds, run_sliceBound, sizeOf, typeInfo, hi', hz1, h2, slP]
set_option maxHeartbeats 16000000 in
set_option maxRecDepth 100000 in
theorem walkInflateMost (a0 : Option Addr) (n0 c0 : Nat) (l0 : List UInt8) (a1 : Option Addr) (n1 c1 : Nat) (l1 : List UInt8) (w : World) (hl0 : l0.length = n0) (hm0 : n0 ≤ c0 ∧ c0 ≤ maxLen) (hr0 : Rd w bE a0 l0) (hl1 : l1.length = n1) (hm1 : n1 ≤ c1 ∧ c1 ≤ maxLen) (hr1 : Rd w bE a1 l1) :
  Calls Try.prog 6 #[.slice a0 n0 c0, .slice a1 n1 c1] w fun e w' => e = .returned (.bool true) ∧ Below w.heap.size w w' := by
  have mixed : Try.prog.follows .mixedOrders = true := by kernel_rfl
  obtain ⟨hnc0, hcm0⟩ := hm0
  obtain ⟨hnc1, hcm1⟩ := hm1
  unfold maxLen at hcm0 hcm1
  have HL := Lib.hid (And.intro hl0 hl1)
  clear hl0 hl1
  go_enter Try.func6, Try.ntmps6
  go_wp2_with fail
  refine (fixed06_any w).mono ?_
  rintro e w1 ⟨rfl, hb1⟩
  have HR1 := Lib.hid (And.intro (And.intro (hr0.below hb1) (hr1.below hb1)) hb1)
  clear hr0 hr1 hb1
  by_cases h1 : 200 < n0
  · have c1 : (200 : Int) < (n0 : Int) := by omega
    go_wp2_with fail
    go_ret
    exact ⟨rfl, HR1.out.2⟩
  have d1 : ¬ (200 : Int) < (n0 : Int) := by omega
  by_cases h2 : 50 < n1
  · have c2 : (50 : Int) < (n1 : Int) := by omega
    go_wp2_with fail
    go_ret
    exact ⟨rfl, HR1.out.2⟩
  have d2 : ¬ (50 : Int) < (n1 : Int) := by omega
  have HC1 := Lib.hid (infl_any a0 n0 c0 l0 100000 w1 HL.out.1 (by omega) HR1.out.1.1 (by decide))
  have hfit := inflK_fit (L := l0) (most := 100000) (by decide)
  rw [HL.out.1] at hfit
  by_cases he : (inflK l0 100000).2.2 = 0
  · have HS := Lib.hid (fun (M : Int) (hM : 0 ≤ M ∧ M ≤ 16777216) => inflK_room (agr_self l0) (by decide) hM he (by rw [HL.out.1]; exact hfit.2))
    have HB := Lib.hid ((inflK_room (agr_behind l0 l1 (n := (inflK l0 100000).2.1) (by rw [HL.out.1]; exact hfit.2)) (most := 100000) (M := 100000) (by decide) (by decide) he (Nat.le_refl _)).1 hfit.1)
    generalize inflK l0 100000 = r at *
    obtain ⟨x, k, er⟩ := r
    simp only at he hfit
    subst he
    unfold InfPost at HC1
    simp only at HC1
    go_wp2_with fail
    refine HC1.out.mono ?_
    rintro e w2 ⟨p2, n2, c2, rfl, hn2, hnc2, hr2, hb2⟩
    clear HC1
    rw [hn2] at hfit
    have HN2 := Lib.hid hn2
    clear hn2
    have HR2 := Lib.hid (And.intro (And.intro (HR1.out.1.1.below hb2) (HR1.out.1.2.below hb2)) (HR1.out.2.trans (hb2.mono HR1.out.2.size)))
    have HX2 := Lib.hid hr2
    clear hr2 hb2 HR1
    have hC2 := infl_any a0 n0 c0 l0 (n2 : Int) w2 HL.out.1 (by omega) HR2.out.1.1 (by omega)
    rw [(HS.out (n2 : Int) (by omega)).1 (by simp only [HN2.out]; exact Int.le_refl _)] at hC2
    unfold InfPost at hC2
    simp only at hC2
    have HC2 := Lib.hid hC2
    clear hC2
    go_wp2_with fail
    refine HC2.out.mono ?_
    rintro e w3 ⟨p3, n3, c3, rfl, hn3, hnc3, hr3, hb3⟩
    clear HC2
    obtain rfl : n2 = n3 := HN2.out.symm.trans hn3
    clear hn3
    have HX3 := Lib.hid (And.intro (HX2.out.below hb3) hr3)
    have HR3 := Lib.hid (And.intro (And.intro (HR2.out.1.1.below hb3) (HR2.out.1.2.below hb3)) (HR2.out.2.trans (hb3.mono HR2.out.2.size)))
    clear hr3 hb3 HX2 HR2
    have hs3 := Nat.le_refl w3.heap.size
    have hown0 := Own.empty (E := bE) w3 5 hs3
    have hb6 := (Below.refl w3.heap.size w3).alloc hs3 (.cells #[] 5)
    have hs6 := hb6.size
    have HQ0 := Lib.hid (And.intro (((HR3.out.1.1.below hb6).slP 0 c0 (by rw [HL.out.1]; omega)).take k) (HR3.out.1.2.below hb6))
    have hsl := fun w => run_slice_h1 (P := Try.prog) slByte a0 n0 c0 k (by omega) (k : Int) rfl w
    have HKL : Hid ((List.take k (List.drop 0 l0)).length = k) := Lib.hid (by rw [List.drop_zero, List.length_take, HL.out.1]; omega)
    generalize slP a0 c0 0 = a0' at *
    go_wp2_with (first | (at_builtin; refine wpList_cat slByte rfl _ _ rfl rfl hown0 rfl HKL.out HQ0.out.1 (byteOne _) (by omega) (by unfold maxLen; omega) hs6 ?_; intro a4 c4 w4 hown4 hg4 _ _; simp only [Nat.zero_add, List.nil_append] at hown4; have hb7 := hown0.step hb6 hg4 hs6; have hs7 := hb7.size; have HQ1 := Lib.hid (HR3.out.1.2.below hb7); clear hown0 hb6 hg4) | (at_builtin; refine wpList_cat slByte rfl _ _ rfl rfl hown4 rfl HL.out.2 HQ1.out (byteOne _) (by omega) (by unfold maxLen; omega) hs7 ?_; intro a5 c5 w5 hown5 hg5 _ _; have hb8 := hown4.step hb7 hg5 hs7; clear hown4 hb7 hg5))
    have hC3 := infl_any a5 (k + n1) c5 (List.take k l0 ++ l1) 100000 w5 (by have := hown5.len; simpa using this) (by omega) (by simpa using hown5.rd) (by decide)
    rw [HB.out] at hC3
    unfold InfPost at hC3
    simp only at hC3
    have HC3 := Lib.hid hC3
    have HR5 := Lib.hid (And.intro (And.intro (HR3.out.1.1.below hb8) (HR3.out.2.trans (hb8.mono HR3.out.2.size))) (And.intro (HX3.out.1.below hb8) (HX3.out.2.below hb8)))
    clear hC3 hown5 hb8 HR3 HX3 HQ1 HQ0
    go_wp2_with fail
    refine HC3.out.mono ?_
    rintro e w6 ⟨p6, n6, c6, rfl, hn6, hnc6, hr6, hb6⟩
    clear HC3
    obtain rfl : n2 = n6 := HN2.out.symm.trans hn6
    clear hn6
    have HR6 := Lib.hid (And.intro (HR5.out.1.1.below hb6) (HR5.out.1.2.trans (hb6.mono HR5.out.1.2.size)))
    have hcv1 := conv_str (P := Try.prog) Try.underlying22 Try.underlying5 Try.underlying9 c2 HN2.out (HR5.out.2.1.below hb6)
    have hcv2 := conv_str (P := Try.prog) Try.underlying22 Try.underlying5 Try.underlying9 c3 HN2.out (HR5.out.2.2.below hb6)
    have hcv3 := conv_str (P := Try.prog) Try.underlying22 Try.underlying5 Try.underlying9 c6 HN2.out hr6
    clear hr6 hb6 HR5
    by_cases hx : n2 = 0
    · have HX0 := Lib.hid hx
      have d3 : ((n2 : Int) == 0) = true := by rw [hx]; rfl
      clear hx
      go_wp2_with fail
      go_ret
      exact ⟨rfl, HR6.out.2⟩
    · have d3 : ((n2 : Int) == 0) = false := by simpa using hx
      have hpos : 1 ≤ n2 := by omega
      have hC4 := infl_any a0 n0 c0 l0 ((n2 : Int) - 1) w6 HL.out.1 (by omega) HR6.out.1 (by omega)
      have HE4 := Lib.hid ((HS.out ((n2 : Int) - 1) (by omega)).2 (by simp only [HN2.out]; omega))
      generalize inflK l0 ((n2 : Int) - 1) = r4 at *
      obtain ⟨x4, k4, er4⟩ := r4
      unfold InfPost at hC4
      simp only at hC4
      have HC4 := Lib.hid hC4
      clear hC4 hx
      have gw : IntKind.i64.wrap ((n2 : Int) - 1) = (n2 : Int) - 1 := IntWalk.i64_in _ (by omega)
      go_wp2_with fail
      refine HC4.out.mono ?_
      rintro e w7 ⟨p7, n7, c7, rfl, hn7, hnc7, hr7, hb7⟩
      have HR7 := Lib.hid (HR6.out.2.trans (hb7.mono HR6.out.2.size))
      have h4 : er4 = 3 := HE4.out
      subst h4
      clear hn7 hr7 hb7 HC4
      go_wp2_with fail
      go_ret
      exact ⟨rfl, HR7.out⟩
  · have HE := Lib.hid (inflK_bad he)
    generalize inflK l0 100000 = r at *
    obtain ⟨x, k, er⟩ := r
    simp only at he
    unfold InfPost at HC1
    simp only at HC1
    obtain rfl : x = [] := HE.out.1
    obtain rfl : k = 0 := HE.out.2
    have hne : (er == 0) = false := by simpa using he
    go_wp2_with fail
    refine HC1.out.mono ?_
    rintro e w2 ⟨p2, n2, c2, rfl, hn2, hnc2, hr2, hb2⟩
    obtain rfl : n2 = 0 := by simpa using hn2.symm
    have HR2 := Lib.hid (HR1.out.2.trans (hb2.mono HR1.out.2.size))
    clear hn2 hr2 hb2 HC1
    go_wp2_with fail
    go_ret
    exact ⟨rfl, HR2.out⟩
end Go.Proofs.Ytgcdeadfkljeaaa
