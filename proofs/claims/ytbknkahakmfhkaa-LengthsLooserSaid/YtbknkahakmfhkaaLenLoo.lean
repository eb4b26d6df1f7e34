/- LengthsLooser. -/
import Derived.Test.YtbknkahakmfhkaaLenUa
import Derived.Test.YtbknkahakmfhkaaLenW
namespace Go.Proofs.Ytbknkahakmfhkaa
open Go.RowKit
set_option linter.unusedVariables false
set_option linter.unusedSimpArgs false

set_option maxRecDepth 100000 in
set_option maxHeartbeats 8000000 in
theorem walkLengthsLooser (a : Option Addr) (n c : Nat) (l : List Int) (m : Int) (w : World) (hl : l.length = n) (hc : n ≤ maxLen) (hr : Rd w nI a l) (hx : ∀ x ∈ l, -9223372036854775808 ≤ x ∧ x ≤ 9223372036854775807) (hm : -9223372036854775808 ≤ m ∧ m ≤ 9223372036854775807) :
  Calls Try.prog 9 #[.slice a n c, .int .i64 m] w fun e w' => e = .returned (.bool true) ∧ Below w.heap.size w w' := by
  have HH := Lib.hid (And.intro hl hr)
  unfold maxLen at hc
  clear hl hr hx
  go_enter Try.func9, Try.ntmps9
  go_wp2_with fail
  refine (fixed04_any _).mono ?_
  rintro e w1 ⟨rfl, hb⟩
  have HB := Lib.hid hb
  have HR := Lib.hid (HH.out.2.below hb)
  clear hb
  by_cases hn : 300 < n
  · have g : (300 : Int) < (n : Int) := by omega
    go_wp2
    go_ret
    exact ⟨rfl, HB.out⟩
  have g : ¬ (300 : Int) < (n : Int) := by omega
  go_wp2_with fail
  refine (right_any a n c l m w1 HH.out.1 (by omega) HR.out).mono ?_
  rintro e w2 ⟨rfl, h⟩
  rcases h with ⟨-, rfl⟩ | ⟨-, -, -, rfl⟩ | ⟨h1, h2, h3, h4, rfl⟩
  · go_wp2
    go_ret
    exact ⟨rfl, HB.out⟩
  · go_wp2
    go_ret
    exact ⟨rfl, HB.out⟩
  by_cases h15 : m = 15
  · subst h15
    clear h1 h2 h3 h4
    go_wp2
    go_ret
    exact ⟨rfl, HB.out⟩
  have HC := Lib.hid (And.intro h1 (And.intro h2 (And.intro h3 h4)))
  obtain ⟨M, rfl⟩ : ∃ M : Nat, m = (M : Int) := ⟨m.toNat, by omega⟩
  have hM : 1 ≤ M ∧ M ≤ 14 := by omega
  have g15 : ((M : Int) == 15) = false := by simp; omega
  have HX := Lib.hid (no_bad h2)
  have HL : Hid ((coinsK l).length ≤ 2 ^ M) := Lib.hid (by simpa using h3)
  have HL1 : Hid ((coinsK l).length ≤ 2 ^ (M + 1)) := Lib.hid (by have := HL.out; rw [Nat.pow_succ]; omega)
  have HA := Lib.hid (bestL_R (l := l) (m := M) hM.1 HL.out)
  have HA1 := Lib.hid (bestL_R (l := l) (m := M + 1) (by omega) HL1.out)
  have HCO := Lib.hid (looser_cost (l := l) (m := M) hM.1 (fun x hx => (HX.out x hx).1) HL.out)
  have HMO := Lib.hid (fun i k x y => mono_B (l := l) (m := M) hM.1 HL.out i k x y)
  clear h1 h2 h3 h4 h15
  obtain ⟨k0, hk0⟩ : ∃ k0, Hid (k0 = (coinsK l).length) := ⟨_, Lib.hid rfl⟩
  rw [← hk0.out]
  go_wp2_with fail
  refine (best_all a n c l (M : Int) w2 HH.out.1 (by omega) HR.out).mono ?_
  rintro e w3 ⟨hb, h⟩
  rcases h with ⟨h | ⟨x, hx, hx'⟩, -⟩ | ⟨-, -, h, -⟩ | ⟨-, -, -, -, p1, d1, rfl, hO⟩
  · exact absurd HC.out.1 h
  · exact absurd hx' (HC.out.2.1 x hx)
  · exact absurd HC.out.2.2 (by omega)
  rw [show ((M : Int)).toNat = M by simp, HH.out.1] at hO
  rw [HH.out.1]
  have HO := Lib.hid (hO.mono (Nat.zero_le _))
  have HB3 := Lib.hid (HB.out.trans (hb.mono HB.out.size))
  have HR3 := Lib.hid (HR.out.below hb)
  clear hO hb HB HR
  go_wp2_with fail
  refine (best_all a n c l ((M : Int) + 1) w3 HH.out.1 (by omega) HR3.out).mono ?_
  rintro e w4 ⟨hb, h⟩
  rcases h with ⟨h | ⟨x, hx, hx'⟩, -⟩ | ⟨-, -, h, -⟩ | ⟨-, -, -, -, p2, d2, rfl, hO⟩
  · exact absurd (by omega) h
  · exact absurd hx' (HC.out.2.1 x hx)
  · rw [show ((M : Int) + 1).toNat = M + 1 by omega] at h
    exact absurd HC.out.2.2.2 (by have := HL1.out; omega)
  rw [show ((M : Int) + 1).toNat = M + 1 by omega, HH.out.1] at hO
  rw [HH.out.1]
  have HO4 := Lib.hid (HO.out.below hb)
  have HP4 := Lib.hid (hO.mono (Nat.zero_le _))
  have HB4 := Lib.hid (HB3.out.trans (hb.mono HB3.out.size))
  have HR4 := Lib.hid (HR3.out.below hb)
  clear hO hb HO HB3 HR3
  obtain ⟨A, hA⟩ : ∃ A, A = bestL l M := ⟨_, rfl⟩
  obtain ⟨B, hB⟩ : ∃ B, B = bestL l (M + 1) := ⟨_, rfl⟩
  rw [← hA] at HO4 HA HCO HMO
  rw [← hB] at HP4 HA1 HCO
  clear hA hB
  go_wp2
  go_loopw [47] (fun x47 wr => ∃ i : Nat, i ≤ n ∧ x47 = .int .i64 i ∧ Hid (∃ q, wr = w4.drewN q)) (fun x47 _ => n - (intOf x47).toNat)
  case atStart => exact ⟨0, Nat.zero_le _, rfl, Lib.hid ⟨0, rfl⟩⟩
  case round =>
    obtain ⟨i, hi, rfl, hW⟩ := hrel
    by_cases hin : i < n
    · have hil : i < l.length := by rw [HH.out.1]; exact hin
      have hiA : i < A.length := by rw [HA.out.len]; exact hil
      obtain ⟨b1, off1, ha1, -, hc1⟩ := HR4.out.at hil
      have HB1 : Hid (∀ q, (w4.drewN q).cell? ⟨b1, off1 + i, none⟩ = some (.int .i64 l[i])) := Lib.hid (fun q => hc1)
      have HRD : Hid (∀ t (ht : t < l.length) q, (w4.drewN q).cell? ⟨b1, off1 + t, none⟩ = some (.int .i64 l[t])) := Lib.hid (fun t ht q => by
        obtain ⟨b2, off2, ha2, -, hc2⟩ := HR4.out.at ht
        rw [ha1] at ha2
        simp only [Option.some.injEq, Addr.mk.injEq, and_true] at ha2
        rw [ha2.1, ha2.2]; exact hc2)
      obtain ⟨b2, off2, ha2, -, hc2⟩ := HO4.out.rd.at hiA
      have HB2 : Hid (∀ t (ht : t < A.length) q, (w4.drewN q).cell? ⟨b2, off2 + t, none⟩ = some (.int .i64 ((A[t] : Nat) : Int))) := Lib.hid (fun t ht q => by
        obtain ⟨b3, off3, ha3, -, hc3⟩ := HO4.out.rd.at ht
        rw [ha2] at ha3
        simp only [Option.some.injEq, Addr.mk.injEq, and_true] at ha3
        rw [ha3.1, ha3.2]; exact hc3)
      have HMI := Lib.hid (fun k y (hy : l[k]? = some y) => HMO.out i k l[i] y (List.getElem?_eq_getElem hil) hy)
      have eAi : A.getD i 0 = A[i] := by rw [List.getD_eq_getElem?_getD, List.getElem?_eq_getElem hiA]; rfl
      rw [eAi] at HMI
      have cA := HB2.out i hiA
      have cL := HB1.out
      clear hc1 hc2 eAi HB1
      subst ha1
      subst ha2
      generalize l[i] = x at HMI cL
      generalize A[i] = ai at HMI cA
      have HCX := Lib.hid (And.intro cL cA)
      have c0 : wr.cell? ⟨b1, off1 + i, none⟩ = some (.int .i64 x) := by obtain ⟨q, hq⟩ := hW.out; rw [hq]; exact cL q
      clear cL cA
      go_wp2
      go_loopw [54] (fun x54 wq => ∃ k : Nat, k ≤ n ∧ x54 = .int .i64 k ∧ Hid (∃ q, wq = w4.drewN q)) (fun x54 _ => n - (intOf x54).toNat)
      case atStart => exact ⟨0, Nat.zero_le _, rfl, hW⟩
      case round =>
        clear hW c0
        obtain ⟨k, hk, rfl, hW⟩ := hrel
        by_cases hkn : k < n
        · have hkl : k < l.length := by rw [HH.out.1]; exact hkn
          have hkA : k < A.length := by rw [HA.out.len]; exact hkl
          have c1 : wr.cell? ⟨b1, off1 + k, none⟩ = some (.int .i64 l[k]) := by obtain ⟨q, hq⟩ := hW.out; rw [hq]; exact HRD.out k hkl q
          have c2 : wr.cell? ⟨b2, off2 + i, none⟩ = some (.int .i64 (ai : Int)) := by obtain ⟨q, hq⟩ := hW.out; rw [hq]; exact HCX.out.2 q
          have c3 : wr.cell? ⟨b2, off2 + k, none⟩ = some (.int .i64 ((A[k] : Nat) : Int)) := by obtain ⟨q, hq⟩ := hW.out; rw [hq]; exact HB2.out k hkA q
          have hmi := HMI.out k l[k] (List.getElem?_eq_getElem hkl)
          have eAk : A.getD k 0 = A[k] := by rw [List.getD_eq_getElem?_getD, List.getElem?_eq_getElem hkA]; rfl
          rw [eAk] at hmi
          clear eAk
          generalize l[k] = y at *
          generalize A[k] = ak at *
          have d1 : decide (i < n) = true := decide_eq_true hin
          have d2 : decide (k < n) = true := decide_eq_true hkn
          by_cases hxy : y < x
          · have d3 : decide (y < x) = true := decide_eq_true hxy
            by_cases hy0 : 0 < y
            · have d4 : decide (0 < y) = true := decide_eq_true hy0
              have hle := hmi hxy hy0
              have d5 : ¬ ak < ai := by omega
              have d6 : ¬ (ak : Int) < (ai : Int) := by omega
              clear hmi
              go_wp2
              go_quiet (fail)
              go_wp2
              go_roundw
              case rel => exact ⟨k + 1, by omega, by go_num, Lib.hid (by obtain ⟨q, hq⟩ := hW.out; exact ⟨q + _, by rw [hq, World.drewN_drewN]⟩)⟩
              case measure => simp [intOf] <;> omega
            · have d4 : decide (0 < y) = false := decide_eq_false hy0
              clear hmi
              go_wp2
              go_quiet (fail)
              go_wp2
              go_roundw
              case rel => exact ⟨k + 1, by omega, by go_num, Lib.hid (by obtain ⟨q, hq⟩ := hW.out; exact ⟨q + _, by rw [hq, World.drewN_drewN]⟩)⟩
              case measure => simp [intOf] <;> omega
          · have d3 : decide (y < x) = false := decide_eq_false hxy
            clear hmi
            go_wp2
            go_quiet (fail)
            go_wp2
            go_roundw
            case rel => exact ⟨k + 1, by omega, by go_num, Lib.hid (by obtain ⟨q, hq⟩ := hW.out; exact ⟨q + _, by rw [hq, World.drewN_drewN]⟩)⟩
            case measure => simp [intOf] <;> omega
        · have hkn' : k = n := by omega
          subst hkn'
          go_wp2
          go_roundw
          case rel => exact ⟨i + 1, by omega, by go_num, hW⟩
          case measure => simp [intOf] <;> omega
    · have hin' : i = n := by omega
      subst hin'
      obtain ⟨q, rfl⟩ := hW.out
      have HLA := Lib.hid (HA.out.le (fun x hx => (HX.out x hx).1))
      have HLB := Lib.hid (HA1.out.le (fun x hx => (HX.out x hx).1))
      have HAL : Hid (A.length = i) := Lib.hid (by rw [HA.out.len]; exact HH.out.1)
      have HBL : Hid (B.length = i) := Lib.hid (by rw [HA1.out.len]; exact HH.out.1)
      clear hW
      go_wp2_with fail
      refine (cost_any a p2 i c d2 l B (w4.drewN q) HH.out.1 HBL.out (by omega) (by exact HR4.out) (by exact HP4.out.rd) HX.out (fun d hd => by have := HLB.out d hd; omega)).mono ?_
      rintro e w5 ⟨rfl, q5, rfl⟩
      go_wp2_with fail
      refine (cost_any a p1 i c d1 l A (w4.drewN (q + q5)) HH.out.1 HAL.out (by omega) (by exact HR4.out) (by exact HO4.out.rd) HX.out (fun d hd => by have := HLA.out d hd; omega)).mono ?_
      rintro e w6 ⟨rfl, q6, rfl⟩
      have hfin := HCO.out
      go_wp2
      go_ret
      exact ⟨rfl, HB4.out.trans ((wrapN w4 _).mono HB4.out.size)⟩
end Go.Proofs.Ytbknkahakmfhkaa
