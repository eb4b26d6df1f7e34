/- LengthsMay. -/
import Derived.Test.YtbknkahakmfhkaaLenUa
import Derived.Test.YtbknkahakmfhkaaLenW
namespace Go.Proofs.Ytbknkahakmfhkaa
open Go.RowKit
set_option linter.unusedVariables false
set_option linter.unusedSimpArgs false

set_option maxRecDepth 100000 in
set_option maxHeartbeats 8000000 in
theorem walkLengthsMay (a : Option Addr) (n c : Nat) (l : List Int) (m : Int) (w : World) (hl : l.length = n) (hc : n ≤ maxLen) (hr : Rd w nI a l) (hx : ∀ x ∈ l, -9223372036854775808 ≤ x ∧ x ≤ 9223372036854775807) (hm : -9223372036854775808 ≤ m ∧ m ≤ 9223372036854775807) :
  Calls Try.prog 7 #[.slice a n c, .int .i64 m] w fun e w' => e = .returned (.bool true) ∧ Below w.heap.size w w' := by
  have HH := Lib.hid (And.intro hl hr)
  unfold maxLen at hc
  clear hl hr hx
  go_enter Try.func7, Try.ntmps7
  go_wp2_with fail
  refine (fixed04_any _).mono ?_
  rintro e w1 ⟨rfl, hb⟩
  have HB := Lib.hid hb
  have HR := Lib.hid (HH.out.2.below hb)
  clear hb
  by_cases hn : 700 < n
  · have g : (700 : Int) < (n : Int) := by omega
    go_wp2
    go_ret
    exact ⟨rfl, HB.out⟩
  have g : ¬ (700 : Int) < (n : Int) := by omega
  go_wp2_with fail
  refine (best_all a n c l m w1 HH.out.1 (by omega) HR.out).mono ?_
  rintro e w2 ⟨hb, h⟩
  have HB2 := Lib.hid (HB.out.trans (hb.mono HB.out.size))
  have HR2 := Lib.hid (HR.out.below hb)
  have HG : Hid ((¬ (1 ≤ m ∧ m ≤ 15) ∨ ∃ x ∈ l, cBad x) → (1 ≤ m ∧ m ≤ 15) → (∀ x ∈ l, ¬ cBad x) → False) := Lib.hid (fun h1 h2 h3 => by
    rcases h1 with h1 | ⟨x, hx, hb⟩
    · exact h1 h2
    · exact h3 x hx hb)
  have HE : Hid ((2 ^ m.toNat < (coinsK l).length ∨ 512 < l.length) → (coinsK l).length ≤ 2 ^ m.toNat → l.length ≤ 512 → False) := Lib.hid (fun h1 h2 h3 => by omega)
  clear HB HR
  rcases h with ⟨h, rfl⟩ | ⟨h1, h2, h3, rfl⟩ | ⟨h1, h2, h3, h4, p, d, rfl, hO⟩
  · have HC := Lib.hid h
    clear h hb
    go_wp2_with fail
    refine (right_any a n c l m w2 HH.out.1 (by omega) HR2.out).mono ?_
    rintro e w3 ⟨rfl, h⟩
    rcases h with ⟨-, rfl⟩ | ⟨h1, h2, -, rfl⟩ | ⟨h1, h2, -, -, rfl⟩
    · go_wp2
      go_ret
      exact ⟨rfl, HB2.out⟩
    · exact (HG.out HC.out h1 h2).elim
    · exact (HG.out HC.out h1 h2).elim
  · have HC := Lib.hid (And.intro h1 (And.intro h2 h3))
    clear h1 h2 h3 hb
    go_wp2_with fail
    refine (right_any a n c l m w2 HH.out.1 (by omega) HR2.out).mono ?_
    rintro e w3 ⟨rfl, h⟩
    rcases h with ⟨h, rfl⟩ | ⟨-, -, -, rfl⟩ | ⟨-, -, h4, h5, rfl⟩
    · exact (HG.out h HC.out.1 HC.out.2.1).elim
    · go_wp2
      go_ret
      exact ⟨rfl, HB2.out⟩
    · exact (HE.out HC.out.2.2 h4 h5).elim
  · have HC := Lib.hid (And.intro h1 (And.intro h2 (And.intro h3 h4)))
    obtain ⟨M, rfl⟩ : ∃ M : Nat, m = (M : Int) := ⟨m.toNat, by omega⟩
    have hM : 1 ≤ M ∧ M ≤ 15 := by omega
    rw [show ((M : Int)).toNat = M by simp] at hO
    rw [HH.out.1] at hO ⊢
    have HO := Lib.hid (hO.mono (Nat.zero_le _))
    have HX := Lib.hid (no_bad h2)
    have HL : Hid ((coinsK l).length ≤ 2 ^ M) := Lib.hid (by simpa using h3)
    have HBR := Lib.hid (bestL_R (l := l) (m := M) hM.1 HL.out)
    have HKD := Lib.hid (kindL_eq (l := l) (m := M) hM (fun x hx => (HX.out x hx).1) HL.out)
    obtain ⟨B, hB⟩ : ∃ B, B = bestL l M := ⟨_, rfl⟩
    rw [← hB] at HO HBR HKD
    have HBB := Lib.hid hB
    clear h1 h2 h3 h4 hO hB hb
    go_wp2_with fail
    refine (right_any a n c l (M : Int) w2 HH.out.1 (by omega) HR2.out).mono ?_
    rintro e w3 ⟨rfl, h⟩
    rcases h with ⟨h, rfl⟩ | ⟨-, -, h3, rfl⟩ | ⟨-, -, -, -, rfl⟩
    · exact (HG.out h HC.out.1 HC.out.2.1).elim
    · exact (HE.out h3 HC.out.2.2.1 HC.out.2.2.2).elim
    clear HG HE
    have hkn : (coinsK l).length ≤ 1000 := by have := coinsF_len l 0; have h3 : (coinsF 0 l).length = (coinsK l).length := rfl; have := HH.out.1; omega
    generalize (coinsK l).length = k at HKD HL hkn ⊢
    go_wp2
    go_loop [53] (fun x53 => ∃ i : Nat, i ≤ n ∧ x53 = .int .i64 i) (fun x53 => n - (intOf x53).toNat)
    case atStart => exact ⟨0, Nat.zero_le _, rfl⟩
    case round =>
      obtain ⟨i, hi, rfl⟩ := hrel
      by_cases hin : i < n
      · have hil : i < l.length := by rw [HH.out.1]; exact hin
        have hiB : i < B.length := by rw [HBR.out.len]; exact hil
        obtain ⟨p1, off1, rfl, -, hc1⟩ := HR2.out.at hil
        obtain ⟨p2, off2, rfl, -, hc2⟩ := HO.out.rd.at hiB
        replace hc1 : w3.cell? ⟨p1, off1 + i, none⟩ = some (.int .i64 l[i]) := hc1
        replace hc2 : w3.cell? ⟨p2, off2 + i, none⟩ = some (.int .i64 ((B[i] : Nat) : Int)) := hc2
        have e1 : B.getD i 0 = B[i] := by rw [List.getD_eq_getElem?_getD, List.getElem?_eq_getElem hiB]; rfl
        have hz := HBR.out.none i
        have hs := HBR.out.some i l[i] (List.getElem?_eq_getElem hil)
        have hx0 := (HX.out l[i] (List.getElem_mem hil)).1
        rw [List.getElem?_eq_getElem hil, e1] at hz
        rw [e1] at hs
        clear e1
        generalize l[i] = x at *
        generalize B[i] = b at *
        by_cases hx0' : x = 0
        · have hb0 : b = 0 := hz (by rw [hx0'])
          subst hx0'
          subst hb0
          clear hz hs
          go_wp2
          go_round
          case rel => exact ⟨i + 1, by omega, by go_num⟩
          case measure => simp [intOf] <;> omega
        · have hxp : 0 < x := by omega
          have hb1 := hs hxp
          have g1 : (x == 0) = false := by simpa using hx0'
          have g2 : ¬ (b : Int) < 1 := by omega
          have g3 : ¬ (M : Int) < (b : Int) := by omega
          have g4 : ¬ M < b := by omega
          clear hz hs
          go_wp2
          go_round
          case rel => exact ⟨i + 1, by omega, by go_num⟩
          case measure => simp [intOf] <;> omega
      · have hin' : i = n := by omega
        subst hin'
        go_wp2_with fail
        refine (best_all a i c l (M : Int) w3 HH.out.1 (by omega) HR2.out).mono ?_
        rintro e w4 ⟨hb, h⟩
        rcases h with ⟨h | ⟨x, hx, hx'⟩, -⟩ | ⟨-, -, h, -⟩ | ⟨-, -, -, -, p3, d3, rfl, hO3⟩
        · exact absurd HC.out.1 h
        · exact absurd hx' (HC.out.2.1 x hx)
        · exact absurd HC.out.2.2 (by omega)
        rw [show ((M : Int)).toNat = M by simp, ← HBB.out] at hO3
        rw [HH.out.1] at hO3 ⊢
        have HO3 := Lib.hid (hO3.mono (Nat.zero_le _))
        have HO4 := Lib.hid (HO.out.below hb)
        have HB4 := Lib.hid (HB2.out.trans (hb.mono HB2.out.size))
        clear hO3 hb
        go_wp2
        go_loopw [95] (fun x95 wr => ∃ t : Nat, t ≤ i ∧ x95 = .int .i64 t ∧ Hid (∃ q, wr = w4.drewN q)) (fun x95 _ => i - (intOf x95).toNat)
        case atStart => exact ⟨0, Nat.zero_le _, rfl, Lib.hid ⟨0, rfl⟩⟩
        case round =>
          obtain ⟨t, ht, rfl, hW⟩ := hrel
          by_cases htn : t < i
          · have htB : t < B.length := by rw [HO4.out.2]; exact htn
            obtain ⟨p2, off2, rfl, -, hc2⟩ := HO4.out.rd.at htB
            obtain ⟨p4, off4, rfl, -, hc4⟩ := HO3.out.rd.at htB
            replace hc2 : wr.cell? ⟨p2, off2 + t, none⟩ = some (.int .i64 ((B[t] : Nat) : Int)) := by obtain ⟨q, hq⟩ := hW.out; rw [hq]; exact hc2
            replace hc4 : wr.cell? ⟨p4, off4 + t, none⟩ = some (.int .i64 ((B[t] : Nat) : Int)) := by obtain ⟨q, hq⟩ := hW.out; rw [hq]; exact hc4
            generalize B[t] = b at *
            have gd : decide (i ≤ t) = false := decide_eq_false (by omega)
            have gd2 : ¬ i ≤ t := by omega
            go_wp2
            go_quiet (fail)
            go_wp2
            go_roundw
            case rel => exact ⟨t + 1, by omega, by go_num, Lib.hid (by obtain ⟨q, hq⟩ := hW.out; exact ⟨q + _, by rw [hq, World.drewN_drewN]⟩)⟩
            case measure => simp [intOf] <;> omega
          · have htn' : t = i := by omega
            subst htn'
            obtain ⟨q, rfl⟩ := hW.out
            clear hW
            go_wp2_with fail
            refine (kind_any p t d (castL B) _ (by unfold castL; rw [List.length_map]; exact HO4.out.2) (by omega) (rd_nat (w := w4.drewN q) HO4.out.rd)).mono ?_
            rintro e w6 ⟨rfl, rfl⟩
            rw [HKD.out]
            go_wp2
            go_ret
            exact ⟨rfl, HB4.out.trans ((wrapN w4 q).mono HB4.out.size)⟩
end Go.Proofs.Ytbknkahakmfhkaa
