/- LengthsLeast. -/
import Derived.Test.YtbknkahakmfhkaaLenV
namespace Go.Proofs.Ytbknkahakmfhkaa
open Go.RowKit
set_option linter.unusedVariables false
set_option linter.unusedSimpArgs false

set_option maxRecDepth 100000 in
set_option maxHeartbeats 8000000 in
theorem least_any (a : Option Addr) (n c : Nat) (l : List Int) (M : Nat) (w : World) (hM : M ≤ 14) (hl : l.length = n) (hn : n ≤ 100) (h0 : ∀ x ∈ l, 0 ≤ x ∧ x ≤ 16777216) (hr : Rd w nI a l) :
  Calls Try.prog 38 #[.slice a n c, .int .i64 (M : Int)] w fun e w' => e = .returned (.int .i64 (tryK M l 0)) ∧ w' = w := by
  have HT := Lib.hid (try_any a n c l M 4611686018427387904 hM hl hn h0 n 0 0 w (by omega) (Int.le_refl _) (by omega) hr)
  rw [List.drop_zero] at HT
  clear hl h0 hr
  go_enter Try.func38, Try.ntmps38
  go_wp2_with fail
  refine HT.out.mono ?_
  rintro e w' ⟨rfl, rfl⟩
  go_wp2
  go_ret
  exact ⟨rfl, rfl⟩
theorem come_snoc {l : List Int} {i : Nat} (h : i < l.length) : (l.take (i + 1)).filter (fun x => decide (0 < x)) = (l.take i).filter (fun x => decide (0 < x)) ++ if 0 < l[i] then [l[i]] else [] := by
  rw [List.take_succ_eq_append_getElem h, List.filter_append]
  congr 1
  by_cases h0 : 0 < l[i] <;> simp [h0]
theorem no_bad {l : List Int} (h : ∀ x ∈ l, ¬ cBad x) : ∀ x ∈ l, 0 ≤ x ∧ x ≤ 16777216 := fun x hx => by
  have := h x hx
  unfold cBad at this
  omega
theorem wrapN (w : World) : ∀ m, Below w.heap.size w (w.drewN m) := fun m => ⟨rfl, rfl, rfl, Nat.le_refl _, fun _ _ => rfl⟩
theorem BestOk.le {l : List Int} {m : Nat} {B : List Nat} (h : BestOk l m B) (h0 : ∀ x ∈ l, 0 ≤ x) : ∀ d ∈ B, d ≤ m := fun d hd => by
  obtain ⟨i, hi, rfl⟩ := List.getElem_of_mem hd
  have hl : i < l.length := by rw [← h.len]; exact hi
  have e : B.getD i 0 = B[i] := by rw [List.getD_eq_getElem?_getD, List.getElem?_eq_getElem hi]; rfl
  by_cases hx : 0 < l[i]
  · have := (h.some i l[i] (List.getElem?_eq_getElem hl) hx).2
    omega
  · have h1 := h0 l[i] (List.getElem_mem hl)
    have h2 := h.none i (by rw [List.getElem?_eq_getElem hl]; congr 1; omega)
    omega
set_option maxRecDepth 100000 in
set_option maxHeartbeats 8000000 in
theorem walkLengthsLeast (a : Option Addr) (n c : Nat) (l : List Int) (m : Int) (w : World) (hl : l.length = n) (hc : n ≤ maxLen) (hr : Rd w nI a l) (hx : ∀ x ∈ l, -9223372036854775808 ≤ x ∧ x ≤ 9223372036854775807) (hm : -9223372036854775808 ≤ m ∧ m ≤ 9223372036854775807) :
  Calls Try.prog 8 #[.slice a n c, .int .i64 m] w fun e w' => e = .returned (.bool true) ∧ Below w.heap.size w w' := by
  have HH := Lib.hid (And.intro hl hr)
  unfold maxLen at hc
  clear hl hr hx
  go_enter Try.func8, Try.ntmps8
  go_wp2_with fail
  refine (fixed04_any _).mono ?_
  rintro e w1 ⟨rfl, hb⟩
  have HB := Lib.hid hb
  have HR := Lib.hid (HH.out.2.below hb)
  clear hb
  by_cases hn : 6 < n
  · have g : (6 : Int) < (n : Int) := by omega
    go_wp2
    go_ret
    exact ⟨rfl, HB.out⟩
  have g : ¬ (6 : Int) < (n : Int) := by omega
  by_cases hm6 : 6 < m
  · go_wp2
    go_ret
    exact ⟨rfl, HB.out⟩
  go_wp2_with fail
  refine (right_any a n c l m w1 HH.out.1 (by omega) HR.out).mono ?_
  rintro e w2 ⟨rfl, h⟩
  rcases h with ⟨-, rfl⟩ | ⟨-, -, -, rfl⟩ | ⟨hm1, hg, hle, -, rfl⟩
  · go_wp2
    go_ret
    exact ⟨rfl, HB.out⟩
  · go_wp2
    go_ret
    exact ⟨rfl, HB.out⟩
  obtain ⟨k, hk⟩ : ∃ k, Hid (k = (coinsK l).length) := ⟨_, Lib.hid rfl⟩
  rw [← hk.out] at hle ⊢
  obtain ⟨M, rfl⟩ : ∃ M : Nat, m = (M : Int) := ⟨m.toNat, by omega⟩
  have hM : 1 ≤ M ∧ M ≤ 6 := by omega
  have HG := Lib.hid (And.intro hg hle)
  clear hg hle hm1
  by_cases hk2 : k < 2
  · have g2 : (k : Int) < 2 := by omega
    go_wp2
    go_ret
    exact ⟨rfl, HB.out⟩
  have g2 : ¬ (k : Int) < 2 := by omega
  have hkn : k ≤ n := by rw [hk.out, ← HH.out.1]; exact coinsF_len l 0
  have HOK : Hid (BestOk l M (bestK l M)) := Lib.hid (by
    rw [bestK_S]
    exact bestS_ok l M hM.1 (by rw [← hk.out]; omega) (by rw [← hk.out]; have := HG.out.2; simpa using this))
  have HX := Lib.hid (no_bad HG.out.1)
  have HLE : Hid (∀ d ∈ bestK l M, d ≤ 15) := Lib.hid (fun d hd => by
    have := HOK.out.le (fun x hx => (HX.out x hx).1) d hd
    omega)
  go_wp2
  go_loopw [7, 38] (fun x7 x38 wr => ∃ (i j : Nat) (q : Option Addr) (d : Nat), i ≤ n ∧ j ≤ i ∧ x38 = .int .i64 i ∧ x7 = .slice q j d ∧ Hid (Own wr w.heap.size IN nI q j d ((l.take i).filter (fun x => decide (0 < x)))) ∧ Hid (Below w.heap.size w wr)) (fun _ x38 _ => n - (intOf x38).toNat)
  case atStart => exact ⟨0, 0, none, 0, Nat.zero_le _, Nat.zero_le _, rfl, rfl, Lib.hid Own.nil, Lib.hid HB.out⟩
  case round =>
    obtain ⟨i, j, q, d, hi, hj, rfl, rfl, hO, hB⟩ := hrel
    have HRr := Lib.hid (HH.out.2.below hB.out)
    have HSr := hB.out.size
    by_cases hin : i < n
    · have hil : i < l.length := by rw [HH.out.1]; exact hin
      obtain ⟨p, off, rfl, -, hcl⟩ := HRr.out.at hil
      replace hcl : wr.cell? ⟨p, off + i, none⟩ = some (.int .i64 l[i]) := hcl
      have HS := Lib.hid (come_snoc hil)
      generalize l[i] = x at *
      by_cases h0 : 0 < x
      · rw [if_pos h0] at HS
        have HO2 := Lib.hid (hO.out)
        clear hO
        go_wp2_with (at_builtin; refine wpList_push slIn rfl _ _ rfl rfl rfl HO2.out x ⟨wr.heap.size, 0, none⟩ rfl (cell_push rfl _ _) rfl (by omega) (by unfold maxLen; omega) HSr ?_; intro a2 c2 w2 hown2 hg2)
        have HF := Lib.hid (And.intro hown2 (HO2.out.step hB.out hg2 HSr))
        clear hown2 hg2
        go_roundw
        case rel => exact ⟨i + 1, j + 1, a2, c2, by omega, by omega, by go_num, rfl, Lib.hid (by rw [HS.out]; exact HF.out.1), Lib.hid HF.out.2⟩
        case measure => simp [intOf] <;> omega
      · rw [if_neg h0, List.append_nil] at HS
        go_wp2
        go_roundw
        case rel => exact ⟨i + 1, j, q, d, by omega, by omega, by go_num, rfl, Lib.hid (by rw [HS.out]; exact hO.out), hB⟩
        case measure => simp [intOf] <;> omega
    · have hin' : i = n := by omega
      subst hin'
      rw [List.take_of_length_le (show l.length ≤ i by rw [HH.out.1]; exact Nat.le_refl _)] at hO
      go_wp2_with fail
      refine (best_any a i c l (M : Int) wr HH.out.1 (by omega) HRr.out (by rw [← hk.out]; omega) (by rw [← hk.out]; omega)).mono ?_
      rintro e w4 ⟨hb, h⟩
      rcases h with ⟨h | ⟨x, hx, hx'⟩, -⟩ | ⟨-, -, h, -⟩ | ⟨-, -, -, -, p, d4, rfl, hOB⟩
      · exact absurd (by omega) h
      · exact absurd hx' (HG.out.1 x hx)
      · exfalso
        have h2 := HG.out.2
        rw [← hk.out, HH.out.1] at h
        rcases h with h | h <;> omega
      rw [show ((M : Int)).toNat = M by simp] at hOB
      rw [HH.out.1] at hOB ⊢
      have HBo := Lib.hid (hOB.mono (Nat.zero_le _))
      have HCo := Lib.hid (hO.out.below hb)
      have HB4 := Lib.hid (hB.out.trans (hb.mono HSr))
      have HR4 := Lib.hid (HRr.out.below hb)
      clear hb hOB hO hB HB HR HRr HSr
      go_wp2
      go_loop [12, 57] (fun x12 x57 => ∃ t : Nat, t ≤ i ∧ x57 = .int .i64 t ∧ x12 = .int .i64 (dotL (l.take t) ((bestK l M).take t))) (fun _ x57 => i - (intOf x57).toNat)
      case atStart => exact ⟨0, Nat.zero_le _, rfl, rfl⟩
      case round =>
        obtain ⟨t, ht, rfl, rfl⟩ := hrel
        by_cases htn : t < i
        · have hil : t < l.length := by rw [HH.out.1]; exact htn
          have hiB : t < (bestK l M).length := by rw [HBo.out.2]; exact htn
          obtain ⟨p1, off1, rfl, -, hc1⟩ := HR4.out.at hil
          obtain ⟨p2, off2, rfl, -, hc2⟩ := HBo.out.rd.at hiB
          replace hc1 : w4.cell? ⟨p1, off1 + t, none⟩ = some (.int .i64 l[t]) := hc1
          replace hc2 : w4.cell? ⟨p2, off2 + t, none⟩ = some (.int .i64 (((bestK l M)[t] : Nat) : Int)) := hc2
          have HS := Lib.hid (dotL_snoc l (bestK l M) t hil hiB)
          have hrg := dotL_cut HX.out HLE.out t
          have hmr := mul_range (HX.out l[t] (List.getElem_mem hil)) (HLE.out (bestK l M)[t] (List.getElem_mem hiB))
          have hb15 := HLE.out (bestK l M)[t] (List.getElem_mem hiB)
          have hx15 := HX.out l[t] (List.getElem_mem hil)
          generalize dotL (l.take t) ((bestK l M).take t) = S at *
          generalize l[t] = x at *
          generalize (bestK l M)[t] = d9 at *
          obtain ⟨P, hP⟩ : ∃ P : Int, P = x * (d9 : Int) := ⟨_, rfl⟩
          rw [← hP] at HS hmr
          have g7 : x * (d9 : Int) = P := hP.symm
          clear hP
          go_wp2
          go_round
          case rel => exact ⟨t + 1, by omega, by go_num, by rw [HS.out]⟩
          case measure => simp [intOf] <;> omega
        · have htn' : t = i := by omega
          subst htn'
          have e1 : l.take t = l := List.take_of_length_le (by rw [HH.out.1]; exact Nat.le_refl _)
          have e2 : (bestK l M).take t = bestK l M := List.take_of_length_le (by rw [HBo.out.2]; exact Nat.le_refl _)
          rw [e1, e2]
          clear e1 e2
          have HEQ : Hid (tryK M (l.filter (fun x => decide (0 < x))) 0 = dotL l (bestK l M)) := Lib.hid (least_eq hM.1 (by omega) (by rw [← hk.out]; omega) HOK.out (fun x hx => (HX.out x hx).1))
          have hjl : Hid ((l.filter (fun x => decide (0 < x))).length = j) := Lib.hid HCo.out.2
          go_wp2_with fail
          refine (least_any q j d _ M w4 (by omega) hjl.out (by omega) (fun x hx => HX.out x (List.mem_filter.1 hx).1) HCo.out.rd).mono ?_
          rintro e w5 ⟨rfl, rfl⟩
          rw [HEQ.out]
          go_wp2_with fail
          refine (cost_any a p t c d4 l (bestK l M) w5 HH.out.1 HBo.out.2 (by omega) HR4.out HBo.out.rd HX.out HLE.out).mono ?_
          rintro e w6 ⟨rfl, m6, rfl⟩
          go_wp2
          go_ret
          exact ⟨rfl, HB4.out.trans ((wrapN w5 m6).mono HB4.out.size)⟩
end Go.Proofs.Ytbknkahakmfhkaa
