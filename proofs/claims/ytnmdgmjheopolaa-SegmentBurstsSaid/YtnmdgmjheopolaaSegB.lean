/- packsaddlelaw33.few, packsaddleref33.Same. -/
import Derived.Test.YtnmdgmjheopolaaSegA
import Derived.Test.YtnmdgmjheopolaaStr
namespace Go.Proofs.Ytnmdgmjheopolaa
open Go.RowKit
set_option linter.unusedVariables false
set_option linter.unusedSimpArgs false

def FewC (ls : List (List UInt8)) : Prop := ls.length ≤ 300 ∧ sumL ls ≤ 1000 ∧ ∀ l ∈ ls, l.length ≤ 400
instance (ls : List (List UInt8)) : Decidable (FewC ls) := by unfold FewC; infer_instance
set_option maxRecDepth 100000 in
set_option maxHeartbeats 8000000 in
theorem few_any (a : Option Addr) (n c : Nat) (ls : List (List UInt8)) (w : World) (hn : n ≤ maxLen) (hp : Parts w a n ls) :
  Calls Try.prog 39 #[.slice a n c] w fun e w' => e = .returned (.bool (decide (FewC ls))) ∧ w = w' := by
  unfold maxLen at hn
  have HL := Lib.hid hp.len
  have HP := Lib.hid hp
  clear hp
  by_cases h300 : n ≤ 300
  · go_enter Try.func39, Try.ntmps39
    go_wp2
    go_loop [3, 8] (fun x3 i => ∃ k : Nat, k ≤ n ∧ i = .int .i64 k ∧ x3 = .int .i64 (sumL (ls.take k) : Nat) ∧ sumL (ls.take k) ≤ 400 * k ∧ ∀ l ∈ ls.take k, l.length ≤ 400) (fun _ i => n - (intOf i).toNat)
    case atStart => exact ⟨0, by omega, rfl, rfl, by simp [sumL], by simp⟩
    case round =>
      obtain ⟨k, hk, rfl, rfl, hs, hall⟩ := hrel
      by_cases hlt : k < n
      · have hkl : k < ls.length := by rw [HL.out]; exact hlt
        obtain ⟨b, off, ai, ni, ci, rfl, hc, hlen, -⟩ := HP.out.at hkl
        have hsn := sumL_snoc ls k hkl
        have hall2 : ls[k].length ≤ 400 → ∀ l ∈ ls.take (k + 1), l.length ≤ 400 := by
          intro h l hl
          rw [List.take_succ_eq_append_getElem hkl, List.mem_append] at hl
          rcases hl with hl | hl
          · exact hall l hl
          · simp at hl; subst hl; exact h
        have hno : 400 < ls[k].length → decide (FewC ls) = false := fun h => decide_eq_false (fun hf => by have := hf.2.2 _ (List.getElem_mem hkl); omega)
        rw [hlen] at hsn hall2 hno
        have HA := Lib.hid hall2
        have HNO := Lib.hid hno
        have HSN := Lib.hid hsn
        clear hlen hall hall2 hno hsn
        by_cases h4 : ni > 400
        · have HF := Lib.hid (HNO.out h4)
          go_wp2
          go_ret
          exact ⟨ret_bool HF.out.symm, rfl⟩
        · generalize sumL (ls.take k) = s at *
          go_wp2
          go_round
          case rel => exact ⟨k + 1, by omega, by go_num, by rw [HSN.out]; go_num, by rw [HSN.out]; omega, HA.out (by omega)⟩
          case measure => simp [intOf]; omega
      · have hkn : k = n := by omega
        subst hkn
        have htk : ls.take k = ls := List.take_of_length_le (by rw [HL.out]; omega)
        rw [htk] at hs hall ⊢
        have HF : Hid (decide (FewC ls) = decide ((sumL ls : Int) ≤ 1000)) := Lib.hid (decide_eq_decide.2 ⟨fun h => by have := h.2.1; omega, fun h => ⟨by rw [HL.out]; exact h300, by omega, hall⟩⟩)
        clear hall htk
        generalize sumL ls = s at *
        by_cases h1 : s ≤ 1000
        · go_wp2
          go_ret
          exact ⟨by rw [HF.out]; exact ret_bool (by simp; omega), rfl⟩
        · go_wp2
          go_ret
          exact ⟨by rw [HF.out]; exact ret_bool (by simp; omega), rfl⟩
  · have HF : Hid (decide (FewC ls) = false) := Lib.hid (decide_eq_false (fun h => by have := h.1; rw [HL.out] at this; omega))
    rw [HF.out]
    go_enter Try.func39, Try.ntmps39
    go_wp2
    go_loop [3, 8] (fun x3 i => ∃ (k : Nat) (s : Int), k ≤ n ∧ i = .int .i64 k ∧ x3 = .int .i64 s ∧ (-9223372036854775808 ≤ s ∧ s ≤ 9223372036854775807)) (fun _ i => n - (intOf i).toNat)
    case atStart => exact ⟨0, 0, by omega, rfl, rfl, by omega⟩
    case round =>
      obtain ⟨k, s, hk, rfl, rfl, hs⟩ := hrel
      by_cases hlt : k < n
      · have hkl : k < ls.length := by rw [HL.out]; exact hlt
        obtain ⟨b, off, ai, ni, ci, rfl, hc, hlen, -⟩ := HP.out.at hkl
        clear hlen
        by_cases h4 : ni > 400
        · go_wp2
          go_ret
          exact ⟨rfl, rfl⟩
        · have hw := IntKind.wrap_i64 (s + ni)
          have hwr : -9223372036854775808 ≤ IntKind.i64.wrap (s + ni) ∧ IntKind.i64.wrap (s + ni) ≤ 9223372036854775807 := by rw [hw]; omega
          rw [IntWalk.i64_left] at hwr
          clear hw
          go_wp2
          go_round
          case rel => exact ⟨k + 1, _, by omega, by go_num, rfl, hwr⟩
          case measure => simp [intOf]; omega
      · have hkn : k = n := by omega
        subst hkn
        by_cases h1 : s ≤ 1000
        · go_wp2
          go_ret
          exact ⟨ret_bool (by simp; omega), rfl⟩
        · go_wp2
          go_ret
          exact ⟨rfl, rfl⟩

theorem take_ne {α : Type} {x y : List α} {k : Nat} (h1 : k < x.length) (h2 : k < y.length) (h : x[k] ≠ y[k]) : x ≠ y := fun e => h (by subst e; rfl)
set_option maxRecDepth 100000 in
set_option maxHeartbeats 8000000 in
theorem rSame33_any (a : Option Addr) (n c : Nat) (x : List (List UInt8)) (b : Option Addr) (m d : Nat) (y : List (List UInt8)) (w : World) (hn : n ≤ 1000000) (hm : m ≤ 1000000) (hx : Parts w a n x) (hy : Parts w b m y) :
  Calls Try.prog 43 #[.slice a n c, .slice b m d] w fun e w' => e = .returned (.bool (decide (x = y))) ∧ Below w.heap.size w w' := by
  have HX := Lib.hid hx
  have HY := Lib.hid hy
  have HLX := Lib.hid hx.len
  have HLY := Lib.hid hy.len
  clear hx hy
  by_cases hnm : n = m
  · subst hnm
    go_enter Try.func43, Try.ntmps43
    go_wp2
    go_loopw [13] (fun i wr => ∃ k : Nat, k ≤ n ∧ i = .int .i64 k ∧ x.take k = y.take k ∧ Below w.heap.size w wr) (fun i _ => n - (intOf i).toNat)
    case atStart => exact ⟨0, by omega, rfl, by simp, Below.refl _ _⟩
    case round =>
      obtain ⟨k, hk, rfl, heq, hB⟩ := hrel
      have HE := Lib.hid heq
      clear heq
      by_cases hlt : k < n
      · have hkx : k < x.length := by rw [HLX.out]; exact hlt
        have hky : k < y.length := by rw [HLY.out]; exact hlt
        obtain ⟨b1, o1, a1, n1, c1, rfl, hc1, hl1, hr1⟩ := (HX.out.later hB).at hkx
        obtain ⟨b2, o2, a2, n2, c2, rfl, hc2, hl2, hr2⟩ := (HY.out.later hB).at hky
        have hcv1 := fun k' => conv_str (P := Try.prog) Try.underlying26 Try.underlying5 Try.underlying9 c1 hl1 (show Rd (wr.drewN k') bE a1 x[k] from hr1)
        have hcv2 := fun k' => conv_str (P := Try.prog) Try.underlying26 Try.underlying5 Try.underlying9 c2 hl2 (show Rd (wr.drewN k') bE a2 y[k] from hr2)
        have hcv1' := hcv1 0
        have hcv2' := hcv2 0
        clear hl1 hl2 hr1 hr2
        by_cases hxy : x[k] = y[k]
        · have hst : x.take (k + 1) = y.take (k + 1) := by rw [List.take_succ_eq_append_getElem hkx, List.take_succ_eq_append_getElem hky, HE.out, hxy]
          have HST := Lib.hid hst
          rw [hxy] at hcv1 hcv1'
          clear hst hxy
          generalize y[k] = u at *
          go_wp2
          go_quiet (fail)
          go_wp2
          all_goals go_roundw
          all_goals first | exact ⟨k + 1, by omega, by go_num, HST.out, hB.trans (below_drewN _ _ _)⟩ | (simp [intOf]; omega)
        · have hne := take_ne hkx hky hxy
          have HF : Hid (decide (x = y) = false) := Lib.hid (decide_eq_false hne)
          have hsne : ¬ strOf x[k] = strOf y[k] := fun e => hxy (by rw [← strOf_toList x[k], e, strOf_toList])
          have hsb : ((strOf x[k]).toList == (strOf y[k]).toList) = false := beq_eq_false_iff_ne.2 (by rw [strOf_toList, strOf_toList]; exact hxy)
          clear hne hxy
          generalize x[k] = u at *
          generalize y[k] = v at *
          go_wp2
          go_quiet (fail)
          go_wp2
          go_ret
          exact ⟨ret_bool HF.out.symm, hB.trans (below_drewN _ _ _)⟩
      · have hkn : k = n := by omega
        have hfin : x = y := by
          have := HE.out
          rw [List.take_of_length_le (by rw [HLX.out]; omega), List.take_of_length_le (by rw [HLY.out]; omega)] at this
          exact this
        have HF : Hid (decide (x = y) = true) := Lib.hid (decide_eq_true hfin)
        clear hfin
        subst hkn
        go_wp2
        go_ret
        exact ⟨ret_bool HF.out.symm, hB⟩
  · have hne : ¬ x = y := fun e => hnm (by rw [← HLX.out, ← HLY.out, e])
    rw [decide_eq_false hne]
    have hb : ((n : Int) != (m : Int)) = true := bne_iff_ne.2 (by omega)
    clear hne
    go_enter Try.func43, Try.ntmps43
    go_wp2
    go_ret
    exact ⟨rfl, Below.refl _ _⟩
end Go.Proofs.Ytnmdgmjheopolaa
