/- The walk of PrefixWords. -/
import Derived.Test.YtnmdgmjheopolaaPreO
import Derived.Test.YtnmdgmjheopolaaGrowL
namespace Go.Proofs.Ytnmdgmjheopolaa
open Go.RowKit
set_option linter.unusedVariables false
set_option linter.unusedSimpArgs false

theorem cell_later5 {w w' : World} {a : Addr} {v : Value} (h : w.cell? a = some v) (hb : Below w.drew.heap.size w.drew w') : w'.cell? a = some v :=
  (hb.cell (World.block_lt_of_cell? w.drew _ h)).trans h
set_option maxRecDepth 100000 in
set_option maxHeartbeats 8000000 in
theorem walkPrefixWords (a : Option Addr) (n c : Nat) (l : List Int) (w : World) (hl : l.length = n) (hn : n ≤ maxLen) (hr : Rd w nE a l) (hx : ∀ x ∈ l, -9223372036854775808 ≤ x ∧ x ≤ 9223372036854775807) :
  Calls Try.prog 4 #[.slice a n c] w fun e w' => e = .returned (.bool true) ∧ Below w.heap.size w w' := by
  have HR := Lib.hid (And.intro hl hr)
  unfold maxLen at hn
  clear hl hr hx
  go_enter Try.func4, Try.ntmps4
  go_wp2_with fail
  refine (fixed05_any w).mono ?_
  rintro e w1 ⟨rfl, hb1⟩
  have HB := Lib.hid hb1
  clear hb1
  by_cases h300 : n ≤ 300
  case neg =>
    have g : (300 : Int) < (n : Int) := by omega
    go_wp2
    go_ret
    exact ⟨rfl, HB.out⟩
  have g : ¬ (300 : Int) < (n : Int) := by omega
  go_wp2_with fail
  refine (words_any a n c l w1 HR.out.1 (by omega) (HR.out.2.below HB.out)).mono ?_
  rintro e w2 ⟨hb2, h2⟩
  have HB2 := Lib.hid (HB.out.trans (hb2.mono HB.out.size))
  clear hb2
  rcases h2 with ⟨hk, rfl⟩ | ⟨hk, p, rfl, ho2⟩
  · have HK := Lib.hid hk
    clear hk
    go_wp2_with fail
    refine (rwords_any a n c l w2 HR.out.1 (by omega) (HR.out.2.below HB2.out)).mono ?_
    rintro e w3 ⟨hb3, h3⟩
    rcases h3 with ⟨-, rfl⟩ | ⟨h3, _⟩
    case inr => exact absurd HK.out h3
    have HB3 := Lib.hid (HB2.out.trans (hb3.mono HB2.out.size))
    clear hb3
    go_wp2_with fail
    refine (new_any a n c l w3 HR.out.1 (by omega) (HR.out.2.below HB3.out)).mono ?_
    rintro e w4 ⟨hb4, h4⟩
    rcases h4 with ⟨-, rfl⟩ | ⟨h4, _⟩
    case inr => exact absurd HK.out h4
    have HB4 := Lib.hid (HB3.out.trans (hb4.mono HB3.out.size))
    clear hb4
    go_wp2
    go_ret
    exact ⟨rfl, HB4.out⟩
  · have HK := Lib.hid hk
    have HO2 := Lib.hid (ho2.mono (b' := 0) (Nat.zero_le _))
    clear hk ho2
    go_wp2_with fail
    refine (rwords_any a n c l w2 HR.out.1 (by omega) (HR.out.2.below HB2.out)).mono ?_
    rintro e w3 ⟨hb3, h3⟩
    rcases h3 with ⟨h3, _⟩ | ⟨-, q, rfl, ho3⟩
    · exact absurd h3 HK.out
    have HB3 := Lib.hid (HB2.out.trans (hb3.mono HB2.out.size))
    have HO23 := Lib.hid (And.intro (HO2.out.below hb3) (ho3.mono (b' := 0) (Nat.zero_le _)))
    clear hb3 ho3 HO2
    go_wp2_with fail
    refine (new_any a n c l w3 HR.out.1 (by omega) (HR.out.2.below HB3.out)).mono ?_
    rintro e w4 ⟨hb4, h4⟩
    rcases h4 with ⟨h4, _⟩ | ⟨-, g4, -, rfl, -⟩
    · exact absurd h4 HK.out
    have HB4 := Lib.hid (HB3.out.trans (hb4.mono HB3.out.size))
    have HO4 := Lib.hid (And.intro (HO23.out.1.below hb4) (HO23.out.2.below hb4))
    clear hb4 HO23
    go_wp2
    go_loopw [58] (fun x58 wr => ∃ i : Nat, i ≤ n ∧ x58 = .int .i64 i ∧ Below w4.heap.size w4 wr) (fun x58 _ => n - (intOf x58).toNat)
    case atStart => exact ⟨0, Nat.zero_le _, rfl, Below.refl _ _⟩
    case round =>
      obtain ⟨i, hi, rfl, hB⟩ := hrel
      by_cases hin : i < n
      · have hil : i < l.length := by rw [HR.out.1]; exact hin
        obtain ⟨b8, o8, hp8, -, k1⟩ := (HO4.out.1.rd.below hB).at (k := i) (by rw [wsL_length]; exact hil)
        obtain ⟨b9, o9, hq9, -, k2⟩ := (HO4.out.2.rd.below hB).at (k := i) (by rw [List.length_map, rwsL_length]; exact hil)
        subst hp8 hq9
        have e1 : (wsL l)[i]'(by rw [wsL_length]; exact hil) = wv l i := by simp [wsL]
        have e2 : ((rwsL l).map sB)[i]'(by rw [List.length_map, rwsL_length]; exact hil) = sB (rwv l i) := by simp [rwsL]
        rw [e1] at k1
        rw [e2] at k2
        obtain ⟨v, hv⟩ : ∃ v, v = wv l i := ⟨_, rfl⟩
        obtain ⟨s, hs⟩ : ∃ s, s = sB (rwv l i) := ⟨_, rfl⟩
        rw [← hv] at k1
        rw [← hs] at k2
        have HSS := Lib.hid (Lib.hid hs)
        have HNM : Hid (numM (rwv l i) = v) := Lib.hid (by rw [word_num HK.out hil, hv])
        have HLE : Hid ((l.getD i 0).toNat ≤ 1000000) := Lib.hid (by
          have := kindS_valid HK.out (l.getD i 0) (by rw [List.getD_eq_getElem?_getD, List.getElem?_eq_getElem hil]; exact List.getElem_mem _)
          omega)
        have K1 : Hid (wr.cell? ⟨b8, o8 + i, none⟩ = some (.int .u32 (v : Int))) := Lib.hid k1
        have K2 : Hid (wr.cell? ⟨b9, o9 + i, none⟩ = some (.string s)) := Lib.hid k2
        have HBR := Lib.hid hB
        have f1i : (i : Int) < (n : Int) := by omega
        have f1 : i < n := hin
        clear k1 k2 e1 e2 hv hs hB
        go_wp2_with fail
        refine wp_region_grow (by kernel_rfl) (by kernel_rfl) (by rfl) ?_
        apply gw_val
        · intro a' w' hk
          refine ⟨wanted_none rfl, ?_⟩
          simp [Oper.looksAt, Op.operands, Call.operands, KnownAt, List.lookup, consD] at hk
          simp [execOp, Act.eval, hk, go_sem]
          all_goals rfl
        apply gw_val
        · intro a' w' hk
          refine ⟨wanted_none rfl, ?_⟩
          simp [Oper.looksAt, Op.operands, Call.operands, KnownAt, List.lookup, consD] at hk
          simp [execOp, Act.eval, hk, go_sem]
          all_goals rfl
        apply gw_val
        · intro a' w' hk
          refine ⟨wanted_none rfl, ?_⟩
          simp [Oper.looksAt, Op.operands, Call.operands, KnownAt, List.lookup, consD] at hk
          simp [execOp, Act.eval, hk, go_sem, f1, f1i]
          all_goals rfl
        refine gw_valB (fun y _ => y = .int .u32 (v : Int)) (mono_eq _) ?_ ?_
        · intro a' w' hb' hk
          refine ⟨wanted_none rfl, _, ?_, rfl⟩
          have hcc := cell_later5 K1.out hb'
          simp [Oper.looksAt, Op.operands, Call.operands, KnownAt, List.lookup, consD] at hk
          simp [execOp, Act.eval, hk, hcc, go_sem]
          all_goals rfl
        apply gw_val
        · intro a' w' hk
          refine ⟨wanted_none rfl, ?_⟩
          simp [Oper.looksAt, Op.operands, Call.operands, KnownAt, List.lookup, consD] at hk
          simp [execOp, Act.eval, hk, go_sem]
          all_goals rfl
        apply gw_val
        · intro a' w' hk
          refine ⟨wanted_none rfl, ?_⟩
          simp [Oper.looksAt, Op.operands, Call.operands, KnownAt, List.lookup, consD] at hk
          simp [execOp, Act.eval, hk, go_sem]
          all_goals rfl
        apply gw_val
        · intro a' w' hk
          refine ⟨wanted_none rfl, ?_⟩
          simp [Oper.looksAt, Op.operands, Call.operands, KnownAt, List.lookup, consD] at hk
          simp [execOp, Act.eval, hk, go_sem, f1, f1i]
          all_goals rfl
        refine gw_valB (fun y _ => y = .string s) (mono_eq _) ?_ ?_
        · intro a' w' hb' hk
          refine ⟨wanted_none rfl, _, ?_, rfl⟩
          have hcc := cell_later5 K2.out hb'
          simp [Oper.looksAt, Op.operands, Call.operands, KnownAt, List.lookup, consD] at hk
          simp [execOp, Act.eval, hk, hcc, go_sem]
          all_goals rfl
        refine gw_call _ #[.string s] (fun x _ => x = .int .u32 (v : Int)) (mono_eq _) (fun a' w' hk => ?_) (fun w' hb => (number5_any s (rwv l i) w' HSS.out (by rw [rwv_len]; exact HLE.out)).mono ?_) ?_
        · refine ⟨wanted_none rfl, ?_⟩
          simp [Oper.looksAt, Op.operands, Call.operands, KnownAt, List.lookup, consD] at hk
          simp [execOp, Act.eval, hk, go_sem]
          all_goals rfl
        · rw [HNM.out]
          rintro e w'' ⟨rfl, hB⟩
          exact ⟨_, rfl, rfl, hB⟩
        apply gw_val
        · intro a' w' hk
          refine ⟨wanted_none rfl, ?_⟩
          simp [Oper.looksAt, Op.operands, Call.operands, KnownAt, List.lookup, consD] at hk
          simp [execOp, Act.eval, hk, go_sem]
          all_goals rfl
        intro vs w5 hb5 hall
        simp only [AllS, consD] at hall
        simp only [consD, putAllS, Act.put]
        obtain ⟨h70, -⟩ := hall
        rw [h70]
        simp only [List.setIfInBounds_toArray, List.set_cons_succ, List.set_cons_zero]
        have hB5 : Below wr.heap.size wr w5 := ((Below.refl wr.heap.size wr).drew).trans hb5
        have HB5 := Lib.hid (HBR.out.trans (hB5.mono HBR.out.size))
        clear hb5 hB5 h70 HBR K1 K2
        go_wp2
        go_roundw
        case rel => exact ⟨i + 1, by omega, by go_num, HB5.out⟩
        case measure => simp [intOf] <;> omega
      · have hin' : i = n := by omega
        subst hin'
        have HF := Lib.hid (HB4.out.trans (hB.mono HB4.out.size))
        clear hB
        go_wp2
        go_ret
        exact ⟨rfl, HF.out⟩
end Go.Proofs.Ytnmdgmjheopolaa
