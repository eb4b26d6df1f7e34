/- Which numbers fit, bhsd's and the document's. -/
import Derived.Test.YtnmdgmjheopolaaBhsD
namespace Go.Proofs.Ytnmdgmjheopolaa
open Go.RowKit
set_option linter.unusedVariables false
set_option linter.unusedSimpArgs false
theorem cell_later2 {w w' : World} {a : Addr} {v : Value} (h : w.cell? a = some v) (hb : Below w.drew.heap.size w.drew w') : w'.cell? a = some v :=
  (hb.cell (World.block_lt_of_cell? _ _ h)).trans h
def FitsC (b h s d u : Int) : Prop := RightC b h s d ∧ 0 ≤ u ∧ u < reachC b h
instance (b h s d u : Int) : Decidable (FitsC b h s d u) := by unfold FitsC; infer_instance
theorem plainC_bad (s v : Int) (h : ¬ plainOk v) : plainC s v = -1 := by unfold plainOk at h; unfold plainC; rw [if_pos (by omega)]

set_option maxRecDepth 100000 in
set_option maxHeartbeats 4000000 in
theorem bfits_any (b h s d u : Int) (w : World) (hb : In64 b) (hh : In64 h) (hs : In64 s) (hd : In64 d) :
  Calls Try.prog 63 #[.agg #[.int .i64 b, .int .i64 h, .int .i64 s, .int .i64 d], .int .i64 u] w fun e w' => e = .returned (.bool (decide (FitsC b h s d u))) ∧ Below w.heap.size w w' := by
  by_cases g : 0 ≤ u
  · have HF := Lib.hid (show decide (FitsC b h s d u) = decide (u < if RightC b h s d then reachC b h else 0) by
      by_cases hR : RightC b h s d
      · rw [if_pos hR]; exact decide_eq_decide.2 ⟨fun h => h.2.2, fun h => ⟨hR, g, h⟩⟩
      · rw [if_neg hR]; exact decide_eq_decide.2 ⟨fun h => (hR h.1).elim, fun h => by omega⟩)
    go_enter Try.func63, Try.ntmps63
    go_wp2_with fail
    refine (bReach_any b h s d _ hb hh hs hd).mono ?_
    rintro e w1 ⟨rfl, hB⟩
    generalize (if RightC b h s d then reachC b h else 0) = r at HF ⊢
    go_wp2
    go_ret
    exact ⟨ret_bool HF.out.symm, (below_alloc _ _).trans (hB.mono (by simp))⟩
  · have HF := Lib.hid (show decide (FitsC b h s d u) = false from decide_eq_false (fun h => g h.2.1))
    go_enter Try.func63, Try.ntmps63
    go_wp2
    go_ret
    exact ⟨ret_bool HF.out.symm, below_alloc _ _⟩
set_option maxRecDepth 100000 in
set_option maxHeartbeats 4000000 in
theorem bFits_right (b h s d v : Int) (w : World) (hR : RightC b h s d) :
  Calls Try.prog 18 #[.agg #[.int .i64 b, .int .i64 h, .int .i64 s, .int .i64 d], .int .i64 v] w fun e w' => e = .returned (.bool (decide (FitsC b h s d (plainC s v)))) ∧ Below w.heap.size w w' := by
  have hs : 0 ≤ s ∧ s ≤ 2 := ⟨hR.2.2.2.2.1, hR.2.2.2.2.2.1⟩
  have hb0 : In64 b := by unfold RightC at hR; unfold In64; omega
  have hh0 : In64 h := by unfold RightC at hR; unfold In64; omega
  have hs0 : In64 s := by unfold RightC at hR; unfold In64; omega
  have hd0 : In64 d := by unfold RightC at hR; unfold In64; omega
  have HC := Lib.hid (Blk.new w 23 #[.int .i64 b, .int .i64 h, .int .i64 s, .int .i64 d]).four
  have HBA := Lib.hid (below_alloc w (.cells #[.int .i64 b, .int .i64 h, .int .i64 s, .int .i64 d] 23))
  go_enter Try.func18, Try.ntmps18
  go_wp2_with fail
  refine wp_region_grow (by kernel_rfl) (by kernel_rfl) (by rfl) ?_
  refine gw_valB (fun v _ => v = .agg #[.int .i64 b, .int .i64 h, .int .i64 s, .int .i64 d]) (mono_eq _) ?_ ?_
  · intro a' w' hb' hk
    refine ⟨wanted_none rfl, _, ?_, rfl⟩
    have hc0 := cell_later2 HC.out.1 hb'
    have hc1 := cell_later2 HC.out.2.1 hb'
    have hc2 := cell_later2 HC.out.2.2.1 hb'
    have hc3 := cell_later2 HC.out.2.2.2 hb'
    simp [Oper.looksAt, Op.operands, Call.operands, KnownAt, List.lookup, consD] at hk
    simp [execOp, Act.eval, hk, hc0, hc1, hc2, hc3, go_sem]
    all_goals rfl
  refine gw_valB (fun v _ => v = .agg #[.int .i64 b, .int .i64 h, .int .i64 s, .int .i64 d]) (mono_eq _) ?_ ?_
  · intro a' w' hb' hk
    refine ⟨wanted_none rfl, _, ?_, rfl⟩
    have hc0 := cell_later2 HC.out.1 hb'
    have hc1 := cell_later2 HC.out.2.1 hb'
    have hc2 := cell_later2 HC.out.2.2.1 hb'
    have hc3 := cell_later2 HC.out.2.2.2 hb'
    simp [Oper.looksAt, Op.operands, Call.operands, KnownAt, List.lookup, consD] at hk
    simp [execOp, Act.eval, hk, hc0, hc1, hc2, hc3, go_sem]
    all_goals rfl
  apply gw_val
  · intro a' w' hk
    refine ⟨wanted_none rfl, ?_⟩
    simp [Oper.looksAt, Op.operands, Call.operands, KnownAt, List.lookup, consD] at hk
    simp [execOp, Act.eval, hk, go_sem]
    all_goals rfl
  refine gw_call _ #[.agg #[.int .i64 b, .int .i64 h, .int .i64 s, .int .i64 d], .int .i64 v] (fun x _ => x = .int .i64 (plainC s v)) (mono_eq _) (fun a' w' hk => ?_) (fun w' hb => (bPlain_any b h s d v w' hs).mono ?_) ?_
  · refine ⟨wanted_none rfl, ?_⟩
    simp [Oper.looksAt, Op.operands, Call.operands, KnownAt, List.lookup, consD] at hk
    simp [execOp, Act.eval, hk, go_sem]
    all_goals rfl
  · rintro e w'' ⟨rfl, hB⟩
    exact ⟨_, rfl, rfl, hB⟩
  refine gw_call _ #[.agg #[.int .i64 b, .int .i64 h, .int .i64 s, .int .i64 d], .int .i64 (plainC s v)] (fun x _ => x = .bool (decide (FitsC b h s d (plainC s v)))) (mono_eq _) (fun a' w' hk => ?_) (fun w' hb => (bfits_any b h s d (plainC s v) w' hb0 hh0 hs0 hd0).mono ?_) ?_
  · refine ⟨wanted_none rfl, ?_⟩
    simp [Oper.looksAt, Op.operands, Call.operands, KnownAt, List.lookup, consD] at hk
    simp [execOp, Act.eval, hk, go_sem]
    all_goals rfl
  · rintro e w'' ⟨rfl, hB⟩
    exact ⟨_, rfl, rfl, hB⟩
  apply gw_val
  · intro a' w' hk
    refine ⟨wanted_none rfl, ?_⟩
    simp [Oper.looksAt, Op.operands, Call.operands, KnownAt, List.lookup, consD] at hk
    simp [execOp, Act.eval, hk, go_sem]
    all_goals rfl
  intro vs w' hb hall
  simp only [AllS, consD] at hall
  simp only [consD, putAllS, Act.put]
  obtain ⟨h4, -⟩ := hall
  rw [h4]
  simp only [List.setIfInBounds_toArray, List.set_cons_succ, List.set_cons_zero]
  go_wp2
  go_ret
  exact ⟨rfl, HBA.out.drew.trans (hb.mono HBA.out.size)⟩
set_option maxRecDepth 100000 in
set_option maxHeartbeats 4000000 in
theorem bFits_wrong (b h s d v : Int) (w : World) (hb0 : In64 b) (hh0 : In64 h) (hs0 : In64 s) (hd0 : In64 d) (hR : ¬ RightC b h s d) :
  Calls Try.prog 18 #[.agg #[.int .i64 b, .int .i64 h, .int .i64 s, .int .i64 d], .int .i64 v] w fun e w' => e = .returned (.bool false) ∧ Below w.heap.size w w' := by
  have HC := Lib.hid (Blk.new w 23 #[.int .i64 b, .int .i64 h, .int .i64 s, .int .i64 d]).four
  have HBA := Lib.hid (below_alloc w (.cells #[.int .i64 b, .int .i64 h, .int .i64 s, .int .i64 d] 23))
  go_enter Try.func18, Try.ntmps18
  go_wp2_with fail
  refine wp_region_grow (by kernel_rfl) (by kernel_rfl) (by rfl) ?_
  refine gw_valB (fun v _ => v = .agg #[.int .i64 b, .int .i64 h, .int .i64 s, .int .i64 d]) (mono_eq _) ?_ ?_
  · intro a' w' hb' hk
    refine ⟨wanted_none rfl, _, ?_, rfl⟩
    have hc0 := cell_later2 HC.out.1 hb'
    have hc1 := cell_later2 HC.out.2.1 hb'
    have hc2 := cell_later2 HC.out.2.2.1 hb'
    have hc3 := cell_later2 HC.out.2.2.2 hb'
    simp [Oper.looksAt, Op.operands, Call.operands, KnownAt, List.lookup, consD] at hk
    simp [execOp, Act.eval, hk, hc0, hc1, hc2, hc3, go_sem]
    all_goals rfl
  refine gw_valB (fun v _ => v = .agg #[.int .i64 b, .int .i64 h, .int .i64 s, .int .i64 d]) (mono_eq _) ?_ ?_
  · intro a' w' hb' hk
    refine ⟨wanted_none rfl, _, ?_, rfl⟩
    have hc0 := cell_later2 HC.out.1 hb'
    have hc1 := cell_later2 HC.out.2.1 hb'
    have hc2 := cell_later2 HC.out.2.2.1 hb'
    have hc3 := cell_later2 HC.out.2.2.2 hb'
    simp [Oper.looksAt, Op.operands, Call.operands, KnownAt, List.lookup, consD] at hk
    simp [execOp, Act.eval, hk, hc0, hc1, hc2, hc3, go_sem]
    all_goals rfl
  apply gw_val
  · intro a' w' hk
    refine ⟨wanted_none rfl, ?_⟩
    simp [Oper.looksAt, Op.operands, Call.operands, KnownAt, List.lookup, consD] at hk
    simp [execOp, Act.eval, hk, go_sem]
    all_goals rfl
  refine gw_call _ #[.agg #[.int .i64 b, .int .i64 h, .int .i64 s, .int .i64 d], .int .i64 v] (fun x _ => ∃ u, In64 u ∧ x = .int .i64 u) (fun _ _ _ h _ => h) (fun a' w' hk => ?_) (fun w' hb => (bPlain_some b h s d v w' hs0).mono ?_) ?_
  · refine ⟨wanted_none rfl, ?_⟩
    simp [Oper.looksAt, Op.operands, Call.operands, KnownAt, List.lookup, consD] at hk
    simp [execOp, Act.eval, hk, go_sem]
    all_goals rfl
  · rintro e w'' ⟨⟨u, hu, rfl⟩, hB⟩
    exact ⟨_, rfl, ⟨u, hu, rfl⟩, hB⟩
  refine gw_callE 63 (fun args _ => ∃ u, In64 u ∧ args = #[.agg #[.int .i64 b, .int .i64 h, .int .i64 s, .int .i64 d], .int .i64 u]) (fun x _ => x = .bool false) (mono_eq _) (fun a' w' hk => ?_) (fun w' args hb hA => ?_) ?_
  · refine ⟨wanted_none rfl, ?_⟩
    simp [Oper.looksAt, Op.operands, Call.operands, KnownAt, List.lookup, consD] at hk
    obtain ⟨hk1, u, hu, hk2⟩ := hk
    refine ⟨_, ⟨u, hu, rfl⟩, ?_⟩
    simp [execOp, Act.eval, hk1, hk2, go_sem]
    all_goals rfl
  · obtain ⟨u, hu, rfl⟩ := hA
    refine (bfits_any b h s d u w' hb0 hh0 hs0 hd0).mono ?_
    rintro e w'' ⟨rfl, hB⟩
    exact ⟨_, rfl, by rw [decide_eq_false (fun h => hR h.1)], hB⟩
  apply gw_val
  · intro a' w' hk
    refine ⟨wanted_none rfl, ?_⟩
    simp [Oper.looksAt, Op.operands, Call.operands, KnownAt, List.lookup, consD] at hk
    simp [execOp, Act.eval, hk, go_sem]
    all_goals rfl
  intro vs w' hb hall
  simp only [AllS, consD] at hall
  simp only [consD, putAllS, Act.put]
  obtain ⟨h4, -⟩ := hall
  rw [h4]
  simp only [List.setIfInBounds_toArray, List.set_cons_succ, List.set_cons_zero]
  go_wp2
  go_ret
  exact ⟨rfl, HBA.out.drew.trans (hb.mono HBA.out.size)⟩
set_option maxRecDepth 100000 in
set_option maxHeartbeats 4000000 in
theorem rFits_any (b h s d v : Int) (w : World) (hb : In64 b) (hh : In64 h) (hs : In64 s) (hd : In64 d) :
  Calls Try.prog 19 #[.agg #[.int .i64 b, .int .i64 h, .int .i64 s, .int .i64 d], .int .i64 v] w fun e w' => e = .returned (.bool (decide (FitsC b h s d (plainC s v)))) ∧ Below w.heap.size w w' := by
  by_cases hR : RightC b h s d
  · go_enter Try.func19, Try.ntmps19
    go_wp2_with fail
    refine (rRight_any b h s d _ hb hh hs hd).mono ?_
    rw [decide_eq_true hR]
    rintro e w1 ⟨rfl, hB⟩
    obtain ⟨hblk, hc0, hc1, hc2, hc3, hB1⟩ := cod_cells hB
    clear hB
    go_wp2_with fail
    refine (rPlain_any b h s d v _ ⟨hR.2.2.2.2.1, hR.2.2.2.2.2.1⟩).mono ?_
    rintro e w2 ⟨rfl, hB2⟩
    have hblk2 := hblk.below hB2
    have hB3 := hB1.trans (hB2.mono hB1.size)
    clear hblk hB2 hB1 hc0 hc1 hc2 hc3
    obtain ⟨hc0, hc1, hc2, hc3⟩ := hblk2.four
    by_cases hp : plainOk v
    · rw [if_pos hp, decide_eq_true hp]
      by_cases g : 0 ≤ plainC s v
      · have HF : Hid (∀ r, r = reachC b h → decide (FitsC b h s d (plainC s v)) = decide (plainC s v < r)) := Lib.hid (fun r hr => by rw [hr]; exact decide_eq_decide.2 ⟨fun h => h.2.2, fun h => ⟨hR, g, h⟩⟩)
        have HR := Lib.hid hR
        obtain ⟨u, hu⟩ : ∃ u, u = plainC s v := ⟨_, rfl⟩
        have HU := Lib.hid hu
        rw [← hu] at g ⊢
        clear hu
        clear hR
        go_wp2_with fail
        refine (rReach_any b h s d _ HR.out).mono ?_
        rintro e w3 ⟨rfl, hB4⟩
        have hB5 := hB3.trans (hB4.mono hB3.size)
        clear hB4 hB3 hblk2 hc0 hc1 hc2 hc3
        have HF2 := Lib.hid (HF.out _ rfl)
        clear HF
        obtain ⟨r, hr⟩ : ∃ r, r = reachC b h := ⟨_, rfl⟩
        have HRr := Lib.hid hr
        rw [← hr]
        clear hr
        go_wp2
        go_ret
        exact ⟨ret_bool (by rw [HU.out, HRr.out]; exact HF2.out.symm), hB5⟩
      · have HF := Lib.hid (show decide (FitsC b h s d (plainC s v)) = false from decide_eq_false (fun h => g h.2.1))
        obtain ⟨u, hu⟩ : ∃ u, u = plainC s v := ⟨_, rfl⟩
        have HU := Lib.hid hu
        rw [← hu] at g ⊢
        clear hu
        clear hR
        go_wp2
        go_ret
        exact ⟨ret_bool HF.out.symm, hB3⟩
    · have HF := Lib.hid (show decide (FitsC b h s d (plainC s v)) = false from decide_eq_false (fun h => by have := h.2.1; rw [plainC_bad s v hp] at this; omega))
      rw [if_neg hp, decide_eq_false hp]
      clear hR
      go_wp2
      go_ret
      exact ⟨ret_bool HF.out.symm, hB3⟩
  · have HF := Lib.hid (show decide (FitsC b h s d (plainC s v)) = false from decide_eq_false (fun h => hR h.1))
    go_enter Try.func19, Try.ntmps19
    go_wp2_with fail
    refine (rRight_any b h s d _ hb hh hs hd).mono ?_
    rw [decide_eq_false hR]
    rintro e w1 ⟨rfl, hB⟩
    clear hR
    go_wp2
    go_ret
    exact ⟨ret_bool HF.out.symm, (below_alloc _ _).trans (hB.mono (by simp))⟩
end Go.Proofs.Ytnmdgmjheopolaa
