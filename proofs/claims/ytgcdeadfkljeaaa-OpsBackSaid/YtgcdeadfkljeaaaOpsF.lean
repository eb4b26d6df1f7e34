/- The reader of instructions: lookup. -/
import Derived.Test.YtgcdeadfkljeaaaOpsE
namespace Go.Proofs.Ytgcdeadfkljeaaa
open Go.RowKit
set_option linter.unusedVariables false
set_option linter.unusedSimpArgs false

/-- A lookup's keys and targets. -/
def lokK (L : List UInt8) (at' n : Int) : Nat → Nat → List Int → List Int → CS → (List Int × List Int) × CS
  | 0, i, ks, ts, s => ((ks, ts), s)
  | f + 1, i, ks, ts, s => if (i : Int) < n ∧ s.e = 0 then
      lokK L at' n f (i + 1) (ks ++ [(sgnK L 4 s).1]) (ts ++ [at' + (sgnK L 4 (isC (i == 0 || decide (ks.getD (i - 1) 0 < (sgnK L 4 s).1)) (sgnK L 4 s).2)).1]) (sgnK L 4 (isC (i == 0 || decide (ks.getD (i - 1) 0 < (sgnK L 4 s).1)) (sgnK L 4 s).2)).2
    else ((ks, ts), s)
def lkpK (L : List UInt8) (st : StepK) (s : CS) : StepK × CS :=
  let b := begK L st.at' s
  let n := sgnK L 4 b.2
  let r := lokK L st.at' n.1 (L.length + 3) 0 [] [] (isC (decide (0 ≤ n.1)) n.2)
  ({ st with goal := b.1, keys := r.1.1, tgts := r.1.2 }, r.2)
section
variable {gr gc gs : Nat} {L : List UInt8} {s : CS}
set_option maxRecDepth 100000 in
set_option maxHeartbeats 8000000 in
theorem rLookup_any (st : StepK) (w : World) (h : RSt w gr gc L s) (hb : Blk w gs STO (stC st (.slice none 0 0) (.slice none 0 0))) (hne : gc < gs ∧ gs ≠ gr) (hk : st.keys = []) (ht : st.tgts = []) (hat : 0 ≤ st.at' ∧ st.at' ≤ 1000000000000) :
  Calls Try.prog 77 #[.pointer (some ⟨gr, 0, none⟩), .pointer (some ⟨gs, 0, none⟩)] w (TblPost gr gc gs L w (lkpK L st s)) := by
  have mixed : Try.prog.follows .mixedOrders = true := by kernel_rfl
  have HB := Lib.hid (rBegin_any st (.slice none 0 0) (.slice none 0 0) w h hb hne hat)
  have HLT := Lib.hid (And.intro h.blk.lt hb.lt)
  have hlen := h.cur.len
  obtain ⟨res, hres⟩ : ∃ r, r = lkpK L st s := ⟨_, rfl⟩
  rw [← hres]
  unfold lkpK at hres
  simp only at hres
  clear h hb
  generalize begK L st.at' s = b at *
  obtain ⟨bt, bs⟩ := b
  simp only at hres
  have hlo := sgnK_rng L 4 bs (.inr (.inr rfl))
  have HLO := Lib.hid (fun w' h => rSigned_any (s := bs) (gr := gr) (gc := gc) (L := L) 4 w' h (.inr (.inr rfl)))
  generalize sgnK L 4 bs = lo at *
  obtain ⟨nv, ns⟩ := lo
  simp only at hres hlo
  have HTOT := Lib.hid hres
  clear hres
  go_enter Try.func77, Try.ntmps77
  go_wp2_with fail
  refine HB.out.mono ?_
  rintro e w1 ⟨rfl, h1, hb1, g1⟩
  go_wp2_with fail
  refine (HLO.out _ h1).mono ?_
  rintro e w2 ⟨rfl, h2, g2⟩
  go_wp2_with fail
  refine (rIs_any (decide (0 ≤ nv)) w2 h2).mono ?_
  rintro e w4 ⟨rfl, h4, g4⟩
  have hg14 : Gx w1 w4 [gc] := (Gx.of_grown g2).trans (Gx.of_grown g4)
  have HS4 : Hid (StR w4 gr gc gs w.heap.size L (isC (decide (0 ≤ nv)) ns) { st with goal := bt } none 0 0 none 0 0 ∧ Gx w w4 [gc, gs]) := Lib.hid ⟨⟨h4, hg14.blk hb1 (by have := hne.1; simp; omega), by rw [show ({ st with goal := bt } : StepK).keys = [] from hk]; exact Own.nil, by rw [show ({ st with goal := bt } : StepK).tgts = [] from ht]; exact Own.nil, fun b e => by simp [Value.ownBlock] at e, hne.1, hne.2, HLT.out.1, HLT.out.2, Nat.le_trans g1.size hg14.size⟩, g1.trans (hg14.mono (by simp))⟩
  clear h1 hb1 g1 h2 g2 h4 g4 hg14 HB HLO
  go_wp2
  go_loopw [5] (fun x5 wr => ∃ (f i : Nat) (ks ts : List Int) (s' : CS) (ka : Option Addr) (kc : Nat) (ta : Option Addr) (tn tc : Nat), x5 = .int .i64 (i : Int) ∧ Hid (lokK L st.at' nv f i ks ts s' = lokK L st.at' nv (L.length + 3) 0 [] [] (isC (decide (0 ≤ nv)) ns)) ∧ (L.length + 1 - s'.p) + (if s'.e = 0 then 1 else 0) < f ∧ (i + f ≤ L.length + 3 ∧ tn + f ≤ L.length + 3) ∧ StR wr gr gc gs w.heap.size L s' { st with goal := bt, keys := ks, tgts := ts } ka i kc ta tn tc ∧ Gx w wr [gc, gs]) (fun _ wr => msC gc L.length wr)
  case atStart => exact ⟨L.length + 3, 0, [], [], _, none, 0, none, 0, 0, rfl, Lib.hid rfl, by split <;> omega, by omega, by have := HS4.out.1; rw [hk, ht] at *; exact this, HS4.out.2⟩
  case round =>
    clear HS4
    obtain ⟨f, i, ks, ts, s', ka, kc, ta, tn, tc, rfl, hrest, hf, hnn, hS, hG⟩ := hrel
    have HS := Lib.hid (And.intro hS hG)
    have c0 : wr.cell? ⟨gr, 0, none⟩ = some (.pointer (some ⟨gc, 0, none⟩)) := hS.rd.blk.cell (i := 0) (rdC_zero gc)
    have HE := Lib.hid (cErr_any gc L s'.p s'.e wr hS.rd.cur)
    clear hS hG
    by_cases hx : (i : Int) < nv ∧ s'.e = 0
    · have g1 : decide ((i : Int) < nv) = true := decide_eq_true hx.1
      have g2 : (s'.e == 0) = true := by simp [hx.2]
      obtain ⟨f', rfl⟩ : ∃ f', f = f' + 1 := ⟨f - 1, by omega⟩
      have HP : Hid (lokK L st.at' nv f' (i + 1) (ks ++ [(sgnK L 4 s').1]) (ts ++ [st.at' + (sgnK L 4 (isC (i == 0 || decide (ks.getD (i - 1) 0 < (sgnK L 4 s').1)) (sgnK L 4 s').2)).1]) (sgnK L 4 (isC (i == 0 || decide (ks.getD (i - 1) 0 < (sgnK L 4 s').1)) (sgnK L 4 s').2)).2 = lokK L st.at' nv (L.length + 3) 0 [] [] (isC (decide (0 ≤ nv)) ns)) := Lib.hid (by rw [← hrest.out]; conv => rhs; rw [lokK, if_pos hx])
      have HM : Hid (msC gc L.length wr = (L.length + 1 - s'.p) + 1) := Lib.hid (by rw [msC_eq HS.out.1.rd.cur, if_pos hx.2])
      have HQ : Hid ((sgnK L 4 s').2.e = 0 → (sgnK L 4 s').2.p = s'.p + 4 ∧ s'.p + 4 ≤ L.length) := Lib.hid (fun he => by have := bigK_ok (m := 4) (.inr (.inr rfl)) he; exact ⟨this.2.1, this.2.2⟩)
      have HQ2 : Hid (s'.p ≤ (sgnK L 4 s').2.p) := Lib.hid (bigK_p L 4 s')
      have HF := Lib.hid (show (L.length + 1 - s'.p) + 1 < f' + 1 by rw [if_pos hx.2] at hf; exact hf)
      have HPL := Lib.hid HS.out.1.rd.cur.place
      have HSK := Lib.hid (fun w' h => rSigned_any (s := s') (gr := gr) (gc := gc) (L := L) 4 w' h (.inr (.inr rfl)))
      have hkr := sgnK_rng L 4 s' (.inr (.inr rfl))
      generalize sgnK L 4 s' = kg at *
      obtain ⟨k, ks1⟩ := kg
      simp only at hkr HP
      obtain ⟨bb, hbb⟩ : ∃ bb, bb = (i == 0 || decide (ks.getD (i - 1) 0 < k)) := ⟨_, rfl⟩
      rw [← hbb] at HP
      have HQ3 : Hid ((sgnK L 4 (isC bb ks1)).2.e = 0 → ks1.e = 0 ∧ (sgnK L 4 (isC bb ks1)).2.p = ks1.p + 4 ∧ ks1.p + 4 ≤ L.length) := Lib.hid (fun he => by
        have h1 := bigK_ok (m := 4) (.inr (.inr rfl)) he
        have h2 := (isC_ok h1.1).2
        have h3 := h1.1
        rw [h2] at h3
        refine ⟨h3, ?_, ?_⟩
        · have := h1.2.1; rw [isC_p] at this; exact this
        · have := h1.2.2; rw [isC_p] at this; exact this)
      have HQ4 : Hid (ks1.p ≤ (sgnK L 4 (isC bb ks1)).2.p) := Lib.hid (by have := bigK_p L 4 (isC bb ks1); rw [isC_p] at this; exact this)
      have hsr := sgnK_rng L 4 (isC bb ks1) (.inr (.inr rfl))
      have HSG := Lib.hid (fun w' h => rSigned_any (s := isC bb ks1) (gr := gr) (gc := gc) (L := L) 4 w' h (.inr (.inr rfl)))
      generalize sgnK L 4 (isC bb ks1) = sg at *
      obtain ⟨sv, ss⟩ := sg
      simp only at hsr
      have hkb : i + 1 ≤ L.length + 3 ∧ tn + 1 ≤ L.length + 3 := by omega
      clear hrest hf
      go_wp2_with fail
      refine HE.out.mono ?_
      rintro e w' ⟨rfl, hw⟩
      subst hw
      go_wp2_with fail
      refine (HSK.out _ HS.out.1.rd).mono ?_
      rintro e wk ⟨rfl, hk2, gk⟩
      have HSk := Lib.hid (And.intro (HS.out.1.moved hk2 gk) (HS.out.2.trans ((Gx.of_grown gk).mono (by simp))))
      have HIS := Lib.hid (rIs_any bb wk hk2)
      clear hk2 gk c0
      have q6 : wk.cell? ⟨gs, 6, none⟩ = some (.slice ka i kc) := HSk.out.1.blk.cell (i := 6) rfl
      rcases Nat.eq_zero_or_pos i with hi0 | hi0
      · have hb1 : bb = true := by rw [hbb, hi0]; rfl
        have HB1 := Lib.hid hb1
        have HI0 := Lib.hid hi0
        have gi : ((i : Int) == 0) = true := by simp; omega
        clear hbb hb1 hi0
        go_wp2_with fail
        rw [← HB1.out]
        refine HIS.out.mono ?_
        rintro e w3 ⟨rfl, hi3, gi3⟩
        have HSi := Lib.hid (And.intro (HSk.out.1.moved hi3 gi3) (HSk.out.2.trans ((Gx.of_grown gi3).mono (by simp))))
        clear hi3 gi3 q6
        have q6 : w3.cell? ⟨gs, 6, none⟩ = some (.slice ka i kc) := HSi.out.1.blk.cell (i := 6) rfl
        go_wp2_with (at_builtin; go_loud (refine wpList_pushL slIntE rfl _ _ rfl rfl rfl HSi.out.1.keys k ⟨w3.heap.size, 0, none⟩ rfl (cell_push rfl _ _) rfl (by omega) (by unfold maxLen; omega) HSi.out.1.le.2.2.2.2 ?_); intro b1 d1 w1 hown1 hg1 hat1; have HP1 := Lib.hid (HSi.out.1.pushK hown1 hg1 hat1); have r6 := HP1.out.1.cell (i := 6) rfl; have f6 := HP1.out.1.frozen 6; clear hown1 hg1 hat1)
        have HS2 := Lib.hid (And.intro HP1.out.2.1 (HP1.out.2.2 w [gc, gs] HSi.out.2 (Nat.le_refl _) (by simp)))
        clear r6 f6 q6 HP1
        generalize w1.setCell ⟨gs, 6, none⟩ (.slice (some ⟨b1, 0, none⟩) (i + 1) d1) = w2 at *
        have hw1 : IntKind.i64.wrap (st.at' + sv) = st.at' + sv := IntWalk.i64_in _ (by omega)
        refine wp_region_noPanic ?_
        refine wp_region_split (fun w' => w'.cell? ⟨gs, 7, none⟩ = some (.slice ta tn tc) ∧ w'.cell? ⟨gs, 0, none⟩ = some (.int .i64 st.at')) 14 (by kernel_rfl) (by kernel_rfl) ?_
        have HSD : Hid (w2.drew.cell? ⟨gs, 7, none⟩ = some (.slice ta tn tc) ∧ w2.drew.cell? ⟨gs, 0, none⟩ = some (.int .i64 st.at')) := Lib.hid ⟨HS2.out.1.blk.cell (i := 7) rfl, HS2.out.1.blk.cell (i := 0) rfl⟩
        try simp only [List.take_succ_cons, List.take_zero, List.drop_succ_cons, List.drop_zero]
        refine wpAnyH_take (i := 0) (v := .pointer (some ⟨gs, 0, none⟩)) rfl (by kernel_rfl) (by kernel_rfl) (by kernel_rfl) (fun _ _ _ h => h) (Or.inl ⟨by rfl, ?_⟩) HSD.out ?_
        · (intro w hSw; obtain ⟨hs7, hs0⟩ := hSw; go_simp)
        try simp only [Act.put, List.setIfInBounds_toArray, List.set_cons_zero, List.set_cons_succ]
        refine wpAnyH_take (i := 1) (v := .pointer (some ⟨gs, 0, none⟩)) rfl (by kernel_rfl) (by kernel_rfl) (by kernel_rfl) (fun _ _ _ h => h) (Or.inl ⟨by rfl, ?_⟩) HSD.out ?_
        · (intro w hSw; obtain ⟨hs7, hs0⟩ := hSw; go_simp)
        try simp only [Act.put, List.setIfInBounds_toArray, List.set_cons_zero, List.set_cons_succ]
        refine wpAnyH_take (i := 2) (v := .pointer (some ⟨gs, 0, none⟩)) rfl (by kernel_rfl) (by kernel_rfl) (by kernel_rfl) (fun _ _ _ h => h) (Or.inl ⟨by rfl, ?_⟩) HSD.out ?_
        · (intro w hSw; obtain ⟨hs7, hs0⟩ := hSw; go_simp)
        try simp only [Act.put, List.setIfInBounds_toArray, List.set_cons_zero, List.set_cons_succ]
        refine wpAnyH_take (i := 3) (v := .pointer (some ⟨gs, 7, none⟩)) rfl (by kernel_rfl) (by kernel_rfl) (by kernel_rfl) (fun _ _ _ h => h) (Or.inl ⟨by rfl, ?_⟩) HSD.out ?_
        · (intro w hSw; obtain ⟨hs7, hs0⟩ := hSw; go_simp)
        try simp only [Act.put, List.setIfInBounds_toArray, List.set_cons_zero, List.set_cons_succ]
        refine wpAnyH_take (i := 4) (v := .slice ta tn tc) rfl (by kernel_rfl) (by kernel_rfl) (by kernel_rfl) (fun _ _ _ h => h) (Or.inl ⟨by rfl, ?_⟩) HSD.out ?_
        · (intro w hSw; obtain ⟨hs7, hs0⟩ := hSw; go_simp)
        try simp only [Act.put, List.setIfInBounds_toArray, List.set_cons_zero, List.set_cons_succ]
        refine wpAnyH_take (i := 5) (v := .pointer (some ⟨gs, 0, none⟩)) rfl (by kernel_rfl) (by kernel_rfl) (by kernel_rfl) (fun _ _ _ h => h) (Or.inl ⟨by rfl, ?_⟩) HSD.out ?_
        · (intro w hSw; obtain ⟨hs7, hs0⟩ := hSw; go_simp)
        try simp only [Act.put, List.setIfInBounds_toArray, List.set_cons_zero, List.set_cons_succ]
        refine wpAnyH_take (i := 6) (v := .pointer (some ⟨gs, 0, none⟩)) rfl (by kernel_rfl) (by kernel_rfl) (by kernel_rfl) (fun _ _ _ h => h) (Or.inl ⟨by rfl, ?_⟩) HSD.out ?_
        · (intro w hSw; obtain ⟨hs7, hs0⟩ := hSw; go_simp)
        try simp only [Act.put, List.setIfInBounds_toArray, List.set_cons_zero, List.set_cons_succ]
        refine wpAnyH_take (i := 7) (v := .pointer (some ⟨gs, 0, none⟩)) rfl (by kernel_rfl) (by kernel_rfl) (by kernel_rfl) (fun _ _ _ h => h) (Or.inl ⟨by rfl, ?_⟩) HSD.out ?_
        · (intro w hSw; obtain ⟨hs7, hs0⟩ := hSw; go_simp)
        try simp only [Act.put, List.setIfInBounds_toArray, List.set_cons_zero, List.set_cons_succ]
        refine wpAnyH_take (i := 8) (v := .int .i64 st.at') rfl (by kernel_rfl) (by kernel_rfl) (by kernel_rfl) (fun _ _ _ h => h) (Or.inl ⟨by rfl, ?_⟩) HSD.out ?_
        · (intro w hSw; obtain ⟨hs7, hs0⟩ := hSw; go_simp)
        try simp only [Act.put, List.setIfInBounds_toArray, List.set_cons_zero, List.set_cons_succ]
        refine wpAnyH_take (i := 9) (v := .pointer (some ⟨gr, 0, none⟩)) rfl (by kernel_rfl) (by kernel_rfl) (by kernel_rfl) (fun _ _ _ h => h) (Or.inl ⟨by rfl, ?_⟩) HSD.out ?_
        · (intro w hSw; obtain ⟨hs7, hs0⟩ := hSw; go_simp)
        try simp only [Act.put, List.setIfInBounds_toArray, List.set_cons_zero, List.set_cons_succ]
        refine wpAnyH_one 10 (by kernel_rfl) rfl rfl ?_
        go_wp2_with fail
        refine (HSG.out _ (HS2.out.1.rd.below (below_drewN w2 w2.heap.size 1))).mono ?_
        rintro e w3 ⟨rfl, h3, g3⟩
        have HS3 : Hid (StR w3 gr gc gs w.heap.size L ss { st with goal := bt, keys := ks ++ [k], tgts := ts } (some ⟨b1, 0, none⟩) (i + 1) d1 ta tn tc ∧ Gx w w3 [gc, gs]) := Lib.hid ⟨(HS2.out.1.below (below_drewN w2 w2.heap.size 1)).moved h3 g3, HS2.out.2.trans ((Gx.of_below (below_drewN w2 w2.heap.size 1)).trans ((Gx.of_grown g3).mono (by simp)))⟩
        clear h3 g3 HSD
        go_wp2
        unfold OneQ
        refine ⟨rfl, ⟨HS3.out.1.blk.cell (i := 7) rfl, HS3.out.1.blk.cell (i := 0) rfl⟩, ?_⟩
        try simp only [Act.put, List.setIfInBounds_toArray, List.set_cons_zero, List.set_cons_succ]
        refine wpAnyH_one 11 (by kernel_rfl) rfl rfl ?_
        go_wp2
        unfold OneQ
        refine ⟨rfl, ⟨HS3.out.1.blk.cell (i := 7) rfl, HS3.out.1.blk.cell (i := 0) rfl⟩, ?_⟩
        try simp only [Act.put, List.setIfInBounds_toArray, List.set_cons_zero, List.set_cons_succ]
        refine wpAnyH_one 12 (by kernel_rfl) rfl rfl ?_
        go_wp2
        unfold OneQ
        refine ⟨rfl, ⟨(HS3.out.1.below (below_alloc _ _)).blk.cell (i := 7) rfl, (HS3.out.1.below (below_alloc _ _)).blk.cell (i := 0) rfl⟩, ?_⟩
        try simp only [Act.put, List.setIfInBounds_toArray, List.set_cons_zero, List.set_cons_succ]
        refine wpAnyH_one 13 (by kernel_rfl) rfl rfl ?_
        (refine wpList_pushL slIntE rfl _ _ rfl rfl rfl HS3.out.1.tgts (st.at' + sv) ⟨w3.heap.size, 0, none⟩ rfl (cell_push rfl _ _) rfl (by omega) (by unfold maxLen; omega) HS3.out.1.le.2.2.2.2 ?_; intro b4 d4 w4 hown4 hg4 hat4; have HP4 := Lib.hid (HS3.out.1.pushT hown4 hg4 hat4); clear hown4 hg4 hat4)
        unfold OneQ
        refine ⟨rfl, ⟨HP4.out.1.cell (i := 7) rfl, HP4.out.1.cell (i := 0) rfl⟩, ?_⟩
        try simp only [Act.put, List.setIfInBounds_toArray, List.set_cons_zero, List.set_cons_succ]
        refine wpAnyH_done (by kernel_rfl) ?_ _
        have r7 : w4.cell? ⟨gs, 7, none⟩ = some (.slice ta tn tc) := HP4.out.1.cell (i := 7) rfl
        have f7 := HP4.out.1.frozen 7
        have HS5 := Lib.hid (And.intro HP4.out.2.1 (HP4.out.2.2 w [gc, gs] HS3.out.2 (Nat.le_refl _) (by simp)))
        clear HP4
        unfold splitQ
        simp only
        go_wp2
        refine NoPanic.normal ?_
        clear r7 f7
        generalize w4.setCell ⟨gs, 7, none⟩ (.slice (some ⟨b4, 0, none⟩) (tn + 1) d4) = w5 at *
        go_wp2
        go_roundw
        case rel => exact ⟨f', i + 1, ks ++ [k], ts ++ [st.at' + sv], ss, _, _, _, _, _, by go_num, HP, by have h1 := HF.out; have h2 := HQ.out; have h3 := HQ2.out; have h4 := HPL.out; have h5 := HQ3.out; have h6 := HQ4.out; (try simp only at h2 h3 h5 h6); split <;> omega, by omega, HS5.out.1, HS5.out.2⟩
        case measure =>
          rw [HM.out, msC_eq HS5.out.1.rd.cur]
          have h2 := HQ.out
          have h3 := HQ2.out
          have h4 := HPL.out
          have h5 := HQ3.out
          have h6 := HQ4.out
          try simp only at h2 h3 h5 h6
          split
          · rename_i he; have h7 := h5 he; have := h2 h7.1; omega
          · omega
      · obtain ⟨j, rfl⟩ : ∃ j, i = j + 1 := ⟨i - 1, by omega⟩
        obtain ⟨q, y, rfl, -, -, hy, q7, -⟩ := HSk.out.1.keys.at (i := j) (by omega)
        have hyk : ks.getD j 0 = y := by
          have hy : ks[j]? = some y := hy
          rw [List.getD_eq_getElem?_getD, hy]; rfl
        have hb1 : bb = decide (y < k) := by
          rw [hbb, show ((j + 1 == 0) : Bool) = false from rfl, Bool.false_or, Nat.add_sub_cancel, hyk]
        have HB1 := Lib.hid hb1
        replace q7 : wk.cell? ⟨q, j, none⟩ = some (.int .i64 y) := q7
        have gi : (((j : Int) + 1) == 0) = false := by simp; omega
        clear hbb hb1 hy hyk
        go_wp2_with fail
        rw [← HB1.out]
        clear q7
        refine HIS.out.mono ?_
        rintro e w3 ⟨rfl, hi3, gi3⟩
        have HSi := Lib.hid (And.intro (HSk.out.1.moved hi3 gi3) (HSk.out.2.trans ((Gx.of_grown gi3).mono (by simp))))
        clear hi3 gi3 q6
        have q6 : w3.cell? ⟨gs, 6, none⟩ = some (.slice (some ⟨q, 0, none⟩) (j + 1) kc) := HSi.out.1.blk.cell (i := 6) rfl
        go_wp2_with (at_builtin; go_loud (refine wpList_pushL slIntE rfl _ _ rfl rfl rfl HSi.out.1.keys k ⟨w3.heap.size, 0, none⟩ rfl (cell_push rfl _ _) rfl (by omega) (by unfold maxLen; omega) HSi.out.1.le.2.2.2.2 ?_); intro b1 d1 w1 hown1 hg1 hat1; have HP1 := Lib.hid (HSi.out.1.pushK hown1 hg1 hat1); have r6 := HP1.out.1.cell (i := 6) rfl; have f6 := HP1.out.1.frozen 6; clear hown1 hg1 hat1)
        have HS2 := Lib.hid (And.intro HP1.out.2.1 (HP1.out.2.2 w [gc, gs] HSi.out.2 (Nat.le_refl _) (by simp)))
        clear r6 f6 q6 HP1
        generalize w1.setCell ⟨gs, 6, none⟩ (.slice (some ⟨b1, 0, none⟩) (j + 1 + 1) d1) = w2 at *
        have hw1 : IntKind.i64.wrap (st.at' + sv) = st.at' + sv := IntWalk.i64_in _ (by omega)
        refine wp_region_noPanic ?_
        refine wp_region_split (fun w' => w'.cell? ⟨gs, 7, none⟩ = some (.slice ta tn tc) ∧ w'.cell? ⟨gs, 0, none⟩ = some (.int .i64 st.at')) 14 (by kernel_rfl) (by kernel_rfl) ?_
        have HSD : Hid (w2.drew.cell? ⟨gs, 7, none⟩ = some (.slice ta tn tc) ∧ w2.drew.cell? ⟨gs, 0, none⟩ = some (.int .i64 st.at')) := Lib.hid ⟨HS2.out.1.blk.cell (i := 7) rfl, HS2.out.1.blk.cell (i := 0) rfl⟩
        try simp only [List.take_succ_cons, List.take_zero, List.drop_succ_cons, List.drop_zero]
        refine wpAnyH_take (i := 0) (v := .pointer (some ⟨gs, 0, none⟩)) rfl (by kernel_rfl) (by kernel_rfl) (by kernel_rfl) (fun _ _ _ h => h) (Or.inl ⟨by rfl, ?_⟩) HSD.out ?_
        · (intro w hSw; obtain ⟨hs7, hs0⟩ := hSw; go_simp)
        try simp only [Act.put, List.setIfInBounds_toArray, List.set_cons_zero, List.set_cons_succ]
        refine wpAnyH_take (i := 1) (v := .pointer (some ⟨gs, 0, none⟩)) rfl (by kernel_rfl) (by kernel_rfl) (by kernel_rfl) (fun _ _ _ h => h) (Or.inl ⟨by rfl, ?_⟩) HSD.out ?_
        · (intro w hSw; obtain ⟨hs7, hs0⟩ := hSw; go_simp)
        try simp only [Act.put, List.setIfInBounds_toArray, List.set_cons_zero, List.set_cons_succ]
        refine wpAnyH_take (i := 2) (v := .pointer (some ⟨gs, 0, none⟩)) rfl (by kernel_rfl) (by kernel_rfl) (by kernel_rfl) (fun _ _ _ h => h) (Or.inl ⟨by rfl, ?_⟩) HSD.out ?_
        · (intro w hSw; obtain ⟨hs7, hs0⟩ := hSw; go_simp)
        try simp only [Act.put, List.setIfInBounds_toArray, List.set_cons_zero, List.set_cons_succ]
        refine wpAnyH_take (i := 3) (v := .pointer (some ⟨gs, 7, none⟩)) rfl (by kernel_rfl) (by kernel_rfl) (by kernel_rfl) (fun _ _ _ h => h) (Or.inl ⟨by rfl, ?_⟩) HSD.out ?_
        · (intro w hSw; obtain ⟨hs7, hs0⟩ := hSw; go_simp)
        try simp only [Act.put, List.setIfInBounds_toArray, List.set_cons_zero, List.set_cons_succ]
        refine wpAnyH_take (i := 4) (v := .slice ta tn tc) rfl (by kernel_rfl) (by kernel_rfl) (by kernel_rfl) (fun _ _ _ h => h) (Or.inl ⟨by rfl, ?_⟩) HSD.out ?_
        · (intro w hSw; obtain ⟨hs7, hs0⟩ := hSw; go_simp)
        try simp only [Act.put, List.setIfInBounds_toArray, List.set_cons_zero, List.set_cons_succ]
        refine wpAnyH_take (i := 5) (v := .pointer (some ⟨gs, 0, none⟩)) rfl (by kernel_rfl) (by kernel_rfl) (by kernel_rfl) (fun _ _ _ h => h) (Or.inl ⟨by rfl, ?_⟩) HSD.out ?_
        · (intro w hSw; obtain ⟨hs7, hs0⟩ := hSw; go_simp)
        try simp only [Act.put, List.setIfInBounds_toArray, List.set_cons_zero, List.set_cons_succ]
        refine wpAnyH_take (i := 6) (v := .pointer (some ⟨gs, 0, none⟩)) rfl (by kernel_rfl) (by kernel_rfl) (by kernel_rfl) (fun _ _ _ h => h) (Or.inl ⟨by rfl, ?_⟩) HSD.out ?_
        · (intro w hSw; obtain ⟨hs7, hs0⟩ := hSw; go_simp)
        try simp only [Act.put, List.setIfInBounds_toArray, List.set_cons_zero, List.set_cons_succ]
        refine wpAnyH_take (i := 7) (v := .pointer (some ⟨gs, 0, none⟩)) rfl (by kernel_rfl) (by kernel_rfl) (by kernel_rfl) (fun _ _ _ h => h) (Or.inl ⟨by rfl, ?_⟩) HSD.out ?_
        · (intro w hSw; obtain ⟨hs7, hs0⟩ := hSw; go_simp)
        try simp only [Act.put, List.setIfInBounds_toArray, List.set_cons_zero, List.set_cons_succ]
        refine wpAnyH_take (i := 8) (v := .int .i64 st.at') rfl (by kernel_rfl) (by kernel_rfl) (by kernel_rfl) (fun _ _ _ h => h) (Or.inl ⟨by rfl, ?_⟩) HSD.out ?_
        · (intro w hSw; obtain ⟨hs7, hs0⟩ := hSw; go_simp)
        try simp only [Act.put, List.setIfInBounds_toArray, List.set_cons_zero, List.set_cons_succ]
        refine wpAnyH_take (i := 9) (v := .pointer (some ⟨gr, 0, none⟩)) rfl (by kernel_rfl) (by kernel_rfl) (by kernel_rfl) (fun _ _ _ h => h) (Or.inl ⟨by rfl, ?_⟩) HSD.out ?_
        · (intro w hSw; obtain ⟨hs7, hs0⟩ := hSw; go_simp)
        try simp only [Act.put, List.setIfInBounds_toArray, List.set_cons_zero, List.set_cons_succ]
        refine wpAnyH_one 10 (by kernel_rfl) rfl rfl ?_
        go_wp2_with fail
        refine (HSG.out _ (HS2.out.1.rd.below (below_drewN w2 w2.heap.size 1))).mono ?_
        rintro e w3 ⟨rfl, h3, g3⟩
        have HS3 : Hid (StR w3 gr gc gs w.heap.size L ss { st with goal := bt, keys := ks ++ [k], tgts := ts } (some ⟨b1, 0, none⟩) (j + 1 + 1) d1 ta tn tc ∧ Gx w w3 [gc, gs]) := Lib.hid ⟨(HS2.out.1.below (below_drewN w2 w2.heap.size 1)).moved h3 g3, HS2.out.2.trans ((Gx.of_below (below_drewN w2 w2.heap.size 1)).trans ((Gx.of_grown g3).mono (by simp)))⟩
        clear h3 g3 HSD
        go_wp2
        unfold OneQ
        refine ⟨rfl, ⟨HS3.out.1.blk.cell (i := 7) rfl, HS3.out.1.blk.cell (i := 0) rfl⟩, ?_⟩
        try simp only [Act.put, List.setIfInBounds_toArray, List.set_cons_zero, List.set_cons_succ]
        refine wpAnyH_one 11 (by kernel_rfl) rfl rfl ?_
        go_wp2
        unfold OneQ
        refine ⟨rfl, ⟨HS3.out.1.blk.cell (i := 7) rfl, HS3.out.1.blk.cell (i := 0) rfl⟩, ?_⟩
        try simp only [Act.put, List.setIfInBounds_toArray, List.set_cons_zero, List.set_cons_succ]
        refine wpAnyH_one 12 (by kernel_rfl) rfl rfl ?_
        go_wp2
        unfold OneQ
        refine ⟨rfl, ⟨(HS3.out.1.below (below_alloc _ _)).blk.cell (i := 7) rfl, (HS3.out.1.below (below_alloc _ _)).blk.cell (i := 0) rfl⟩, ?_⟩
        try simp only [Act.put, List.setIfInBounds_toArray, List.set_cons_zero, List.set_cons_succ]
        refine wpAnyH_one 13 (by kernel_rfl) rfl rfl ?_
        (refine wpList_pushL slIntE rfl _ _ rfl rfl rfl HS3.out.1.tgts (st.at' + sv) ⟨w3.heap.size, 0, none⟩ rfl (cell_push rfl _ _) rfl (by omega) (by unfold maxLen; omega) HS3.out.1.le.2.2.2.2 ?_; intro b4 d4 w4 hown4 hg4 hat4; have HP4 := Lib.hid (HS3.out.1.pushT hown4 hg4 hat4); clear hown4 hg4 hat4)
        unfold OneQ
        refine ⟨rfl, ⟨HP4.out.1.cell (i := 7) rfl, HP4.out.1.cell (i := 0) rfl⟩, ?_⟩
        try simp only [Act.put, List.setIfInBounds_toArray, List.set_cons_zero, List.set_cons_succ]
        refine wpAnyH_done (by kernel_rfl) ?_ _
        have r7 : w4.cell? ⟨gs, 7, none⟩ = some (.slice ta tn tc) := HP4.out.1.cell (i := 7) rfl
        have f7 := HP4.out.1.frozen 7
        have HS5 := Lib.hid (And.intro HP4.out.2.1 (HP4.out.2.2 w [gc, gs] HS3.out.2 (Nat.le_refl _) (by simp)))
        clear HP4
        unfold splitQ
        simp only
        go_wp2
        refine NoPanic.normal ?_
        clear r7 f7
        generalize w4.setCell ⟨gs, 7, none⟩ (.slice (some ⟨b4, 0, none⟩) (tn + 1) d4) = w5 at *
        go_wp2
        go_roundw
        case rel => exact ⟨f', j + 1 + 1, ks ++ [k], ts ++ [st.at' + sv], ss, _, _, _, _, _, by go_num, HP, by have h1 := HF.out; have h2 := HQ.out; have h3 := HQ2.out; have h4 := HPL.out; have h5 := HQ3.out; have h6 := HQ4.out; (try simp only at h2 h3 h5 h6); split <;> omega, by omega, HS5.out.1, HS5.out.2⟩
        case measure =>
          rw [HM.out, msC_eq HS5.out.1.rd.cur]
          have h2 := HQ.out
          have h3 := HQ2.out
          have h4 := HPL.out
          have h5 := HQ3.out
          have h6 := HQ4.out
          try simp only at h2 h3 h5 h6
          split
          · rename_i he; have h7 := h5 he; have := h2 h7.1; omega
          · omega
    · have HR : Hid (lokK L st.at' nv (L.length + 3) 0 [] [] (isC (decide (0 ≤ nv)) ns) = ((ks, ts), s')) := Lib.hid (by
        rw [← hrest.out]
        cases f with
        | zero => rfl
        | succ f => rw [lokK, if_neg hx])
      have HF : Hid (TblPost gr gc gs L w res (.returned (.tuple #[])) wr) := Lib.hid ⟨rfl, by rw [HTOT.out, HR.out]; exact ⟨ka, i, kc, ta, tn, tc, HS.out.1⟩, HS.out.2⟩
      clear hrest hf
      by_cases hk1 : (i : Int) < nv
      · have g1 : decide ((i : Int) < nv) = true := decide_eq_true hk1
        have g2 : (s'.e == 0) = false := by
          have : ¬ s'.e = 0 := fun h => hx ⟨hk1, h⟩
          simpa using this
        clear hx
        go_wp2_with fail
        refine HE.out.mono ?_
        rintro e w' ⟨rfl, hw⟩
        subst hw
        go_wp2
        go_end0
        exact HF.out
      · have g1 : decide ((i : Int) < nv) = false := decide_eq_false hk1
        clear hx
        go_wp2
        go_end0
        exact HF.out
end
end Go.Proofs.Ytgcdeadfkljeaaa
