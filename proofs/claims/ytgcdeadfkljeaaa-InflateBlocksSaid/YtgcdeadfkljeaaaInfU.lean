/- The document's blocks answer as the program's. -/
import Derived.Test.YtgcdeadfkljeaaaInfT
import Derived.Test.YtgcdeadfkljeaaaInfL
import Derived.Test.YtgcdeadfkljeaaaRef01W
import Derived.Test.YtgcdeadfkljeaaaBuf
import Derived.Lib.SlBytesConst
namespace Go.Proofs.Ytgcdeadfkljeaaa
open Go.RowKit
set_option linter.unusedVariables false
set_option linter.unusedSimpArgs false

theorem runK_out (L : List UInt8) (x : Int) (acc : List Int) (s : IS) : (runK L x acc s).2.out = s.out := by
  unfold runK
  repeat' split
  all_goals first | (rw [failS_out]; exact bitsK_out _ _ _) | exact bitsK_out _ _ _ | rfl
theorem lenStep_out (L : List UInt8) (l : List Int) (n : Nat) (acc : List Int) (s : IS) : (lenStep L l n acc s).2.out = s.out := by
  unfold lenStep
  simp only
  split
  · rw [failS_out, runK_out, signK_out]
  · rw [runK_out, signK_out]
theorem lensK_out (L : List UInt8) (l : List Int) (n : Nat) : ∀ (k : Nat) (acc : List Int) (s : IS), (lensK L l n k acc s).2.out = s.out
  | 0, acc, s => rfl
  | k+1, acc, s => by
    unfold lensK
    split
    · split
      · exact lenStep_out _ _ _ _ _
      · rw [lensK_out L l n k, lenStep_out]
    · rfl
theorem hdrK_out (L : List UInt8) (s : IS) : ∀ k, (hdrK L k s).2.out = s.out
  | 0 => rfl
  | k+1 => by
    rw [hdrK]
    show (bitsK L 3 (hdrK L k s).2).2.out = s.out
    rw [bitsK_out, hdrK_out L s k]
theorem dynJ_out (L : List UInt8) (s : IS) : (dynJ L s).2.out = s.out := by
  unfold dynJ
  simp only
  split
  · rw [failS_out, bitsK_out, bitsK_out, bitsK_out]
  · split
    · rw [failS_out, hdrK_out, bitsK_out, bitsK_out, bitsK_out]
    · split
      · rw [lensK_out, hdrK_out, bitsK_out, bitsK_out, bitsK_out]
      · show (lensK _ _ _ _ _ _).2.out = s.out
        rw [lensK_out, hdrK_out, bitsK_out, bitsK_out, bitsK_out]
theorem signsK_out {L : List UInt8} {most : Int} {la lb : List Int} : ∀ (k : Nat) (s : IS), (s.out.length : Int) ≤ most → ((signsK L most la lb k s).out.length : Int) ≤ most
  | 0, s, h => h
  | k+1, s, h => by
    unfold signsK
    split
    · exact h
    · split
      · rw [signK_out]; exact h
      · split
        · exact signsK_out k _ (copyK_out (by rw [signK_out]; exact h))
        · split
          · exact signsK_out k _ (by rw [failS_out, signK_out]; exact h)
          · rename_i hr
            rw [Bool.not_eq_false] at hr
            unfold roomK at hr
            rw [signK_out] at hr
            simp only [Bool.and_eq_true, decide_eq_true_eq] at hr
            refine signsK_out k _ ?_
            show (((signK L la s).2.out ++ _).length : Int) ≤ most
            rw [signK_out, List.length_append]
            simp only [List.length_singleton]
            omega
theorem storedK_out {L : List UInt8} {most : Int} {s : IS} (h : (s.out.length : Int) ≤ most) : ((storedK L most s).out.length : Int) ≤ most := by
  have h2 : (bitsK L 16 (bitsK L 16 { s with p := alignN s.p }).2).2.out = s.out := by rw [bitsK_out, bitsK_out]
  unfold storedK
  simp only
  split
  · rw [h2]; exact h
  · split
    · rw [failS_out, h2]; exact h
    · split
      · rw [failS_out, h2]; exact h
      · rename_i hr
        rw [Bool.not_eq_false] at hr
        unfold roomK at hr
        rw [h2] at hr
        simp only [Bool.and_eq_true, decide_eq_true_eq] at hr
        show ((_ ++ rdTakeL _ _ _).length : Int) ≤ most
        rw [h2, List.length_append]
        have : (rdTakeL L (bitsK L 16 (bitsK L 16 { s with p := alignN s.p }).2).2.p ((bitsK L 16 { s with p := alignN s.p }).1 : Nat)).length ≤ (bitsK L 16 { s with p := alignN s.p }).1 := by
          unfold rdTakeL; split
          · rw [List.length_take, Int.toNat_natCast]; omega
          · simp
        omega
theorem signsJ_out {L : List UInt8} {most : Int} {la lb : List Int} {s : IS} (h : (s.out.length : Int) ≤ most) : ((signsJ L most la lb s).out.length : Int) ≤ most := by
  unfold signsJ
  split
  · rw [failS_out]; exact h
  · exact signsK_out _ _ h
theorem failS_bad {x : Int} {s : IS} (h : s.e ≠ 0) : failS x s = s := by unfold failS; rw [if_neg h]
theorem signsJ_bad {L : List UInt8} {most : Int} {la lb : List Int} {s : IS} (h : s.e ≠ 0) : signsJ L most la lb s = s := by
  unfold signsJ
  split
  · exact failS_bad h
  · exact signsK_bad h
theorem hdrK_bad {L : List UInt8} {s : IS} (h : s.e ≠ 0) : ∀ k, (hdrK L k s).2 = s
  | 0 => rfl
  | k+1 => by
    rw [hdrK]
    show (bitsK L 3 (hdrK L k s).2).2 = s
    rw [hdrK_bad h k]
    unfold bitsK; rw [if_neg h]
theorem lensK_bad {L : List UInt8} {l : List Int} {n : Nat} {s : IS} (hse0 : s.e ≠ 0) : (lensK L l n (n + 1) [] s).2 = s := by
  unfold lensK
  by_cases hn1 : ([] : List Int).length < n
  · rw [if_pos hn1]
    have hst : (lenStep L l n [] s).2 = s := by
      unfold lenStep
      have hsk : signK L l s = (0, s) := by unfold signK; rw [if_neg hse0]
      simp only [hsk]
      have hrk : runK L 0 [] s = ((0, 1), s) := by unfold runK; rw [if_neg (by decide), if_neg (by decide), if_neg (by decide)]
      rw [hrk]
      simp only
      split
      · unfold failS; rw [if_neg hse0]
      · rfl
    rw [hst, if_pos hse0]
  · rw [if_neg hn1]
theorem fix_eq (L : List UInt8) (most : Int) (s : IS) : signsJ L most fixA fixB s = signsK L most fixA fixB (8 * L.length + 1) s := by
  unfold signsJ
  rw [if_neg]
  intro h
  rcases h with h | h | h
  · exact kind_fixA h
  · exact kind_fixB h
  · rw [show fixA = List.replicate 144 8 ++ List.replicate 112 9 ++ List.replicate 24 7 ++ List.replicate 8 8 from rfl, fixA_at 256 7 (by omega)] at h
    cases h
theorem dyn_eq (L : List UInt8) (most : Int) (s : IS) : signsJ L most (dynJ L s).1.1 (dynJ L s).1.2 (dynJ L s).2 = signsK L most (dynK L s).1.1 (dynK L s).1.2 (8 * L.length + 1) (dynK L s).2 := by
  unfold dynJ dynK
  simp only
  generalize bitsK L 4 (bitsK L 5 (bitsK L 5 s).2).2 = c
  generalize (bitsK L 5 (bitsK L 5 s).2).1 = vb
  generalize (bitsK L 5 s).1 = va
  by_cases hc : c.2.e = 0
  · by_cases hm : va + 257 > 286 ∨ vb + 1 > 30
    · simp only [if_pos hm, if_pos (And.intro hc hm), if_pos (failS_ne (x := 4) (by decide) c.2)]
      rw [signsJ_bad (failS_ne (by decide) _), signsK_bad (failS_ne (by decide) _)]
    · simp only [if_neg hm, if_neg (fun h : c.2.e = 0 ∧ (va + 257 > 286 ∨ vb + 1 > 30) => hm h.2), if_neg (show ¬ c.2.e ≠ 0 by simpa using hc)]
      generalize hdrK L (c.1 + 4) c.2 = h
      by_cases hh : h.2.e = 0
      · simp only [if_neg (show ¬ h.2.e ≠ 0 by simpa using hh)]
        by_cases hk : kindS h.1 = 0
        · have e1 : codeK h.1 h.2 = failS 12 h.2 := by unfold codeK; rw [if_pos hk]
          simp only [e1, if_pos hk, if_pos (failS_ne (x := 12) (by decide) h.2)]
          rw [signsJ_bad (failS_ne (by decide) _), signsK_bad (failS_ne (by decide) _)]
        · have e1 : codeK h.1 h.2 = h.2 := by unfold codeK; rw [if_neg hk]
          simp only [e1, if_neg hk, if_neg (show ¬ h.2.e ≠ 0 by simpa using hh)]
          generalize lensK L h.1 (va + 257 + (vb + 1)) (va + 257 + (vb + 1) + 1) [] h.2 = r
          by_cases hr : r.2.e = 0
          · simp only [if_neg (show ¬ r.2.e ≠ 0 by simpa using hr)]
            have hg : (r.1.take (va + 257)).getD 256 0 = r.1.getD 256 0 := by
              rw [List.getD_eq_getElem?_getD, List.getD_eq_getElem?_getD, List.getElem?_take, if_pos (by omega)]
            by_cases hz : r.1.getD 256 0 = 0
            · simp only [if_pos (And.intro hr hz), if_pos (failS_ne (x := 12) (by decide) r.2)]
              rw [signsK_bad (failS_ne (by decide) _)]
              unfold signsJ
              rw [if_pos (.inr (.inr (by rw [hg]; exact hz)))]
            · simp only [if_neg (fun h : r.2.e = 0 ∧ r.1.getD 256 0 = 0 => hz h.2), if_neg (show ¬ r.2.e ≠ 0 by simpa using hr)]
              unfold signsJ
              rw [hg]
              by_cases ha : kindS (r.1.take (va + 257)) = 0
              · have e2 : codeK (r.1.take (va + 257)) r.2 = failS 12 r.2 := by unfold codeK; rw [if_pos ha]
                have e3 : codeK (r.1.drop (va + 257)) (failS 12 r.2) = failS 12 r.2 := by
                  unfold codeK; split
                  · exact failS_bad (failS_ne (by decide) _)
                  · rfl
                rw [if_pos (.inl ha), e2, e3, signsK_bad (failS_ne (by decide) _)]
              · have e2 : codeK (r.1.take (va + 257)) r.2 = r.2 := by unfold codeK; rw [if_neg ha]
                by_cases hb : kindS (r.1.drop (va + 257)) = 0
                · have e3 : codeK (r.1.drop (va + 257)) r.2 = failS 12 r.2 := by unfold codeK; rw [if_pos hb]
                  rw [if_pos (.inr (.inl hb)), e2, e3, signsK_bad (failS_ne (by decide) _)]
                · have e3 : codeK (r.1.drop (va + 257)) r.2 = r.2 := by unfold codeK; rw [if_neg hb]
                  rw [if_neg (fun h => h.elim ha (fun h => h.elim hb hz)), e2, e3]
          · simp only [if_pos (show r.2.e ≠ 0 from hr), if_neg (fun h : r.2.e = 0 ∧ r.1.getD 256 0 = 0 => hr h.1)]
            rw [signsJ_bad hr, signsK_bad hr]
      · simp only [if_pos (show h.2.e ≠ 0 from hh), lensK_bad hh]
        rw [signsK_bad hh]
        split
        · simp only [failS_bad hh]; exact signsJ_bad hh
        · exact signsJ_bad hh
  · simp only [if_neg (fun h : c.2.e = 0 ∧ (va + 257 > 286 ∨ vb + 1 > 30) => hc h.1), if_pos (show c.2.e ≠ 0 from hc), hdrK_bad hc, lensK_bad hc, failS_bad hc]
    rw [signsK_bad hc]
    repeat' split
    all_goals exact signsJ_bad hc
/-- One block's content by its kind. -/
noncomputable def kindJ (L : List UInt8) (most : Int) (k : Nat) (s : IS) : IS :=
  if k = 0 then storedK L most s else if k = 1 then signsJ L most fixA fixB s else if k = 2 then signsJ L most (dynJ L s).1.1 (dynJ L s).1.2 (dynJ L s).2 else failS 2 s
theorem kindJ_out {L : List UInt8} {most : Int} {k : Nat} {s : IS} (h : (s.out.length : Int) ≤ most) : ((kindJ L most k s).out.length : Int) ≤ most := by
  unfold kindJ
  split
  · exact storedK_out h
  · split
    · exact signsJ_out h
    · split
      · exact signsJ_out (by rw [dynJ_out]; exact h)
      · rw [failS_out]; exact h
theorem kindJ_p (L : List UInt8) (most : Int) (k : Nat) (s : IS) : s.p ≤ (kindJ L most k s).p := by
  unfold kindJ
  split
  · exact storedK_p _ _ _
  · split
    · rw [fix_eq]; exact signsK_p _ _ _ _ _ _
    · split
      · rw [dyn_eq]; exact Nat.le_trans (dynK_p L s) (signsK_p _ _ _ _ _ _)
      · rw [failS_p]; exact Nat.le_refl _
theorem blockK_J (L : List UInt8) (most : Int) (s : IS) : blockK L most s =
    if (bitsK L 2 (bitsK L 1 s).2).2.e ≠ 0 then (true, (bitsK L 2 (bitsK L 1 s).2).2) else
      (decide ((bitsK L 1 s).1 = 1) || decide ((kindJ L most (bitsK L 2 (bitsK L 1 s).2).1 (bitsK L 2 (bitsK L 1 s).2).2).e ≠ 0), kindJ L most (bitsK L 2 (bitsK L 1 s).2).1 (bitsK L 2 (bitsK L 1 s).2).2) := by
  unfold blockK kindJ
  simp only [fix_eq, dyn_eq]
theorem blocksK_J (L : List UInt8) (most : Int) (k : Nat) (s : IS) : blocksK L most (k + 1) s =
    if (bitsK L 2 (bitsK L 1 s).2).2.e ≠ 0 then (bitsK L 2 (bitsK L 1 s).2).2 else
      if (bitsK L 1 s).1 = 1 ∨ (kindJ L most (bitsK L 2 (bitsK L 1 s).2).1 (bitsK L 2 (bitsK L 1 s).2).2).e ≠ 0 then kindJ L most (bitsK L 2 (bitsK L 1 s).2).1 (bitsK L 2 (bitsK L 1 s).2).2
      else blocksK L most k (kindJ L most (bitsK L 2 (bitsK L 1 s).2).1 (bitsK L 2 (bitsK L 1 s).2).2) := by
  show (if (blockK L most s).1 then (blockK L most s).2 else blocksK L most k (blockK L most s).2) = _
  rw [blockK_J]
  by_cases h : (bitsK L 2 (bitsK L 1 s).2).2.e ≠ 0
  · simp only [if_pos h, if_true]
  · simp only [if_neg h, Bool.or_eq_true, decide_eq_true_eq]
theorem bits12 {L : List UInt8} {s : IS} (h : (bitsK L 2 (bitsK L 1 s).2).2.e = 0) : s.p < (bitsK L 2 (bitsK L 1 s).2).2.p := by
  have h7 := bitsK_ok h
  have h8 := bitsK_ok h7.1
  simp at h7 h8
  rw [h7.2, h8.2]; omega
end Go.Proofs.Ytgcdeadfkljeaaa
/- The document's Inflate. -/
namespace Go.Proofs.Ytgcdeadfkljeaaa
open Go.RowKit
set_option linter.unusedVariables false
set_option linter.unusedSimpArgs false

set_option maxRecDepth 100000 in
set_option maxHeartbeats 16000000 in
theorem rinfl_any (a : Option Addr) (n c : Nat) (l : List UInt8) (most : Int) (w : World) (hl : l.length = n) (hn : n ≤ 1000000) (hr : Rd w bE a l) (hmr : -9223372036854775808 ≤ most ∧ most ≤ 9223372036854775807) :
  Calls Try.prog 11 #[.slice a n c, .int .i64 most] w (InfPost w (inflK l most)) := by
  have mixed : Try.prog.follows .mixedOrders = true := by kernel_rfl
  have HN := Lib.hid (of_any a n c l w hl (by omega) hr)
  have HLN := Lib.hid hl
  clear hl hr
  by_cases h1 : most < 0
  · have HF : Hid (inflK l most = ([], 0, 1)) := Lib.hid (by unfold inflK; rw [if_pos (.inl h1)])
    go_enter Try.func11, Try.ntmps11
    go_wp2_with fail
    refine bodyPost_ret (results3 rfl _ _ _) rfl ?_
    rw [HF.out]
    exact ⟨none, 0, 0, rfl, rfl, ⟨Nat.le_refl _, Nat.zero_le _⟩, Rd.nil, Below.refl _ _⟩
  by_cases h2 : 16777216 < most
  · have HF : Hid (inflK l most = ([], 0, 1)) := Lib.hid (by unfold inflK; rw [if_pos (.inr h2)])
    go_enter Try.func11, Try.ntmps11
    go_wp2_with fail
    refine bodyPost_ret (results3 rfl _ _ _) rfl ?_
    rw [HF.out]
    exact ⟨none, 0, 0, rfl, rfl, ⟨Nat.le_refl _, Nat.zero_le _⟩, Rd.nil, Below.refl _ _⟩
  obtain ⟨tot, htot⟩ : ∃ t, t = blocksK l most (8 * l.length + 1) ⟨0, [], 0⟩ := ⟨_, rfl⟩
  have HI : Hid (inflK l most = if tot.e ≠ 0 then ([], 0, tot.e) else (tot.out, (tot.p + 7) / 8, 0)) := Lib.hid (by unfold inflK; rw [if_neg (by omega), htot])
  have HT := Lib.hid htot
  clear htot
  have hmost : 0 ≤ most ∧ most ≤ 16777216 := by omega
  go_enter Try.func11, Try.ntmps11
  go_wp2_with fail
  refine HN.out.mono ?_
  rintro e w1 ⟨a1, c1, rfl, hown, hb1⟩
  have hcl := hown.le_cap
  have hcm := hown.cap_max
  unfold maxLen at hcm
  obtain ⟨wm, hwm⟩ : ∃ x, x = w1.alloc (.cells #[.slice a1 (8 * n) c1, .int .i64 0] RRD) := ⟨_, rfl⟩
  have hsz : wm.heap.size = w1.heap.size + 1 := by rw [hwm]; simp
  have hbm : Below w1.heap.size w1 wm := by rw [hwm]; exact below_alloc _ _
  have hrr : RrOk wm w1.heap.size l 0 := by
    refine ⟨a1, 8 * n, c1, by rw [hwm]; exact Blk.new _ _ _, by rw [HLN.out], hcl, ⟨by omega, by omega, Bnd.of_rd hown.rd⟩, hown.rd.below hbm, Nat.zero_le _⟩
  have hb2 := below_alloc wm (.cells #[.pointer (some ⟨w1.heap.size, 0, none⟩), .slice none 0 0, .int .i64 most, .int .i64 0] JTT)
  have H2 : Hid (JSt (wm.alloc (.cells #[.pointer (some ⟨w1.heap.size, 0, none⟩), .slice none 0 0, .int .i64 most, .int .i64 0] JTT)) w.heap.size (w1.heap.size + 1 + 1) (w1.heap.size + 1) w1.heap.size l most ⟨0, [], 0⟩ ∧ Below w.heap.size w (wm.alloc (.cells #[.pointer (some ⟨w1.heap.size, 0, none⟩), .slice none 0 0, .int .i64 most, .int .i64 0] JTT))) := Lib.hid (by
    have hs1 := hb1.size
    refine ⟨⟨⟨none, 0, 0, ?_, Own.nil⟩, hrr.below hb2, by omega, by omega, by omega, by omega, by omega, by simp [hsz]⟩, (hb1.trans (hbm.mono hs1)).trans (hb2.mono (by omega))⟩
    have := Blk.new wm JTT #[.pointer (some ⟨w1.heap.size, 0, none⟩), .slice none 0 0, .int .i64 most, .int .i64 0]
    rwa [hsz] at this)
  rw [hwm] at H2
  clear hown hb1 HN hcl hcm hsz hbm hrr hb2 hwm
  go_wp2_with fail
  obtain ⟨w2, hw2⟩ : ∃ w2, w2 = (w1.alloc (.cells #[.slice a1 (8 * n) c1, .int .i64 0] RRD)).alloc (.cells #[.pointer (some ⟨w1.heap.size, 0, none⟩), .slice none 0 0, .int .i64 most, .int .i64 0] JTT) := ⟨_, rfl⟩
  obtain ⟨gs, hgs⟩ : ∃ g, g = w1.heap.size + 1 := ⟨_, rfl⟩
  obtain ⟨gr, hgr⟩ : ∃ g, g = w1.heap.size := ⟨_, rfl⟩
  rw [← hw2, ← hgs, ← hgr] at H2
  rw [← hw2, ← hgs]
  clear hw2 hgs hgr
  obtain ⟨B, hB⟩ : ∃ B, B = gs + 1 := ⟨_, rfl⟩
  rw [← hB] at H2
  clear hB
  go_loopw [8] (fun x8 wr => ∃ (k : Nat) (s' : IS) (lst : Int), x8 = .int .i64 lst ∧ Hid (JSt wr w.heap.size B gs gr l most s' ∧ Below w.heap.size w wr) ∧ Hid ((lst = 0 ∧ s'.e = 0 → tot = blocksK l most k s') ∧ (¬ (lst = 0 ∧ s'.e = 0) → tot = s')) ∧ Hid (8 * l.length - s'.p < k) ∧ Hid ((s'.out.length : Int) ≤ most)) (fun _ wr => 8 * l.length - cntG gr wr)
  case atStart => exact ⟨8 * l.length + 1, ⟨0, [], 0⟩, 0, rfl, H2, Lib.hid ⟨fun _ => HT.out, fun h => absurd ⟨rfl, rfl⟩ h⟩, Lib.hid (by simp), Lib.hid (by simpa using hmost.1)⟩
  case round =>
    clear H2 HT
    obtain ⟨k, s', lst, rfl, hW, hK, hF, hM⟩ := hrel
    by_cases hgo : lst = 0 ∧ s'.e = 0
    · obtain ⟨rfl, he0⟩ := hgo
      obtain ⟨k', rfl⟩ : ∃ k', k = k' + 1 := ⟨k - 1, by have := hF.out; omega⟩
      have HKK : Hid (tot = if (bitsK l 2 (bitsK l 1 s').2).2.e ≠ 0 then (bitsK l 2 (bitsK l 1 s').2).2 else
        if (bitsK l 1 s').1 = 1 ∨ (kindJ l most (bitsK l 2 (bitsK l 1 s').2).1 (bitsK l 2 (bitsK l 1 s').2).2).e ≠ 0 then kindJ l most (bitsK l 2 (bitsK l 1 s').2).1 (bitsK l 2 (bitsK l 1 s').2).2
        else blocksK l most k' (kindJ l most (bitsK l 2 (bitsK l 1 s').2).1 (bitsK l 2 (bitsK l 1 s').2).2)) := Lib.hid (by rw [hK.out.1 ⟨rfl, he0⟩]; exact blocksK_J l most k' s')
      obtain ⟨q, m, d, c0, c1', c2, c3, f3, -⟩ := hW.out.1.cells
      rw [he0] at c3
      clear c0 c1' c2 f3 hK he0
      have hcn := hW.out.1.rd.cntj
      have hp12 := bits12 (L := l) (s := s')
      have HO2 : Hid ((((bitsK l 2 (bitsK l 1 s').2).2.out).length : Int) ≤ most) := Lib.hid (by rw [bitsK_out, bitsK_out]; exact hM.out)
      have HV1 : Hid ((bitsK l 1 s').1 < 2) := Lib.hid (bitsK_lt l 1 (by decide) s')
      have HB1 := Lib.hid (jGet_any 1 wr hW.out.1 (by decide))
      unfold SjPost at HB1
      generalize bitsK l 1 s' = b1 at *
      obtain ⟨va, s1⟩ := b1
      simp only at HB1 HV1 HKK hp12 HO2
      go_wp2_with fail
      refine HB1.out.mono ?_
      rintro e w3 ⟨rfl, h3, k3⟩
      have H3 : Hid (JSt w3 w.heap.size B gs gr l most s1 ∧ Below w.heap.size w w3) := Lib.hid ⟨h3, hW.out.2.trans k3.bel⟩
      clear h3 k3 HB1 hW c3 hM
      have HV2 : Hid ((bitsK l 2 s1).1 < 4) := Lib.hid (bitsK_lt l 2 (by decide) s1)
      have HB2 := Lib.hid (jGet_any 2 w3 H3.out.1 (by decide))
      unfold SjPost at HB2
      generalize bitsK l 2 s1 = b2 at *
      obtain ⟨vk, s2⟩ := b2
      simp only at HB2 HV2 HKK hp12 HO2
      go_wp2_with fail
      refine HB2.out.mono ?_
      rintro e w4 ⟨rfl, h4, k4⟩
      have H4 : Hid (JSt w4 w.heap.size B gs gr l most s2 ∧ Below w.heap.size w w4) := Lib.hid ⟨h4, H3.out.2.trans k4.bel⟩
      obtain ⟨q2, m2, d2, -, -, -, e3, -, -⟩ := h4.cells
      have hp4 := h4.rd.len.2
      clear h4 k4 HB2 H3
      by_cases he : s2.e = 0
      · have hlt := hp12 he
        rw [he] at e3
        simp only [if_neg (show ¬ s2.e ≠ 0 by simpa using he)] at HKK
        have HE := Lib.hid he
        have HNX : Hid (∀ s9 : IS, kindJ l most vk s2 = s9 → ((va : Int) = 0 ∧ s9.e = 0 → tot = blocksK l most k' s9) ∧ (¬ ((va : Int) = 0 ∧ s9.e = 0) → tot = s9)) := Lib.hid (by
          intro s9 h9
          rw [h9] at HKK
          have hv := HV1.out
          constructor
          · rintro ⟨h1, h2⟩
            rw [HKK.out, if_neg (by rintro (h | h); omega; exact h h2)]
          · intro h
            rw [HKK.out, if_pos]
            by_cases h5 : s9.e = 0
            · left
              by_cases h6 : va = 1
              · exact h6
              · exact absurd ⟨by omega, h5⟩ h
            · exact .inr h5)
        have hv4 := HV2.out
        have hkp := kindJ_p l most vk s2
        have hko := kindJ_out (L := l) (k := vk) HO2.out
        have HOUT := HO2
        clear he HKK hp12 HO2
        have hcase : vk = 0 ∨ vk = 1 ∨ vk = 2 ∨ vk = 3 := by omega
        rcases hcase with rfl | rfl | rfl | rfl
        · go_wp2_with fail
          refine (jStored_any w4 H4.out.1 hmost).mono ?_
          rintro e w5 ⟨rfl, h5, k5⟩
          have HR9 : Hid (JSt w5 w.heap.size B gs gr l most (kindJ l most 0 s2) ∧ Below w.heap.size w w5) := Lib.hid ⟨h5, H4.out.2.trans k5.bel⟩
          clear h5 k5
          have hcn9 := HR9.out.1.rd.cntj
          have hp9 := HR9.out.1.rd.len.2
          have HNX9 := Lib.hid (HNX.out _ rfl)
          generalize kindJ l most 0 s2 = s9 at *
          have HM9 := Lib.hid hko
          clear hko HNX H4 e3
          go_wp2_with fail
          go_roundw
          case rel => exact ⟨k', s9, (va : Int), rfl, HR9, HNX9, Lib.hid (by have := hF.out; omega), HM9⟩
          case measure => rw [hcn9, hcn]; omega
        · go_wp2_with fail
          refine (rFixed_any w4).mono ?_
          rintro e w5 ⟨p1, d1, p2, d2', rfl, hf1, hf2, hb5⟩
          have H5 : Hid (JSt w5 w.heap.size B gs gr l most s2 ∧ Below w.heap.size w w5) := Lib.hid ⟨H4.out.1.below hb5, H4.out.2.trans (hb5.mono H4.out.2.size)⟩
          have HF1 := Lib.hid hf1
          have HF2 := Lib.hid hf2
          clear hf1 hf2 hb5
          go_wp2_with fail
          refine (jSigns_any p1 p2 288 d1 32 d2' fixA fixB w5 H5.out.1 (fun _ => ⟨by simp [fixA], by decide, by decide, HF1.out⟩) (fun _ => ⟨by simp [fixB], by decide, HF2.out⟩) HOUT.out hmost).mono ?_
          rintro e w6 ⟨rfl, h6, k6⟩
          have HR9 : Hid (JSt w6 w.heap.size B gs gr l most (kindJ l most 1 s2) ∧ Below w.heap.size w w6) := Lib.hid ⟨h6, H5.out.2.trans k6.bel⟩
          clear h6 k6 H5 HF1 HF2
          have hcn9 := HR9.out.1.rd.cntj
          have hp9 := HR9.out.1.rd.len.2
          have HNX9 := Lib.hid (HNX.out _ rfl)
          generalize kindJ l most 1 s2 = s9 at *
          have HM9 := Lib.hid hko
          clear hko HNX H4 e3
          go_wp2_with fail
          go_roundw
          case rel => exact ⟨k', s9, (va : Int), rfl, HR9, HNX9, Lib.hid (by have := hF.out; omega), HM9⟩
          case measure => rw [hcn9, hcn]; omega
        · go_wp2_with fail
          refine (jDyn_any w4 H4.out.1).mono ?_
          rintro e w5 ⟨h5, k5, p1, n1, d1, p2, n2, d2', rfl, hok⟩
          have H5 : Hid (JSt w5 w.heap.size B gs gr l most (dynJ l s2).2 ∧ Below w.heap.size w w5) := Lib.hid ⟨h5, H4.out.2.trans k5.bel⟩
          have HOK := Lib.hid hok
          clear h5 k5 hok
          go_wp2_with fail
          refine (jSigns_any p1 p2 n1 d1 n2 d2' (dynJ l s2).1.1 (dynJ l s2).1.2 w5 H5.out.1 (fun h => (HOK.out h).1) (fun h => (HOK.out h).2) (by rw [dynJ_out]; exact HOUT.out) hmost).mono ?_
          rintro e w6 ⟨rfl, h6, k6⟩
          have HR9 : Hid (JSt w6 w.heap.size B gs gr l most (kindJ l most 2 s2) ∧ Below w.heap.size w w6) := Lib.hid ⟨h6, H5.out.2.trans k6.bel⟩
          clear h6 k6 H5 HOK
          have hcn9 := HR9.out.1.rd.cntj
          have hp9 := HR9.out.1.rd.len.2
          have HNX9 := Lib.hid (HNX.out _ rfl)
          generalize kindJ l most 2 s2 = s9 at *
          have HM9 := Lib.hid hko
          clear hko HNX H4 e3
          go_wp2_with fail
          go_roundw
          case rel => exact ⟨k', s9, (va : Int), rfl, HR9, HNX9, Lib.hid (by have := hF.out; omega), HM9⟩
          case measure => rw [hcn9, hcn]; omega
        · go_wp2_with fail
          refine (jFail_any 2 w4 H4.out.1).mono ?_
          rintro e w5 ⟨rfl, h5, k5⟩
          have HR9 : Hid (JSt w5 w.heap.size B gs gr l most (kindJ l most 3 s2) ∧ Below w.heap.size w w5) := Lib.hid ⟨h5, H4.out.2.trans k5.bel⟩
          clear h5 k5
          have hcn9 := HR9.out.1.rd.cntj
          have hp9 := HR9.out.1.rd.len.2
          have HNX9 := Lib.hid (HNX.out _ rfl)
          generalize kindJ l most 3 s2 = s9 at *
          have HM9 := Lib.hid hko
          clear hko HNX H4 e3
          go_wp2_with fail
          go_roundw
          case rel => exact ⟨k', s9, (va : Int), rfl, HR9, HNX9, Lib.hid (by have := hF.out; omega), HM9⟩
          case measure => rw [hcn9, hcn]; omega
      · have HX := H4
        have HTX : Hid (tot = s2) := Lib.hid (by rw [HKK.out]; simp only [if_pos (show s2.e ≠ 0 from he)])
        have heb : (s2.e != 0) = true := by simpa using he
        have HEX := Lib.hid he
        clear he HKK hp12 HO2 H4
        generalize s2 = sx at *
        generalize w4 = wx at *
        have HI2 : Hid (inflK l most = ([], 0, sx.e)) := Lib.hid (by rw [HI.out, HTX.out, if_pos HEX.out])
        go_wp2_with fail
        go_quiet (fail)
        go_wp2
        refine bodyPost_ret (results3 rfl _ _ _) rfl ?_
        rw [HI2.out]
        exact ⟨none, 0, 0, rfl, rfl, ⟨Nat.le_refl _, Nat.zero_le _⟩, Rd.nil, HX.out.2.trans ((below_drewN _ _ _).mono HX.out.2.size)⟩
    · have HX := hW
      have HTX := Lib.hid (hK.out.2 hgo)
      obtain ⟨q2, m2, d2, -, -, -, e3, -, -⟩ := hW.out.1.cells
      clear hK hF hM hW
      by_cases hls : lst = 0
      · have he : s'.e ≠ 0 := fun h => hgo ⟨hls, h⟩
        have heb0 : (s'.e == 0) = false := by simpa using he
        have heb : (s'.e != 0) = true := by simpa using he
        have HEX := Lib.hid he
        subst hls
        clear hgo he
        generalize s' = sx at *
        generalize wr = wx at *
        have HI2 : Hid (inflK l most = ([], 0, sx.e)) := Lib.hid (by rw [HI.out, HTX.out, if_pos HEX.out])
        go_wp2_with fail
        go_quiet (fail)
        go_wp2
        refine bodyPost_ret (results3 rfl _ _ _) rfl ?_
        rw [HI2.out]
        exact ⟨none, 0, 0, rfl, rfl, ⟨Nat.le_refl _, Nat.zero_le _⟩, Rd.nil, HX.out.2.trans ((below_drewN _ _ _).mono HX.out.2.size)⟩
      · have hlb : (lst == 0) = false := by simpa using hls
        clear hgo
        by_cases he : s'.e = 0
        · rw [he] at e3
          have HEX := Lib.hid he
          clear he
          generalize s' = sx at *
          generalize wr = wx at *
          have HI2 : Hid (inflK l most = (sx.out, (sx.p + 7) / 8, 0)) := Lib.hid (by rw [HI.out, HTX.out, if_neg (by simpa using HEX.out)])
          obtain ⟨qx, mx, dx, hbx, hox⟩ := HX.out.1.ex
          obtain ⟨ar, nr, cr, hrb, hr2, -, -, -, hr6⟩ := HX.out.1.rd.ex
          have x0 := hbx.cell (i := 0) rfl
          have x1 := hbx.cell (i := 1) rfl
          have xr := hrb.cell (i := 1) rfl
          have HOX := Lib.hid hox
          have hpx : sx.p ≤ 8000000 := by have := HLN.out; omega
          have gpa : IntKind.i64.wrap ((sx.p : Int) + 7) = (sx.p : Int) + 7 := IntWalk.i64_in _ (by omega)
          have gpd : IntKind.i64.wrap (((sx.p : Int) + 7) / 8) = (((sx.p + 7) / 8 : Nat) : Int) := by rw [IntWalk.i64_in _ (by omega)]; omega
          clear hbx hrb hox hr2 hr6
          go_wp2_with fail
          go_quiet (fail)
          go_wp2
          refine bodyPost_ret (results3 rfl _ _ _) rfl ?_
          rw [HI2.out]
          have hbd := below_drewN wx wx.heap.size nq
          exact ⟨qx, mx, dx, rfl, HOX.out.len, ⟨HOX.out.le_cap, HOX.out.cap_max⟩, HOX.out.rd.below hbd, HX.out.2.trans (hbd.mono HX.out.2.size)⟩
        · have heb0 : (s'.e == 0) = false := by simpa using he
          have heb : (s'.e != 0) = true := by simpa using he
          have HEX := Lib.hid he
          clear he
          generalize s' = sx at *
          generalize wr = wx at *
          have HI2 : Hid (inflK l most = ([], 0, sx.e)) := Lib.hid (by rw [HI.out, HTX.out, if_pos HEX.out])
          go_wp2_with fail
          go_quiet (fail)
          go_wp2
          refine bodyPost_ret (results3 rfl _ _ _) rfl ?_
          rw [HI2.out]
          exact ⟨none, 0, 0, rfl, rfl, ⟨Nat.le_refl _, Nat.zero_le _⟩, Rd.nil, HX.out.2.trans ((below_drewN _ _ _).mono HX.out.2.size)⟩
end Go.Proofs.Ytgcdeadfkljeaaa
/- Layer 6: fixed. -/
namespace Go.Proofs.Ytgcdeadfkljeaaa
open Go.RowKit
set_option linter.unusedVariables false
set_option linter.unusedSimpArgs false

theorem infl1 : inflK [3, 0] 10 = ([], 2, 0) := by
  have h1 : bitsK [3, 0] 1 ⟨0, [], 0⟩ = (1, ⟨1, [], 0⟩) := by kernel_rfl
  have h2 : bitsK [3, 0] 2 ⟨1, [], 0⟩ = (1, ⟨3, [], 0⟩) := by kernel_rfl
  have h3 : kindJ [3, 0] 10 1 ⟨3, [], 0⟩ = ⟨10, [], 0⟩ := by
    unfold kindJ
    rw [if_neg (by decide), if_pos rfl, fix_eq]
    kernel_rfl
  have hb : blocksK [3, 0] 10 (16 + 1) ⟨0, [], 0⟩ = ⟨10, [], 0⟩ := by
    rw [blocksK_J]
    simp only [h1, h2, h3]
    rw [if_neg (by decide), if_pos (.inl trivial)]
  unfold inflK
  rw [if_neg (by decide), show 8 * ([3, 0] : List UInt8).length + 1 = 16 + 1 from rfl, hb]
  rfl
theorem infl2 : inflK [1, 2, 0, 253, 255, 104, 105, 9] 10 = ([104, 105], 7, 0) := by
  have h1 : bitsK [1, 2, 0, 253, 255, 104, 105, 9] 1 ⟨0, [], 0⟩ = (1, ⟨1, [], 0⟩) := by kernel_rfl
  have h2 : bitsK [1, 2, 0, 253, 255, 104, 105, 9] 2 ⟨1, [], 0⟩ = (0, ⟨3, [], 0⟩) := by kernel_rfl
  have h3 : kindJ [1, 2, 0, 253, 255, 104, 105, 9] 10 0 ⟨3, [], 0⟩ = ⟨56, [104, 105], 0⟩ := by
    unfold kindJ
    rw [if_pos rfl]
    kernel_rfl
  have hb : blocksK [1, 2, 0, 253, 255, 104, 105, 9] 10 (64 + 1) ⟨0, [], 0⟩ = ⟨56, [104, 105], 0⟩ := by
    rw [blocksK_J]
    simp only [h1, h2, h3]
    rw [if_neg (by decide), if_pos (.inl trivial)]
  unfold inflK
  rw [if_neg (by decide), show 8 * ([1, 2, 0, 253, 255, 104, 105, 9] : List UInt8).length + 1 = 64 + 1 from rfl, hb]
  rfl
theorem infl3 : inflK [7] 10 = ([], 0, 2) := by
  have h1 : bitsK [7] 1 ⟨0, [], 0⟩ = (1, ⟨1, [], 0⟩) := by kernel_rfl
  have h2 : bitsK [7] 2 ⟨1, [], 0⟩ = (3, ⟨3, [], 0⟩) := by kernel_rfl
  have h3 : kindJ [7] 10 3 ⟨3, [], 0⟩ = ⟨3, [], 2⟩ := by
    unfold kindJ
    rw [if_neg (by decide), if_neg (by decide), if_neg (by decide)]
    kernel_rfl
  have hb : blocksK [7] 10 (8 + 1) ⟨0, [], 0⟩ = ⟨3, [], 2⟩ := by
    rw [blocksK_J]
    simp only [h1, h2, h3]
    rw [if_neg (by decide), if_pos (.inl trivial)]
  unfold inflK
  rw [if_neg (by decide), show 8 * ([7] : List UInt8).length + 1 = 8 + 1 from rfl, hb]
  rfl
theorem infl_call1 (a : Option Addr) (c : Nat) (w : World) (hr : Rd w bE a [3, 0]) : Calls Try.prog 10 #[.slice a 2 c, .int .i64 10] w fun e w' => ∃ p c', e = .returned (.tuple #[.slice p 0 c', .int .i64 2, .int .i64 0]) ∧ Below w.heap.size w w' := by
  refine (infl_any a 2 c [3, 0] 10 w rfl (by decide) hr (by decide)).mono ?_
  rw [infl1]
  rintro e w' ⟨p, n, c', rfl, hn, -, -, hb⟩
  have : 0 = n := hn
  subst this
  exact ⟨p, c', rfl, hb⟩
theorem infl_call2 (a : Option Addr) (c : Nat) (w : World) (hr : Rd w bE a [1, 2, 0, 253, 255, 104, 105, 9]) : Calls Try.prog 10 #[.slice a 8 c, .int .i64 10] w fun e w' => ∃ p c', e = .returned (.tuple #[.slice p 2 c', .int .i64 7, .int .i64 0]) ∧ Rd w' bE p [104, 105] ∧ Below w.heap.size w w' := by
  refine (infl_any a 8 c [1, 2, 0, 253, 255, 104, 105, 9] 10 w rfl (by decide) hr (by decide)).mono ?_
  rw [infl2]
  rintro e w' ⟨p, n, c', rfl, hn, -, hr, hb⟩
  have : 2 = n := hn
  subst this
  exact ⟨p, c', rfl, hr, hb⟩
theorem infl_call3 (a : Option Addr) (c : Nat) (w : World) (hr : Rd w bE a [7]) : Calls Try.prog 10 #[.slice a 1 c, .int .i64 10] w fun e w' => ∃ p c', e = .returned (.tuple #[.slice p 0 c', .int .i64 0, .int .i64 2]) ∧ Below w.heap.size w w' := by
  refine (infl_any a 1 c [7] 10 w rfl (by decide) hr (by decide)).mono ?_
  rw [infl3]
  rintro e w' ⟨p, n, c', rfl, hn, -, -, hb⟩
  have : 0 = n := hn
  subst this
  exact ⟨p, c', rfl, hb⟩
set_option maxHeartbeats 4000000 in
set_option maxRecDepth 100000 in
theorem fixed06_any (w : World) : Calls Try.prog 9 #[] w fun e w' => e = .returned (.bool true) ∧ Below w.heap.size w w' := by
  have e4 : lenK 266 = (13, 1, true) := by kernel_rfl
  go_enter Try.func9, Try.ntmps9
  go_wp2_with fail
  refine (infl_call1 _ 2 _ (rd_new w _ _ _ _ rfl)).mono ?_
  rintro e w1 ⟨p1, c1, rfl, hb⟩
  have hb1 := below_trans0 (below_alloc w _) (by simp) hb
  have hs1 := hb1.size
  clear hb
  go_wp2_with fail
  refine (infl_call2 _ 8 _ (rd_new w1 _ _ _ _ rfl)).mono ?_
  rintro e w2 ⟨p2, c2, rfl, hr2, hb⟩
  have hb2 := below_trans0 hb1 hs1 (below_trans0 (below_alloc w1 _) (by simp) hb)
  have hs2 := hb2.size
  clear hb hb1
  go_wp2_with fail
  refine (infl_call3 _ 1 _ (rd_new w2 _ _ _ _ rfl)).mono ?_
  rintro e w3 ⟨p3, c3, rfl, hb⟩
  have hba := below_trans0 (below_alloc w2 _) (by simp) hb
  have hr3 := hr2.below hba
  have hb3 := below_trans0 hb2 hs2 hba
  have hs3 := hb3.size
  clear hb hb2 hba hr2
  go_wp2_with fail
  refine (length_any 266 w3 (by decide)).mono ?_
  unfold SigP
  rw [e4]
  rintro e w4 ⟨rfl, hw⟩
  replace hw := hw.symm
  subst hw
  have hcv := conv_str (P := Try.prog) Try.underlying22 Try.underlying5 Try.underlying9 c2 (show ([104, 105] : List UInt8).length = 2 from rfl) hr3
  rw [show strOf [104, 105] = (⟨#[104, 105]⟩ : ByteArray) from rfl] at hcv
  have HB := Lib.hid hb3
  clear hb3 hr3
  go_wp2
  go_ret
  exact ⟨rfl, HB.out⟩
end Go.Proofs.Ytgcdeadfkljeaaa
