/- The document's State: Lengths. -/
import Derived.Test.YtgcdeadfkljeaaaInfN
namespace Go.Proofs.Ytgcdeadfkljeaaa
open Go.RowKit
set_option linter.unusedVariables false
set_option linter.unusedSimpArgs false

def JLens (A B gs gr : Nat) (L : List UInt8) (most : Int) (w : World) (r : List Int × IS) (e : Ending) (w' : World) : Prop := ∃ p m c, e = .returned (.slice p m c) ∧ JSt w' A B gs gr L most r.2 ∧ Chj A w w' ∧ (r.2.e = 0 → Own w' w.heap.size 3 nE p m c r.1)
set_option maxRecDepth 100000 in
set_option maxHeartbeats 16000000 in
theorem jLens_any {A B gs gr : Nat} {L : List UInt8} {most : Int} {s : IS} (a : Option Addr) (wn wc : Nat) (l : List Int) (n : Nat) (w : World) (h : JSt w A B gs gr L most s) (hl : s.e = 0 → l.length = wn ∧ wn ≤ 60000 ∧ kindS l ≠ 0 ∧ ∃ B2, Own w B2 9 Value.string a wn wc ((rwsL l).map sB)) (hn : n ≤ 1000) :
  Calls Try.prog 69 #[.pointer (some ⟨gs, 0, none⟩), .slice a wn wc, .int .i64 (n : Int)] w (JLens A B gs gr L most w (lensK L l n (n + 1) [] s)) := by
  have H := Lib.hid h
  have HWD := Lib.hid hl
  obtain ⟨tot, htot⟩ : ∃ t, t = lensK L l n (n + 1) [] s := ⟨_, rfl⟩
  rw [← htot]
  have HT := Lib.hid htot
  clear htot h hl
  go_enter Try.func69, Try.ntmps69
  go_wp2_with fail
  by_cases hse0 : s.e = 0
  rotate_left
  · -- an error already
    have hn0 : n = 0 ∨ 0 < n := by omega
    have heb : (s.e == 0) = false := by simpa using hse0
    have HTE : Hid (tot.2 = s) := Lib.hid (by
      rw [HT.out]
      unfold lensK
      by_cases hn1 : ([] : List Int).length < n
      · rw [if_pos hn1]
        have hst : (lenStep L l n [] s).2 = s := by
          unfold lenStep
          have hsk : signK L l s = (0, s) := by unfold signK; rw [if_neg hse0]
          simp only [hsk]
          have hrk : runK L 0 [] s = ((0, 1), s) := by unfold runK; rw [if_neg (by decide), if_neg (by decide), if_neg (by decide)]
          rw [hrk]
          simp only
          split
          · unfold failS; rw [if_neg hse0]
          · rfl
        rw [hst, if_pos hse0]
      · rw [if_neg hn1])
    obtain ⟨q, m, c, c0, c1, c2, c3, f3, -⟩ := H.out.cells
    clear c0 c1 c2 f3
    go_loopw [7] (fun x7 wr => x7 = .slice none 0 0 ∧ Hid (wr = w)) (fun _ _ => 0)
    case atStart => exact ⟨rfl, Lib.hid rfl⟩
    case round =>
      obtain ⟨rfl, hw⟩ := hrel
      have hw := hw.out.symm
      subst hw
      rcases hn0 with hn0 | hn0
      · subst hn0
        go_wp2_with fail
        go_ret
        exact ⟨none, 0, 0, rfl, by rw [HTE.out]; exact H.out, Chj.refl _ _, fun h => absurd (by rw [HTE.out] at h; exact h) hse0⟩
      · have c4 : (0 : Int) < (n : Int) := by omega
        go_wp2_with fail
        go_ret
        exact ⟨none, 0, 0, rfl, by rw [HTE.out]; exact H.out, Chj.refl _ _, fun h => absurd (by rw [HTE.out] at h; exact h) hse0⟩
  obtain ⟨hl1, hl2, hl3, B2, hl4⟩ := HWD.out hse0
  have HWS := Lib.hid hl4
  have HKS := Lib.hid hl3
  clear hl3 hl4 HWD
  have HW1 : Hid (JSt w A B gs gr L most s ∧ Chj A w w ∧ Own w w.heap.size 3 nE none 0 0 [] ∧ w.heap.size ≤ w.heap.size) := Lib.hid ⟨H.out, Chj.refl _ _, Own.nil, Nat.le_refl _⟩
  go_loopw [7] (fun x7 wr => ∃ (acc : List Int) (p : Option Addr) (c k : Nat) (s' : IS), x7 = .slice p acc.length c ∧ acc.length ≤ 2000 ∧ Hid (JSt wr A B gs gr L most s' ∧ Chj A w wr ∧ Own wr w.heap.size 3 nE p acc.length c acc ∧ w.heap.size ≤ wr.heap.size) ∧ Hid (s'.e = 0 → tot = lensK L l n k acc s' ∧ n - acc.length < k ∧ acc.length ≤ n) ∧ Hid (s'.e ≠ 0 → tot.2 = s')) (fun x7 _ => n - lenOf7 x7)
  case atStart => exact ⟨[], none, 0, n + 1, s, rfl, by simp, HW1, Lib.hid (fun _ => ⟨HT.out, by simp, by simp⟩), Lib.hid (fun h => absurd hse0 h)⟩
  case round =>
    clear HW1 HT
    obtain ⟨acc, p, c, k, s', rfl, hlen, hW, hK, hE⟩ := hrel
    obtain ⟨q, m0, d0, c0, c1, c2, c3, f3, -⟩ := hW.out.1.cells
    clear c0 c1 c2 f3
    by_cases he : s'.e = 0
    rotate_left
    · have heb : (s'.e == 0) = false := by simpa using he
      have HF : Hid (JLens A B gs gr L most w tot (.returned (.slice p acc.length c)) wr) := Lib.hid ⟨_, _, _, rfl, by rw [hE.out he]; exact hW.out.1, hW.out.2.1, fun h => absurd (by rw [hE.out he] at h; exact h) he⟩
      by_cases hin : acc.length < n
      · have c4 : (acc.length : Int) < (n : Int) := by omega
        go_wp2_with fail
        go_ret
        exact HF.out
      · have c4 : ¬ (acc.length : Int) < (n : Int) := by omega
        go_wp2_with fail
        go_ret
        exact HF.out
    rw [he] at c3
    obtain ⟨hk1, hk2, hk3⟩ := hK.out he
    have HK1 := Lib.hid hk1
    clear hK hE hk1
    by_cases hin : acc.length < n
    rotate_left
    · have c4 : ¬ (acc.length : Int) < (n : Int) := by omega
      have HT2 : Hid (tot = (acc, s')) := Lib.hid (by
        obtain ⟨k', rfl⟩ : ∃ k', k = k' + 1 := ⟨k - 1, by omega⟩
        rw [HK1.out]
        show (if acc.length < n then _ else _) = _
        rw [if_neg hin])
      go_wp2_with fail
      go_ret
      rw [HT2.out]
      exact ⟨_, _, _, rfl, hW.out.1, hW.out.2.1, fun _ => hW.out.2.2.1⟩
    obtain ⟨k', rfl⟩ : ∃ k', k = k' + 1 := ⟨k - 1, by omega⟩
    have HLK : Hid (tot = if (lenStep L l n acc s').2.e ≠ 0 then ([], (lenStep L l n acc s').2) else lensK L l n k' (acc ++ List.replicate (lenStep L l n acc s').1.2 (lenStep L l n acc s').1.1) (lenStep L l n acc s').2) := Lib.hid (by
      rw [HK1.out]
      show (if acc.length < n then _ else _) = _
      rw [if_pos hin])
    have HOK : Hid ((lenStep L l n acc s').2.e = 0 → 0 < (lenStep L l n acc s').1.2 ∧ acc.length + (lenStep L l n acc s').1.2 ≤ n) := Lib.hid lenStep_ok
    have HST : Hid (lenStep L l n acc s' = ((runK L (signK L l s').1 acc (signK L l s').2).1, if (((runK L (signK L l s').1 acc (signK L l s').2).1.2 : Nat) : Int) > (n : Int) - (acc.length : Int) then failS 2 (runK L (signK L l s').1 acc (signK L l s').2).2 else (runK L (signK L l s').1 acc (signK L l s').2).2)) := Lib.hid rfl
    generalize lenStep L l n acc s' = st at *
    have HS := Lib.hid (jSign_any a wn wc l wr hW.out.1 (fun _ => ⟨hl1, hl2, HKS.out, (hW.out.2.1.keep.ownR HWS.out (by decide)).rd⟩))
    unfold SjPost at HS
    generalize signK L l s' = sg at *
    obtain ⟨x, s1⟩ := sg
    simp only at HS HST
    have c4 : (acc.length : Int) < (n : Int) := by omega
    go_wp2_with fail
    refine HS.out.mono ?_
    rintro e w2 ⟨rfl, h2, k2⟩
    have HW2 : Hid (JSt w2 A B gs gr L most s1 ∧ Chj A w w2 ∧ Own w2 w.heap.size 3 nE p acc.length c acc ∧ w.heap.size ≤ w2.heap.size) := Lib.hid ⟨h2, hW.out.2.1.trans k2, k2.keep.ownR hW.out.2.2.1 (by decide), Nat.le_trans hW.out.2.2.2 k2.bel.size⟩
    clear h2 k2 HS hW c3 HK1
    have gsub : IntKind.i64.wrap ((n : Int) - (acc.length : Int)) = (n : Int) - (acc.length : Int) := IntWalk.i64_in _ (by omega)
    by_cases h16 : x = 16
    · subst h16
      have HV : Hid ((bitsK L 2 s1).1 < 2 ^ 2) := Lib.hid (bitsK_lt L 2 (by decide) s1)
      have HB := Lib.hid (jGet_any 2 w2 HW2.out.1 (by decide))
      unfold SjPost at HB
      have HR : Hid (runK L 16 acc s1 = if acc = [] then ((0, 0), failS 2 (bitsK L 2 s1).2) else ((acc.getLastD 0, 3 + (bitsK L 2 s1).1), (bitsK L 2 s1).2)) := Lib.hid (by unfold runK; rw [if_pos rfl])
      generalize bitsK L 2 s1 = bs at *
      obtain ⟨v, s2⟩ := bs
      simp only at HB HV HST HR
      have hv := HV.out
      have gv : IntKind.i64.wrap (3 + (v : Int)) = ((3 + v : Nat) : Int) := by rw [IntWalk.i64_in _ (by omega)]; omega
      go_wp2_with fail
      refine HB.out.mono ?_
      rintro e w3 ⟨rfl, h3, k3⟩
      have HW3 : Hid (JSt w3 A B gs gr L most s2 ∧ Chj A w w3 ∧ Own w3 w.heap.size 3 nE p acc.length c acc ∧ w.heap.size ≤ w3.heap.size) := Lib.hid ⟨h3, HW2.out.2.1.trans k3, k3.keep.ownR HW2.out.2.2.1 (by decide), Nat.le_trans HW2.out.2.2.2 k3.bel.size⟩
      clear h3 k3 HB HW2
      by_cases h0 : acc = []
      · subst h0
        rw [HR.out] at HST
        simp only [if_true] at HST
        have HNE := Lib.hid (failS_ne (x := 2) (by decide) s2)
        have HTX : Hid (tot.2 = failS 2 s2) := Lib.hid (by
          rw [HLK.out, HST.out]
          simp only
          have h9 : ¬ ((0 : Nat) : Int) > (n : Int) - (([] : List Int).length : Int) := by simp only [List.length_nil]; omega
          rw [if_neg h9, if_pos HNE.out])
        clear HLK HST HOK HR
        simp only [List.length_nil] at *
        go_wp2_with fail
        refine (jFail_any 2 w3 HW3.out.1).mono ?_
        rintro e w4 ⟨rfl, h4, k4⟩
        have HW4 : Hid (JSt w4 A B gs gr L most (failS 2 s2) ∧ Chj A w w4) := Lib.hid ⟨h4, HW3.out.2.1.trans k4⟩
        clear h4 k4 HW3
        go_wp2_with fail
        go_ret
        exact ⟨none, 0, 0, rfl, by rw [HTX.out]; exact HW4.out.1, HW4.out.2, fun h => absurd (by rw [HTX.out] at h; exact h) HNE.out⟩
      rw [HR.out] at HST
      simp only [if_neg h0] at HST
      clear HR
      have hpos : 0 < acc.length := List.length_pos_iff.2 h0
      have hlt := last_at h0
      obtain ⟨bp, off, rfl, -, -⟩ := HW3.out.2.2.1.rd.at hpos
      have hcell : w3.cell? ⟨bp, off + (acc.length - 1), none⟩ = some (.int .i64 (acc.getLastD 0)) := by
        rcases HW3.out.2.2.1.rd with h | ⟨b', off', hb', hc'⟩
        · exact absurd h h0
        · simp only [Option.some.injEq, Addr.mk.injEq, and_true] at hb'
          obtain ⟨rfl, rfl⟩ := hb'
          exact hc' (acc.length - 1) _ hlt
      have gk : (acc.length : Int) - 1 = ((acc.length - 1 : Nat) : Int) := by omega
      have gz : ((acc.length : Int) == 0) = false := by simp; omega
      generalize acc.getLastD 0 = la at *
      clear hlt h0
      -- TAIL what times world HW3 s2
      by_cases hgt : (((3 + v) : Nat) : Int) > (n : Int) - (acc.length : Int)
      · rw [if_pos hgt] at HST
        have cg : (n : Int) - (acc.length : Int) < ((3 + v : Nat) : Int) := by omega
        go_wp2_with fail
        refine (jFail_any 2 w3 HW3.out.1).mono ?_
        rintro e w4 ⟨rfl, h4, k4⟩
        have HW4 : Hid (JSt w4 A B gs gr L most (failS 2 s2) ∧ Chj A w w4 ∧ Own w4 w.heap.size 3 nE (some ⟨bp, off, none⟩) acc.length c acc ∧ w.heap.size ≤ w4.heap.size) := Lib.hid ⟨h4, HW3.out.2.1.trans k4, k4.keep.ownR HW3.out.2.2.1 (by decide), Nat.le_trans HW3.out.2.2.2 k4.bel.size⟩
        have HNE := Lib.hid (failS_ne (x := 2) (by decide) s2)
        have HTX : Hid (tot.2 = failS 2 s2) := Lib.hid (by rw [HLK.out, HST.out]; simp only [if_pos HNE.out])
        clear h4 k4 HW3 HLK HST HOK
        generalize failS 2 s2 = s4 at *
        go_wp2_with fail
        go_loopw [7, 11] (fun x7 x11 wr => ∃ (j : Nat) (p : Option Addr) (c : Nat), x7 = .slice p (acc.length + j) c ∧ x11 = .int .i64 (j : Int) ∧ j ≤ (3 + v) ∧ Hid (JSt wr A B gs gr L most (s4) ∧ Chj A w wr ∧ Own wr w.heap.size 3 nE p (acc.length + j) c (acc ++ List.replicate j la) ∧ w.heap.size ≤ wr.heap.size)) (fun _ x11 _ => (3 + v) - (intOf x11).toNat)
        case atStart => exact ⟨0, some ⟨bp, off, none⟩, c, by simp, rfl, Nat.zero_le _, Lib.hid (by simpa using HW4.out)⟩
        case round =>
          clear HW4
          obtain ⟨j, p, c, rfl, rfl, hj, hWi⟩ := hrel
          by_cases hjn : j < (3 + v)
          · have cj : (j : Int) < ((3 + v : Nat) : Int) := by omega
            go_wp2_with (at_builtin; refine wpList_push (w0 := wr) slIntE rfl _ _ rfl rfl rfl hWi.out.2.2.1 la _ rfl (cell_push rfl _ _) rfl (by omega) (by unfold maxLen; omega) hWi.out.2.2.2 ?_; intro p3 c3 w3 hown3 hg3)
            have HW3 : Hid (JSt w3 A B gs gr L most (s4) ∧ Chj A w w3 ∧ Own w3 w.heap.size 3 nE p3 (acc.length + (j + 1)) c3 (acc ++ List.replicate (j + 1) la) ∧ w.heap.size ≤ w3.heap.size) := Lib.hid ⟨hWi.out.1.keepInt hWi.out.2.2.1 H.out.le.2.2.2.2.2 hg3, hWi.out.2.1.young hg3 H.out.base (fun k hk => (hWi.out.2.2.1.1.lt k hk).1), by rw [List.replicate_succ', ← List.append_assoc]; exact hown3, Nat.le_trans hWi.out.2.2.2 hg3.size⟩
            clear hown3 hg3
            go_roundw
            case rel => exact ⟨j + 1, p3, c3, by simp [Nat.add_assoc], by go_num, by omega, HW3⟩
            case measure => simp [intOf] <;> omega
          · have hjt : j = (3 + v) := by omega
            have cj : ¬ (j : Int) < ((3 + v : Nat) : Int) := by omega
            have HWJ : Hid (JSt wr A B gs gr L most (s4) ∧ Chj A w wr ∧ Own wr w.heap.size 3 nE p (acc ++ List.replicate j la).length c (acc ++ List.replicate j la) ∧ w.heap.size ≤ wr.heap.size) := Lib.hid (by rw [List.length_append, List.length_replicate]; exact hWi.out)
            go_wp2_with fail
            go_roundw
            case rel => exact ⟨acc ++ List.replicate j la, p, c, k', s4, by simp, by simp; omega, HWJ, Lib.hid (fun h => absurd h HNE.out), Lib.hid (fun _ => HTX.out)⟩
            case measure => simp [lenOf7] <;> omega
      · rw [if_neg hgt] at HST
        have cg : ¬ (n : Int) - (acc.length : Int) < ((3 + v : Nat) : Int) := by omega
        have HK9 : Hid ((s2).e = 0 → tot = lensK L l n k' (acc ++ List.replicate ((3 + v)) la) (s2) ∧ n - (acc ++ List.replicate ((3 + v)) la).length < k' ∧ (acc ++ List.replicate ((3 + v)) la).length ≤ n) := Lib.hid (by
          intro h9
          have hp := HOK.out (by rw [HST.out]; exact h9)
          rw [HST.out] at hp
          simp only at hp
          exact ⟨by rw [HLK.out, HST.out]; simp only [if_neg (show ¬ (s2).e ≠ 0 by simpa using h9)], by simp; omega, by simp; omega⟩)
        have HE9 : Hid ((s2).e ≠ 0 → tot.2 = s2) := Lib.hid (by intro h9; rw [HLK.out, HST.out]; simp only [if_pos h9])
        clear HLK HST HOK hgt
        go_wp2_with fail
        go_loopw [7, 11] (fun x7 x11 wr => ∃ (j : Nat) (p : Option Addr) (c : Nat), x7 = .slice p (acc.length + j) c ∧ x11 = .int .i64 (j : Int) ∧ j ≤ (3 + v) ∧ Hid (JSt wr A B gs gr L most (s2) ∧ Chj A w wr ∧ Own wr w.heap.size 3 nE p (acc.length + j) c (acc ++ List.replicate j la) ∧ w.heap.size ≤ wr.heap.size)) (fun _ x11 _ => (3 + v) - (intOf x11).toNat)
        case atStart => exact ⟨0, some ⟨bp, off, none⟩, c, by simp, rfl, Nat.zero_le _, Lib.hid (by simpa using HW3.out)⟩
        case round =>
          clear HW3
          obtain ⟨j, p, c, rfl, rfl, hj, hWi⟩ := hrel
          by_cases hjn : j < (3 + v)
          · have cj : (j : Int) < ((3 + v : Nat) : Int) := by omega
            go_wp2_with (at_builtin; refine wpList_push (w0 := wr) slIntE rfl _ _ rfl rfl rfl hWi.out.2.2.1 la _ rfl (cell_push rfl _ _) rfl (by omega) (by unfold maxLen; omega) hWi.out.2.2.2 ?_; intro p3 c3 w3 hown3 hg3)
            have HW3 : Hid (JSt w3 A B gs gr L most (s2) ∧ Chj A w w3 ∧ Own w3 w.heap.size 3 nE p3 (acc.length + (j + 1)) c3 (acc ++ List.replicate (j + 1) la) ∧ w.heap.size ≤ w3.heap.size) := Lib.hid ⟨hWi.out.1.keepInt hWi.out.2.2.1 H.out.le.2.2.2.2.2 hg3, hWi.out.2.1.young hg3 H.out.base (fun k hk => (hWi.out.2.2.1.1.lt k hk).1), by rw [List.replicate_succ', ← List.append_assoc]; exact hown3, Nat.le_trans hWi.out.2.2.2 hg3.size⟩
            clear hown3 hg3
            go_roundw
            case rel => exact ⟨j + 1, p3, c3, by simp [Nat.add_assoc], by go_num, by omega, HW3⟩
            case measure => simp [intOf] <;> omega
          · have hjt : j = (3 + v) := by omega
            have cj : ¬ (j : Int) < ((3 + v : Nat) : Int) := by omega
            have HWJ : Hid (JSt wr A B gs gr L most (s2) ∧ Chj A w wr ∧ Own wr w.heap.size 3 nE p (acc ++ List.replicate j la).length c (acc ++ List.replicate j la) ∧ w.heap.size ≤ wr.heap.size) := Lib.hid (by rw [List.length_append, List.length_replicate]; exact hWi.out)
            go_wp2_with fail
            go_roundw
            case rel => exact ⟨acc ++ List.replicate j la, p, c, k', s2, by simp, by simp; omega, HWJ, Lib.hid (by rw [hjt]; exact HK9.out), HE9⟩
            case measure => simp [lenOf7] <;> omega
    have g16 : (x == 16) = false := by simpa using h16
    by_cases h17 : x = 17
    · subst h17
      have HV : Hid ((bitsK L 3 s1).1 < 2 ^ 3) := Lib.hid (bitsK_lt L 3 (by decide) s1)
      have HB := Lib.hid (jGet_any 3 w2 HW2.out.1 (by decide))
      unfold SjPost at HB
      have HR : Hid (runK L 17 acc s1 = ((0, 3 + (bitsK L 3 s1).1), (bitsK L 3 s1).2)) := Lib.hid rfl
      rw [HR.out] at HST
      generalize bitsK L 3 s1 = bs at *
      obtain ⟨v, s2⟩ := bs
      simp only at HB HV HST
      have hv := HV.out
      have gv : IntKind.i64.wrap (3 + (v : Int)) = ((3 + v : Nat) : Int) := by rw [IntWalk.i64_in _ (by omega)]; omega
      go_wp2_with fail
      refine HB.out.mono ?_
      rintro e w3 ⟨rfl, h3, k3⟩
      have HW3 : Hid (JSt w3 A B gs gr L most s2 ∧ Chj A w w3 ∧ Own w3 w.heap.size 3 nE p acc.length c acc ∧ w.heap.size ≤ w3.heap.size) := Lib.hid ⟨h3, HW2.out.2.1.trans k3, k3.keep.ownR HW2.out.2.2.1 (by decide), Nat.le_trans HW2.out.2.2.2 k3.bel.size⟩
      clear h3 k3 HB HW2
      -- TAIL what times world HW3 s2
      by_cases hgt : (((3 + v) : Nat) : Int) > (n : Int) - (acc.length : Int)
      · rw [if_pos hgt] at HST
        have cg : (n : Int) - (acc.length : Int) < ((3 + v : Nat) : Int) := by omega
        go_wp2_with fail
        refine (jFail_any 2 w3 HW3.out.1).mono ?_
        rintro e w4 ⟨rfl, h4, k4⟩
        have HW4 : Hid (JSt w4 A B gs gr L most (failS 2 s2) ∧ Chj A w w4 ∧ Own w4 w.heap.size 3 nE p acc.length c acc ∧ w.heap.size ≤ w4.heap.size) := Lib.hid ⟨h4, HW3.out.2.1.trans k4, k4.keep.ownR HW3.out.2.2.1 (by decide), Nat.le_trans HW3.out.2.2.2 k4.bel.size⟩
        have HNE := Lib.hid (failS_ne (x := 2) (by decide) s2)
        have HTX : Hid (tot.2 = failS 2 s2) := Lib.hid (by rw [HLK.out, HST.out]; simp only [if_pos HNE.out])
        clear h4 k4 HW3 HLK HST HOK
        generalize failS 2 s2 = s4 at *
        go_wp2_with fail
        go_loopw [7, 11] (fun x7 x11 wr => ∃ (j : Nat) (p : Option Addr) (c : Nat), x7 = .slice p (acc.length + j) c ∧ x11 = .int .i64 (j : Int) ∧ j ≤ (3 + v) ∧ Hid (JSt wr A B gs gr L most (s4) ∧ Chj A w wr ∧ Own wr w.heap.size 3 nE p (acc.length + j) c (acc ++ List.replicate j 0) ∧ w.heap.size ≤ wr.heap.size)) (fun _ x11 _ => (3 + v) - (intOf x11).toNat)
        case atStart => exact ⟨0, p, c, by simp, rfl, Nat.zero_le _, Lib.hid (by simpa using HW4.out)⟩
        case round =>
          clear HW4
          obtain ⟨j, p, c, rfl, rfl, hj, hWi⟩ := hrel
          by_cases hjn : j < (3 + v)
          · have cj : (j : Int) < ((3 + v : Nat) : Int) := by omega
            go_wp2_with (at_builtin; refine wpList_push (w0 := wr) slIntE rfl _ _ rfl rfl rfl hWi.out.2.2.1 0 _ rfl (cell_push rfl _ _) rfl (by omega) (by unfold maxLen; omega) hWi.out.2.2.2 ?_; intro p3 c3 w3 hown3 hg3)
            have HW3 : Hid (JSt w3 A B gs gr L most (s4) ∧ Chj A w w3 ∧ Own w3 w.heap.size 3 nE p3 (acc.length + (j + 1)) c3 (acc ++ List.replicate (j + 1) 0) ∧ w.heap.size ≤ w3.heap.size) := Lib.hid ⟨hWi.out.1.keepInt hWi.out.2.2.1 H.out.le.2.2.2.2.2 hg3, hWi.out.2.1.young hg3 H.out.base (fun k hk => (hWi.out.2.2.1.1.lt k hk).1), by rw [List.replicate_succ', ← List.append_assoc]; exact hown3, Nat.le_trans hWi.out.2.2.2 hg3.size⟩
            clear hown3 hg3
            go_roundw
            case rel => exact ⟨j + 1, p3, c3, by simp [Nat.add_assoc], by go_num, by omega, HW3⟩
            case measure => simp [intOf] <;> omega
          · have hjt : j = (3 + v) := by omega
            have cj : ¬ (j : Int) < ((3 + v : Nat) : Int) := by omega
            have HWJ : Hid (JSt wr A B gs gr L most (s4) ∧ Chj A w wr ∧ Own wr w.heap.size 3 nE p (acc ++ List.replicate j 0).length c (acc ++ List.replicate j 0) ∧ w.heap.size ≤ wr.heap.size) := Lib.hid (by rw [List.length_append, List.length_replicate]; exact hWi.out)
            go_wp2_with fail
            go_roundw
            case rel => exact ⟨acc ++ List.replicate j 0, p, c, k', s4, by simp, by simp; omega, HWJ, Lib.hid (fun h => absurd h HNE.out), Lib.hid (fun _ => HTX.out)⟩
            case measure => simp [lenOf7] <;> omega
      · rw [if_neg hgt] at HST
        have cg : ¬ (n : Int) - (acc.length : Int) < ((3 + v : Nat) : Int) := by omega
        have HK9 : Hid ((s2).e = 0 → tot = lensK L l n k' (acc ++ List.replicate ((3 + v)) 0) (s2) ∧ n - (acc ++ List.replicate ((3 + v)) 0).length < k' ∧ (acc ++ List.replicate ((3 + v)) 0).length ≤ n) := Lib.hid (by
          intro h9
          have hp := HOK.out (by rw [HST.out]; exact h9)
          rw [HST.out] at hp
          simp only at hp
          exact ⟨by rw [HLK.out, HST.out]; simp only [if_neg (show ¬ (s2).e ≠ 0 by simpa using h9)], by simp; omega, by simp; omega⟩)
        have HE9 : Hid ((s2).e ≠ 0 → tot.2 = s2) := Lib.hid (by intro h9; rw [HLK.out, HST.out]; simp only [if_pos h9])
        clear HLK HST HOK hgt
        go_wp2_with fail
        go_loopw [7, 11] (fun x7 x11 wr => ∃ (j : Nat) (p : Option Addr) (c : Nat), x7 = .slice p (acc.length + j) c ∧ x11 = .int .i64 (j : Int) ∧ j ≤ (3 + v) ∧ Hid (JSt wr A B gs gr L most (s2) ∧ Chj A w wr ∧ Own wr w.heap.size 3 nE p (acc.length + j) c (acc ++ List.replicate j 0) ∧ w.heap.size ≤ wr.heap.size)) (fun _ x11 _ => (3 + v) - (intOf x11).toNat)
        case atStart => exact ⟨0, p, c, by simp, rfl, Nat.zero_le _, Lib.hid (by simpa using HW3.out)⟩
        case round =>
          clear HW3
          obtain ⟨j, p, c, rfl, rfl, hj, hWi⟩ := hrel
          by_cases hjn : j < (3 + v)
          · have cj : (j : Int) < ((3 + v : Nat) : Int) := by omega
            go_wp2_with (at_builtin; refine wpList_push (w0 := wr) slIntE rfl _ _ rfl rfl rfl hWi.out.2.2.1 0 _ rfl (cell_push rfl _ _) rfl (by omega) (by unfold maxLen; omega) hWi.out.2.2.2 ?_; intro p3 c3 w3 hown3 hg3)
            have HW3 : Hid (JSt w3 A B gs gr L most (s2) ∧ Chj A w w3 ∧ Own w3 w.heap.size 3 nE p3 (acc.length + (j + 1)) c3 (acc ++ List.replicate (j + 1) 0) ∧ w.heap.size ≤ w3.heap.size) := Lib.hid ⟨hWi.out.1.keepInt hWi.out.2.2.1 H.out.le.2.2.2.2.2 hg3, hWi.out.2.1.young hg3 H.out.base (fun k hk => (hWi.out.2.2.1.1.lt k hk).1), by rw [List.replicate_succ', ← List.append_assoc]; exact hown3, Nat.le_trans hWi.out.2.2.2 hg3.size⟩
            clear hown3 hg3
            go_roundw
            case rel => exact ⟨j + 1, p3, c3, by simp [Nat.add_assoc], by go_num, by omega, HW3⟩
            case measure => simp [intOf] <;> omega
          · have hjt : j = (3 + v) := by omega
            have cj : ¬ (j : Int) < ((3 + v : Nat) : Int) := by omega
            have HWJ : Hid (JSt wr A B gs gr L most (s2) ∧ Chj A w wr ∧ Own wr w.heap.size 3 nE p (acc ++ List.replicate j 0).length c (acc ++ List.replicate j 0) ∧ w.heap.size ≤ wr.heap.size) := Lib.hid (by rw [List.length_append, List.length_replicate]; exact hWi.out)
            go_wp2_with fail
            go_roundw
            case rel => exact ⟨acc ++ List.replicate j 0, p, c, k', s2, by simp, by simp; omega, HWJ, Lib.hid (by rw [hjt]; exact HK9.out), HE9⟩
            case measure => simp [lenOf7] <;> omega
    have g17 : (x == 17) = false := by simpa using h17
    by_cases h18 : x = 18
    · subst h18
      have HV : Hid ((bitsK L 7 s1).1 < 2 ^ 7) := Lib.hid (bitsK_lt L 7 (by decide) s1)
      have HB := Lib.hid (jGet_any 7 w2 HW2.out.1 (by decide))
      unfold SjPost at HB
      have HR : Hid (runK L 18 acc s1 = ((0, 11 + (bitsK L 7 s1).1), (bitsK L 7 s1).2)) := Lib.hid rfl
      rw [HR.out] at HST
      generalize bitsK L 7 s1 = bs at *
      obtain ⟨v, s2⟩ := bs
      simp only at HB HV HST
      have hv := HV.out
      have gv : IntKind.i64.wrap (11 + (v : Int)) = ((11 + v : Nat) : Int) := by rw [IntWalk.i64_in _ (by omega)]; omega
      go_wp2_with fail
      refine HB.out.mono ?_
      rintro e w3 ⟨rfl, h3, k3⟩
      have HW3 : Hid (JSt w3 A B gs gr L most s2 ∧ Chj A w w3 ∧ Own w3 w.heap.size 3 nE p acc.length c acc ∧ w.heap.size ≤ w3.heap.size) := Lib.hid ⟨h3, HW2.out.2.1.trans k3, k3.keep.ownR HW2.out.2.2.1 (by decide), Nat.le_trans HW2.out.2.2.2 k3.bel.size⟩
      clear h3 k3 HB HW2
      -- TAIL what times world HW3 s2
      by_cases hgt : (((11 + v) : Nat) : Int) > (n : Int) - (acc.length : Int)
      · rw [if_pos hgt] at HST
        have cg : (n : Int) - (acc.length : Int) < ((11 + v : Nat) : Int) := by omega
        go_wp2_with fail
        refine (jFail_any 2 w3 HW3.out.1).mono ?_
        rintro e w4 ⟨rfl, h4, k4⟩
        have HW4 : Hid (JSt w4 A B gs gr L most (failS 2 s2) ∧ Chj A w w4 ∧ Own w4 w.heap.size 3 nE p acc.length c acc ∧ w.heap.size ≤ w4.heap.size) := Lib.hid ⟨h4, HW3.out.2.1.trans k4, k4.keep.ownR HW3.out.2.2.1 (by decide), Nat.le_trans HW3.out.2.2.2 k4.bel.size⟩
        have HNE := Lib.hid (failS_ne (x := 2) (by decide) s2)
        have HTX : Hid (tot.2 = failS 2 s2) := Lib.hid (by rw [HLK.out, HST.out]; simp only [if_pos HNE.out])
        clear h4 k4 HW3 HLK HST HOK
        generalize failS 2 s2 = s4 at *
        go_wp2_with fail
        go_loopw [7, 11] (fun x7 x11 wr => ∃ (j : Nat) (p : Option Addr) (c : Nat), x7 = .slice p (acc.length + j) c ∧ x11 = .int .i64 (j : Int) ∧ j ≤ (11 + v) ∧ Hid (JSt wr A B gs gr L most (s4) ∧ Chj A w wr ∧ Own wr w.heap.size 3 nE p (acc.length + j) c (acc ++ List.replicate j 0) ∧ w.heap.size ≤ wr.heap.size)) (fun _ x11 _ => (11 + v) - (intOf x11).toNat)
        case atStart => exact ⟨0, p, c, by simp, rfl, Nat.zero_le _, Lib.hid (by simpa using HW4.out)⟩
        case round =>
          clear HW4
          obtain ⟨j, p, c, rfl, rfl, hj, hWi⟩ := hrel
          by_cases hjn : j < (11 + v)
          · have cj : (j : Int) < ((11 + v : Nat) : Int) := by omega
            go_wp2_with (at_builtin; refine wpList_push (w0 := wr) slIntE rfl _ _ rfl rfl rfl hWi.out.2.2.1 0 _ rfl (cell_push rfl _ _) rfl (by omega) (by unfold maxLen; omega) hWi.out.2.2.2 ?_; intro p3 c3 w3 hown3 hg3)
            have HW3 : Hid (JSt w3 A B gs gr L most (s4) ∧ Chj A w w3 ∧ Own w3 w.heap.size 3 nE p3 (acc.length + (j + 1)) c3 (acc ++ List.replicate (j + 1) 0) ∧ w.heap.size ≤ w3.heap.size) := Lib.hid ⟨hWi.out.1.keepInt hWi.out.2.2.1 H.out.le.2.2.2.2.2 hg3, hWi.out.2.1.young hg3 H.out.base (fun k hk => (hWi.out.2.2.1.1.lt k hk).1), by rw [List.replicate_succ', ← List.append_assoc]; exact hown3, Nat.le_trans hWi.out.2.2.2 hg3.size⟩
            clear hown3 hg3
            go_roundw
            case rel => exact ⟨j + 1, p3, c3, by simp [Nat.add_assoc], by go_num, by omega, HW3⟩
            case measure => simp [intOf] <;> omega
          · have hjt : j = (11 + v) := by omega
            have cj : ¬ (j : Int) < ((11 + v : Nat) : Int) := by omega
            have HWJ : Hid (JSt wr A B gs gr L most (s4) ∧ Chj A w wr ∧ Own wr w.heap.size 3 nE p (acc ++ List.replicate j 0).length c (acc ++ List.replicate j 0) ∧ w.heap.size ≤ wr.heap.size) := Lib.hid (by rw [List.length_append, List.length_replicate]; exact hWi.out)
            go_wp2_with fail
            go_roundw
            case rel => exact ⟨acc ++ List.replicate j 0, p, c, k', s4, by simp, by simp; omega, HWJ, Lib.hid (fun h => absurd h HNE.out), Lib.hid (fun _ => HTX.out)⟩
            case measure => simp [lenOf7] <;> omega
      · rw [if_neg hgt] at HST
        have cg : ¬ (n : Int) - (acc.length : Int) < ((11 + v : Nat) : Int) := by omega
        have HK9 : Hid ((s2).e = 0 → tot = lensK L l n k' (acc ++ List.replicate ((11 + v)) 0) (s2) ∧ n - (acc ++ List.replicate ((11 + v)) 0).length < k' ∧ (acc ++ List.replicate ((11 + v)) 0).length ≤ n) := Lib.hid (by
          intro h9
          have hp := HOK.out (by rw [HST.out]; exact h9)
          rw [HST.out] at hp
          simp only at hp
          exact ⟨by rw [HLK.out, HST.out]; simp only [if_neg (show ¬ (s2).e ≠ 0 by simpa using h9)], by simp; omega, by simp; omega⟩)
        have HE9 : Hid ((s2).e ≠ 0 → tot.2 = s2) := Lib.hid (by intro h9; rw [HLK.out, HST.out]; simp only [if_pos h9])
        clear HLK HST HOK hgt
        go_wp2_with fail
        go_loopw [7, 11] (fun x7 x11 wr => ∃ (j : Nat) (p : Option Addr) (c : Nat), x7 = .slice p (acc.length + j) c ∧ x11 = .int .i64 (j : Int) ∧ j ≤ (11 + v) ∧ Hid (JSt wr A B gs gr L most (s2) ∧ Chj A w wr ∧ Own wr w.heap.size 3 nE p (acc.length + j) c (acc ++ List.replicate j 0) ∧ w.heap.size ≤ wr.heap.size)) (fun _ x11 _ => (11 + v) - (intOf x11).toNat)
        case atStart => exact ⟨0, p, c, by simp, rfl, Nat.zero_le _, Lib.hid (by simpa using HW3.out)⟩
        case round =>
          clear HW3
          obtain ⟨j, p, c, rfl, rfl, hj, hWi⟩ := hrel
          by_cases hjn : j < (11 + v)
          · have cj : (j : Int) < ((11 + v : Nat) : Int) := by omega
            go_wp2_with (at_builtin; refine wpList_push (w0 := wr) slIntE rfl _ _ rfl rfl rfl hWi.out.2.2.1 0 _ rfl (cell_push rfl _ _) rfl (by omega) (by unfold maxLen; omega) hWi.out.2.2.2 ?_; intro p3 c3 w3 hown3 hg3)
            have HW3 : Hid (JSt w3 A B gs gr L most (s2) ∧ Chj A w w3 ∧ Own w3 w.heap.size 3 nE p3 (acc.length + (j + 1)) c3 (acc ++ List.replicate (j + 1) 0) ∧ w.heap.size ≤ w3.heap.size) := Lib.hid ⟨hWi.out.1.keepInt hWi.out.2.2.1 H.out.le.2.2.2.2.2 hg3, hWi.out.2.1.young hg3 H.out.base (fun k hk => (hWi.out.2.2.1.1.lt k hk).1), by rw [List.replicate_succ', ← List.append_assoc]; exact hown3, Nat.le_trans hWi.out.2.2.2 hg3.size⟩
            clear hown3 hg3
            go_roundw
            case rel => exact ⟨j + 1, p3, c3, by simp [Nat.add_assoc], by go_num, by omega, HW3⟩
            case measure => simp [intOf] <;> omega
          · have hjt : j = (11 + v) := by omega
            have cj : ¬ (j : Int) < ((11 + v : Nat) : Int) := by omega
            have HWJ : Hid (JSt wr A B gs gr L most (s2) ∧ Chj A w wr ∧ Own wr w.heap.size 3 nE p (acc ++ List.replicate j 0).length c (acc ++ List.replicate j 0) ∧ w.heap.size ≤ wr.heap.size) := Lib.hid (by rw [List.length_append, List.length_replicate]; exact hWi.out)
            go_wp2_with fail
            go_roundw
            case rel => exact ⟨acc ++ List.replicate j 0, p, c, k', s2, by simp, by simp; omega, HWJ, Lib.hid (by rw [hjt]; exact HK9.out), HE9⟩
            case measure => simp [lenOf7] <;> omega
    have g18 : (x == 18) = false := by simpa using h18
    have HR : Hid (runK L x acc s1 = ((x, 1), s1)) := Lib.hid (by unfold runK; rw [if_neg h16, if_neg h17, if_neg h18])
    rw [HR.out] at HST
    simp only at HST
    clear HR h16 h17 h18
    -- TAIL what times world HW2 s2
    by_cases hgt : ((1 : Nat) : Int) > (n : Int) - (acc.length : Int)
    · exfalso; omega
    · rw [if_neg hgt] at HST
      have cg : ¬ (n : Int) - (acc.length : Int) < 1 := by omega
      have HK9 : Hid ((s1).e = 0 → tot = lensK L l n k' (acc ++ List.replicate (1) x) (s1) ∧ n - (acc ++ List.replicate (1) x).length < k' ∧ (acc ++ List.replicate (1) x).length ≤ n) := Lib.hid (by
        intro h9
        have hp := HOK.out (by rw [HST.out]; exact h9)
        rw [HST.out] at hp
        simp only at hp
        exact ⟨by rw [HLK.out, HST.out]; simp only [if_neg (show ¬ (s1).e ≠ 0 by simpa using h9)], by simp; omega, by simp; omega⟩)
      have HE9 : Hid ((s1).e ≠ 0 → tot.2 = s1) := Lib.hid (by intro h9; rw [HLK.out, HST.out]; simp only [if_pos h9])
      clear HLK HST HOK hgt
      go_wp2_with fail
      go_loopw [7, 11] (fun x7 x11 wr => ∃ (j : Nat) (p : Option Addr) (c : Nat), x7 = .slice p (acc.length + j) c ∧ x11 = .int .i64 (j : Int) ∧ j ≤ 1 ∧ Hid (JSt wr A B gs gr L most (s1) ∧ Chj A w wr ∧ Own wr w.heap.size 3 nE p (acc.length + j) c (acc ++ List.replicate j x) ∧ w.heap.size ≤ wr.heap.size)) (fun _ x11 _ => 1 - (intOf x11).toNat)
      case atStart => exact ⟨0, p, c, by simp, rfl, Nat.zero_le _, Lib.hid (by simpa using HW2.out)⟩
      case round =>
        clear HW2
        obtain ⟨j, p, c, rfl, rfl, hj, hWi⟩ := hrel
        by_cases hjn : j < 1
        · have hj0 : j = 0 := by omega
          subst hj0
          simp only [Nat.add_zero, List.replicate_zero, List.append_nil] at hWi ⊢
          go_wp2_with (at_builtin; refine wpList_push (w0 := wr) slIntE rfl _ _ rfl rfl rfl hWi.out.2.2.1 x _ rfl (cell_push rfl _ _) rfl (by omega) (by unfold maxLen; omega) hWi.out.2.2.2 ?_; intro p3 c3 w3 hown3 hg3)
          have HW3 : Hid (JSt w3 A B gs gr L most (s1) ∧ Chj A w w3 ∧ Own w3 w.heap.size 3 nE p3 (acc.length + 1) c3 (acc ++ List.replicate 1 x) ∧ w.heap.size ≤ w3.heap.size) := Lib.hid ⟨hWi.out.1.keepInt hWi.out.2.2.1 H.out.le.2.2.2.2.2 hg3, hWi.out.2.1.young hg3 H.out.base (fun k hk => (hWi.out.2.2.1.1.lt k hk).1), hown3, Nat.le_trans hWi.out.2.2.2 hg3.size⟩
          clear hown3 hg3
          go_roundw
          case rel => exact ⟨1, p3, c3, rfl, by first | rfl | go_num, Nat.le_refl _, HW3⟩
          case measure => simp [intOf] <;> omega
        · have hjt : j = 1 := by omega
          have cj : ¬ (j : Int) < 1 := by omega
          have HWJ : Hid (JSt wr A B gs gr L most (s1) ∧ Chj A w wr ∧ Own wr w.heap.size 3 nE p (acc ++ List.replicate j x).length c (acc ++ List.replicate j x) ∧ w.heap.size ≤ wr.heap.size) := Lib.hid (by rw [List.length_append, List.length_replicate]; exact hWi.out)
          go_wp2_with fail
          go_roundw
          case rel => exact ⟨acc ++ List.replicate j x, p, c, k', s1, by simp, by simp; omega, HWJ, Lib.hid (by rw [hjt]; exact HK9.out), HE9⟩
          case measure => simp [lenOf7] <;> omega
end Go.Proofs.Ytgcdeadfkljeaaa
