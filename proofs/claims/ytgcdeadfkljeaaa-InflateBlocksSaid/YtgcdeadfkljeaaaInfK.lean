/- inflate.state: block; Inflate. -/
import Derived.Test.YtgcdeadfkljeaaaInfJ
namespace Go.Proofs.Ytgcdeadfkljeaaa
open Go.RowKit
set_option linter.unusedVariables false
set_option linter.unusedSimpArgs false

theorem bitsK_ok {L : List UInt8} {m : Int} {s : IS} (h : (bitsK L m s).2.e = 0) : s.e = 0 ∧ (bitsK L m s).2.p = s.p + m.toNat := by
  unfold bitsK at h ⊢
  by_cases he : s.e = 0
  · rw [if_pos he] at h ⊢
    refine ⟨he, ?_⟩
    show rdGetAt L s.p m = _
    unfold rdGetAt
    rw [if_pos h]
  · rw [if_neg he] at h; exact absurd h he
theorem alignN_ge (p : Nat) : p ≤ alignN p := by unfold alignN; omega
theorem takeAt_ge (L : List UInt8) (p : Nat) (m : Int) : p ≤ rdTakeAt L p m := by
  have := alignN_ge p
  unfold rdTakeAt
  repeat' split
  all_goals omega
theorem codeK_p (l : List Int) (s : IS) : (codeK l s).p = s.p := by unfold codeK; split; exact failS_p _ _; rfl
theorem storedK_p (L : List UInt8) (most : Int) (s : IS) : s.p ≤ (storedK L most s).p := by
  have h0 := alignN_ge s.p
  have h1 : alignN s.p ≤ (bitsK L 16 { s with p := alignN s.p }).2.p := bitsK_p L 16 { s with p := alignN s.p }
  have h2 := bitsK_p L 16 (bitsK L 16 { s with p := alignN s.p }).2
  unfold storedK
  simp only
  split
  · omega
  · split
    · rw [failS_p]; omega
    · split
      · rw [failS_p]; omega
      · have := takeAt_ge L (bitsK L 16 (bitsK L 16 { s with p := alignN s.p }).2).2.p ((bitsK L 16 { s with p := alignN s.p }).1 : Nat)
        simp only at *
        omega
theorem signsK_p (L : List UInt8) (most : Int) (la lb : List Int) : ∀ (k : Nat) (s : IS), s.p ≤ (signsK L most la lb k s).p
  | 0, s => Nat.le_refl _
  | k+1, s => by
    have h1 := signK_p L la s
    unfold signsK
    split
    · exact Nat.le_refl _
    · split
      · exact h1
      · split
        · have h2 := copyK_p L most lb (signK L la s).1 (signK L la s).2
          have h3 := signsK_p L most la lb k (copyK L most lb (signK L la s).1 (signK L la s).2)
          omega
        · split
          · have h3 := signsK_p L most la lb k (failS 3 (signK L la s).2)
            rw [failS_p] at h3; omega
          · have h3 := signsK_p L most la lb k { (signK L la s).2 with out := (signK L la s).2.out ++ [UInt8.ofNat (signK L la s).1.toNat] }
            exact Nat.le_trans h1 h3
theorem runK_p (L : List UInt8) (x : Int) (acc : List Int) (s : IS) : s.p ≤ (runK L x acc s).2.p := by
  have h2 := bitsK_p L 2 s
  have h3 := bitsK_p L 3 s
  have h7 := bitsK_p L 7 s
  unfold runK
  repeat' split
  · rw [failS_p]; exact h2
  · exact h2
  · exact h3
  · exact h7
  · exact Nat.le_refl _
theorem lenStep_p (L : List UInt8) (l : List Int) (n : Nat) (acc : List Int) (s : IS) : s.p ≤ (lenStep L l n acc s).2.p := by
  have h1 := signK_p L l s
  have h2 := runK_p L (signK L l s).1 acc (signK L l s).2
  unfold lenStep
  simp only
  split
  · rw [failS_p]; omega
  · omega
theorem lensK_p (L : List UInt8) (l : List Int) (n : Nat) : ∀ (k : Nat) (acc : List Int) (s : IS), s.p ≤ (lensK L l n k acc s).2.p
  | 0, acc, s => Nat.le_refl _
  | k+1, acc, s => by
    have h1 := lenStep_p L l n acc s
    unfold lensK
    split
    · split
      · exact h1
      · have := lensK_p L l n k (acc ++ List.replicate (lenStep L l n acc s).1.2 (lenStep L l n acc s).1.1) (lenStep L l n acc s).2
        omega
    · exact Nat.le_refl _
theorem hdrK_p (L : List UInt8) (s : IS) : ∀ k, s.p ≤ (hdrK L k s).2.p
  | 0 => Nat.le_refl _
  | k+1 => by
    have h1 := hdrK_p L s k
    have h2 := bitsK_p L 3 (hdrK L k s).2
    rw [hdrK]
    show s.p ≤ (bitsK L 3 (hdrK L k s).2).2.p
    omega
theorem dynK_p (L : List UInt8) (s : IS) : s.p ≤ (dynK L s).2.p := by
  have h1 := bitsK_p L 5 s
  have h2 := bitsK_p L 5 (bitsK L 5 s).2
  have h3 := bitsK_p L 4 (bitsK L 5 (bitsK L 5 s).2).2
  unfold dynK
  simp only
  generalize hs1 : (if (bitsK L 4 (bitsK L 5 (bitsK L 5 s).2).2).2.e = 0 ∧ ((bitsK L 5 s).1 + 257 > 286 ∨ (bitsK L 5 (bitsK L 5 s).2).1 + 1 > 30) then failS 4 (bitsK L 4 (bitsK L 5 (bitsK L 5 s).2).2).2 else (bitsK L 4 (bitsK L 5 (bitsK L 5 s).2).2).2) = s1
  have h4 : s.p ≤ s1.p := by
    rw [← hs1]; split
    · rw [failS_p]; omega
    · omega
  split
  · exact h4
  · have h5 := hdrK_p L s1 ((bitsK L 4 (bitsK L 5 (bitsK L 5 s).2).2).1 + 4)
    generalize hdrK L ((bitsK L 4 (bitsK L 5 (bitsK L 5 s).2).2).1 + 4) s1 = h at *
    split
    · show s.p ≤ h.2.p; omega
    · have h6 := codeK_p h.1 h.2
      generalize codeK h.1 h.2 = s2 at *
      split
      · show s.p ≤ s2.p; omega
      · generalize hn : (bitsK L 5 s).1 + 257 + ((bitsK L 5 (bitsK L 5 s).2).1 + 1) = n
        have h7 := lensK_p L h.1 n (n + 1) [] s2
        generalize lensK L h.1 n (n + 1) [] s2 = r at *
        generalize hs3 : (if r.2.e = 0 ∧ r.1.getD 256 0 = 0 then failS 12 r.2 else r.2) = s3
        have h8 : s.p ≤ s3.p := by
          rw [← hs3]; split
          · rw [failS_p]; omega
          · omega
        split
        · exact h8
        · show s.p ≤ (codeK _ (codeK _ s3)).p
          rw [codeK_p, codeK_p]; exact h8
/-- A block; true: it was the last one. -/
noncomputable def blockK (L : List UInt8) (most : Int) (s : IS) : Bool × IS :=
  let a := bitsK L 1 s
  let b := bitsK L 2 a.2
  if b.2.e ≠ 0 then (true, b.2) else
  let s3 := if b.1 = 0 then storedK L most b.2 else if b.1 = 1 then signsK L most fixA fixB (8 * L.length + 1) b.2 else if b.1 = 2 then signsK L most (dynK L b.2).1.1 (dynK L b.2).1.2 (8 * L.length + 1) (dynK L b.2).2 else failS 2 b.2
  (decide (a.1 = 1) || decide (s3.e ≠ 0), s3)
theorem blockK_p (L : List UInt8) (most : Int) (s : IS) : s.p ≤ (blockK L most s).2.p ∧ ((blockK L most s).1 = false → s.p < (blockK L most s).2.p) := by
  have h1 := bitsK_p L 1 s
  have h2 := bitsK_p L 2 (bitsK L 1 s).2
  have h3 := storedK_p L most (bitsK L 2 (bitsK L 1 s).2).2
  have h4 := signsK_p L most fixA fixB (8 * L.length + 1) (bitsK L 2 (bitsK L 1 s).2).2
  have h5 := dynK_p L (bitsK L 2 (bitsK L 1 s).2).2
  have h6 := signsK_p L most (dynK L (bitsK L 2 (bitsK L 1 s).2).2).1.1 (dynK L (bitsK L 2 (bitsK L 1 s).2).2).1.2 (8 * L.length + 1) (dynK L (bitsK L 2 (bitsK L 1 s).2).2).2
  unfold blockK
  simp only
  by_cases he : (bitsK L 2 (bitsK L 1 s).2).2.e = 0
  · rw [if_neg (by simpa using he)]
    have h7 := bitsK_ok he
    have h8 := bitsK_ok h7.1
    simp at h7 h8
    have hlt : s.p < (bitsK L 2 (bitsK L 1 s).2).2.p := by rw [h7.2, h8.2]; omega
    simp only
    generalize (bitsK L 2 (bitsK L 1 s).2) = b at *
    have : b.2.p ≤ (if b.1 = 0 then storedK L most b.2 else if b.1 = 1 then signsK L most fixA fixB (8 * L.length + 1) b.2 else if b.1 = 2 then signsK L most (dynK L b.2).1.1 (dynK L b.2).1.2 (8 * L.length + 1) (dynK L b.2).2 else failS 2 b.2).p := by
      repeat' split
      · exact h3
      · exact h4
      · omega
      · rw [failS_p]; exact Nat.le_refl _
    exact ⟨by omega, fun _ => by omega⟩
  · rw [if_pos he]
    exact ⟨by simp only; omega, fun h => by cases h⟩
def BlkPost (A B gs gr : Nat) (L : List UInt8) (most : Int) (w : World) (r : Bool × IS) (e : Ending) (w' : World) : Prop := e = .returned (.bool r.1) ∧ ISt w' A B gs gr L most r.2 ∧ Chg A w w'
set_option maxRecDepth 100000 in
set_option maxHeartbeats 8000000 in
/-- Where there is an error already. -/
theorem iSigns_bad {A B gs gr : Nat} {L : List UInt8} {most : Int} {s : IS} (p q : Option Addr) (w : World) (h : ISt w A B gs gr L most s) (he : s.e ≠ 0) :
  Calls Try.prog 60 #[.pointer (some ⟨gs, 0, none⟩), .pointer p, .pointer q] w (Ret0 A B gs gr L most w s) := by
  have H := Lib.hid h
  obtain ⟨q', n, c, -, -, -, e3, -, -⟩ := h.cells
  have heb : (s.e == 0) = false := by simpa using he
  clear h
  go_enter Try.func60, Try.ntmps60
  go_wp2_with fail
  go_loopw [] (fun wr => Hid (wr = w)) (fun _ => 0)
  case atStart => exact Lib.hid rfl
  case round =>
    have hw := hrel.out
    subst hw
    go_wp2_with fail
    go_end0
    exact ⟨rfl, H.out, Chg.refl _ _⟩
theorem signsK_bad {L : List UInt8} {most : Int} {la lb : List Int} {k : Nat} {s : IS} (he : s.e ≠ 0) : signsK L most la lb k s = s := by
  cases k with
  | zero => rfl
  | succ k => unfold signsK; rw [if_pos he]
set_option maxRecDepth 100000 in
set_option maxHeartbeats 8000000 in
theorem iBlock_any {A B gs gr : Nat} {L : List UInt8} {most : Int} {s : IS} (w : World) (h : ISt w A B gs gr L most s) (hmost : 0 ≤ most ∧ most ≤ 16777216) :
  Calls Try.prog 26 #[.pointer (some ⟨gs, 0, none⟩)] w (BlkPost A B gs gr L most w (blockK L most s)) := by
  have H := Lib.hid h
  obtain ⟨tot, htot⟩ : ∃ t, t = blockK L most s := ⟨_, rfl⟩
  rw [← htot]
  have HT := Lib.hid htot
  unfold blockK at HT
  clear htot h
  have HV1 : Hid ((bitsK L 1 s).1 < 2) := Lib.hid (bitsK_lt L 1 (by decide) s)
  have HB1 := Lib.hid (iBits_any 1 w H.out (by decide))
  unfold StPost at HB1
  generalize bitsK L 1 s = b1 at *
  obtain ⟨va, s1⟩ := b1
  simp only at HB1 HV1 HT
  obtain ⟨last, hlast, HLS⟩ : ∃ last : Bool, ((va : Int) == 1) = last ∧ Hid (last = decide (va = 1)) := by
    refine ⟨_, rfl, Lib.hid ?_⟩
    by_cases hv : va = 1
    · subst hv; rfl
    · rw [decide_eq_false hv]; simp; omega
  go_enter Try.func26, Try.ntmps26
  go_wp2_with fail
  refine HB1.out.mono ?_
  rintro e w1 ⟨rfl, h1, k1⟩
  have H1 : Hid (ISt w1 A B gs gr L most s1 ∧ Chg A w w1) := Lib.hid ⟨h1, k1⟩
  clear h1 k1 HB1
  have HV2 : Hid ((bitsK L 2 s1).1 < 4) := Lib.hid (bitsK_lt L 2 (by decide) s1)
  have HB2 := Lib.hid (iBits_any 2 w1 H1.out.1 (by decide))
  unfold StPost at HB2
  generalize bitsK L 2 s1 = b2 at *
  obtain ⟨vk, s2⟩ := b2
  simp only at HB2 HV2 HT
  rw [← HLS.out] at HT
  clear HLS HV1
  go_wp2_with fail
  refine HB2.out.mono ?_
  rintro e w2 ⟨rfl, h2, k2⟩
  have H2 : Hid (ISt w2 A B gs gr L most s2 ∧ Chg A w w2) := Lib.hid ⟨h2, H1.out.2.trans k2⟩
  obtain ⟨q, n, c, -, -, -, e3, -, -⟩ := h2.cells
  clear h2 k2 HB2 H1
  by_cases he : s2.e = 0
  · rw [he] at e3
    simp only [if_neg (show ¬ s2.e ≠ 0 by simpa using he)] at HT
    have hv4 := HV2.out
    have hcase : vk = 0 ∨ vk = 1 ∨ vk = 2 ∨ vk = 3 := by omega
    rcases hcase with rfl | rfl | rfl | rfl
    · simp only [if_pos] at HT
      go_wp2_with fail
      refine (iStored_any w2 H2.out.1 hmost).mono ?_
      rintro e w3 ⟨rfl, h3, k3⟩
      have H9 : Hid (ISt w3 A B gs gr L most (storedK L most s2) ∧ Chg A w w3) := Lib.hid ⟨h3, H2.out.2.trans k3⟩
      obtain ⟨q9, n9, c9, -, -, -, d3, -, -⟩ := h3.cells
      generalize hs9 : (storedK L most s2) = s9 at *
      replace hs9 := Lib.hid hs9
      clear h3 k3
      have HTT : Hid (tot = (last || decide (s9.e ≠ 0), s9)) := Lib.hid (by rw [HT.out])
      by_cases he9 : s9.e = 0
      · rw [he9] at d3
        cases last with
        | true =>
          go_wp2_with fail
          go_ret
          rw [HTT.out]
          exact ⟨rfl, H9.out.1, H9.out.2⟩
        | false =>
          have HTT2 : Hid (tot = (false, s9)) := Lib.hid (by rw [HTT.out, he9]; rfl)
          go_wp2_with fail
          go_ret
          rw [HTT2.out]
          exact ⟨rfl, H9.out.1, H9.out.2⟩
      · have heb9 : (s9.e != 0) = true := by simpa using he9
        have HTT2 : Hid (tot = (true, s9)) := Lib.hid (by rw [HTT.out, decide_eq_true he9, Bool.or_true])
        cases last with
        | true =>
          go_wp2_with fail
          go_ret
          rw [HTT2.out]
          exact ⟨rfl, H9.out.1, H9.out.2⟩
        | false =>
          go_wp2_with fail
          go_ret
          rw [HTT2.out]
          exact ⟨rfl, H9.out.1, H9.out.2⟩
    · simp only [show ¬ (1 : Nat) = 0 by decide, if_false, if_true] at HT
      go_wp2_with fail
      refine (iFixed_any w2).mono ?_
      rintro e w3 ⟨gc, gf, rfl, hc3, hf3, hb3⟩
      have H3 : Hid (ISt w3 A B gs gr L most s2 ∧ Chg A w w3 ∧ CodeOk w3 gc fixA ∧ CodeOk w3 gf fixB) := Lib.hid ⟨H2.out.1.below hb3, H2.out.2.trans (Chg.of_below hb3 H2.out.1.base), hc3, hf3⟩
      clear hc3 hf3 hb3 H2 e3
      go_wp2_with fail
      refine (iSigns_any gc gf fixA fixB w3 H3.out.1 H3.out.2.2.1 H3.out.2.2.2 hmost).mono ?_
      rintro e w4 ⟨rfl, h3, k3⟩
      have H9 : Hid (ISt w4 A B gs gr L most (signsK L most fixA fixB (8 * L.length + 1) s2) ∧ Chg A w w4) := Lib.hid ⟨h3, H3.out.2.1.trans k3⟩
      obtain ⟨q9, n9, c9, -, -, -, d3, -, -⟩ := h3.cells
      generalize hs9 : (signsK L most fixA fixB (8 * L.length + 1) s2) = s9 at *
      replace hs9 := Lib.hid hs9
      clear h3 k3
      have HTT : Hid (tot = (last || decide (s9.e ≠ 0), s9)) := Lib.hid (by rw [HT.out])
      by_cases he9 : s9.e = 0
      · rw [he9] at d3
        cases last with
        | true =>
          go_wp2_with fail
          go_ret
          rw [HTT.out]
          exact ⟨rfl, H9.out.1, H9.out.2⟩
        | false =>
          have HTT2 : Hid (tot = (false, s9)) := Lib.hid (by rw [HTT.out, he9]; rfl)
          go_wp2_with fail
          go_ret
          rw [HTT2.out]
          exact ⟨rfl, H9.out.1, H9.out.2⟩
      · have heb9 : (s9.e != 0) = true := by simpa using he9
        have HTT2 : Hid (tot = (true, s9)) := Lib.hid (by rw [HTT.out, decide_eq_true he9, Bool.or_true])
        cases last with
        | true =>
          go_wp2_with fail
          go_ret
          rw [HTT2.out]
          exact ⟨rfl, H9.out.1, H9.out.2⟩
        | false =>
          go_wp2_with fail
          go_ret
          rw [HTT2.out]
          exact ⟨rfl, H9.out.1, H9.out.2⟩
    · simp only [show ¬ (2 : Nat) = 0 by decide, show ¬ (2 : Nat) = 1 by decide, if_false, if_true] at HT
      have HD := Lib.hid (iDyn_any w2 H2.out.1)
      generalize dynK L s2 = dd at *
      obtain ⟨⟨la, lb⟩, s3⟩ := dd
      simp only at HT
      go_wp2_with fail
      refine HD.out.mono ?_
      rintro e w3 ⟨h3, k3, v1, v2, rfl, hcf⟩
      have H3 : Hid (ISt w3 A B gs gr L most s3 ∧ Chg A w w3) := Lib.hid ⟨h3, H2.out.2.trans k3⟩
      clear h3 k3 HD H2 e3
      by_cases hse : s3.e = 0
      · obtain ⟨gc, gf, rfl, rfl, hc3, hf3⟩ := hcf hse
        have HC := Lib.hid (And.intro hc3 hf3)
        clear hc3 hf3 hcf
        go_wp2_with fail
        refine (iSigns_any gc gf la lb w3 H3.out.1 HC.out.1 HC.out.2 hmost).mono ?_
        rintro e w4 ⟨rfl, h3, k3⟩
        have H9 : Hid (ISt w4 A B gs gr L most (signsK L most la lb (8 * L.length + 1) s3) ∧ Chg A w w4) := Lib.hid ⟨h3, H3.out.2.trans k3⟩
        obtain ⟨q9, n9, c9, -, -, -, d3, -, -⟩ := h3.cells
        generalize hs9 : (signsK L most la lb (8 * L.length + 1) s3) = s9 at *
        replace hs9 := Lib.hid hs9
        clear h3 k3
        have HTT : Hid (tot = (last || decide (s9.e ≠ 0), s9)) := Lib.hid (by rw [HT.out])
        by_cases he9 : s9.e = 0
        · rw [he9] at d3
          cases last with
          | true =>
            go_wp2_with fail
            go_ret
            rw [HTT.out]
            exact ⟨rfl, H9.out.1, H9.out.2⟩
          | false =>
            have HTT2 : Hid (tot = (false, s9)) := Lib.hid (by rw [HTT.out, he9]; rfl)
            go_wp2_with fail
            go_ret
            rw [HTT2.out]
            exact ⟨rfl, H9.out.1, H9.out.2⟩
        · have heb9 : (s9.e != 0) = true := by simpa using he9
          have HTT2 : Hid (tot = (true, s9)) := Lib.hid (by rw [HTT.out, decide_eq_true he9, Bool.or_true])
          cases last with
          | true =>
            go_wp2_with fail
            go_ret
            rw [HTT2.out]
            exact ⟨rfl, H9.out.1, H9.out.2⟩
          | false =>
            go_wp2_with fail
            go_ret
            rw [HTT2.out]
            exact ⟨rfl, H9.out.1, H9.out.2⟩
      · rw [signsK_bad hse] at HT
        clear hcf
        go_wp2_with fail
        refine (iSigns_bad v1 v2 w3 H3.out.1 hse).mono ?_
        rintro e w4 ⟨rfl, h3, k3⟩
        have H9 : Hid (ISt w4 A B gs gr L most (s3) ∧ Chg A w w4) := Lib.hid ⟨h3, H3.out.2.trans k3⟩
        obtain ⟨q9, n9, c9, -, -, -, d3, -, -⟩ := h3.cells
        obtain ⟨s9, hs9⟩ : ∃ s9, s9 = s3 := ⟨_, rfl⟩
        rw [← hs9] at H9 d3 HT
        replace hs9 := Lib.hid hs9
        clear h3 k3
        have HTT : Hid (tot = (last || decide (s9.e ≠ 0), s9)) := Lib.hid (by rw [HT.out])
        by_cases he9 : s9.e = 0
        · rw [he9] at d3
          cases last with
          | true =>
            go_wp2_with fail
            go_ret
            rw [HTT.out]
            exact ⟨rfl, H9.out.1, H9.out.2⟩
          | false =>
            have HTT2 : Hid (tot = (false, s9)) := Lib.hid (by rw [HTT.out, he9]; rfl)
            go_wp2_with fail
            go_ret
            rw [HTT2.out]
            exact ⟨rfl, H9.out.1, H9.out.2⟩
        · have heb9 : (s9.e != 0) = true := by simpa using he9
          have HTT2 : Hid (tot = (true, s9)) := Lib.hid (by rw [HTT.out, decide_eq_true he9, Bool.or_true])
          cases last with
          | true =>
            go_wp2_with fail
            go_ret
            rw [HTT2.out]
            exact ⟨rfl, H9.out.1, H9.out.2⟩
          | false =>
            go_wp2_with fail
            go_ret
            rw [HTT2.out]
            exact ⟨rfl, H9.out.1, H9.out.2⟩
    · simp only [show ¬ (3 : Nat) = 0 by decide, show ¬ (3 : Nat) = 1 by decide, show ¬ (3 : Nat) = 2 by decide, if_false] at HT
      go_wp2_with fail
      refine (iFail_any 2 w2 H2.out.1).mono ?_
      rintro e w3 ⟨rfl, h3, k3⟩
      have H9 : Hid (ISt w3 A B gs gr L most (failS 2 s2) ∧ Chg A w w3) := Lib.hid ⟨h3, H2.out.2.trans k3⟩
      obtain ⟨q9, n9, c9, -, -, -, d3, -, -⟩ := h3.cells
      generalize hs9 : (failS 2 s2) = s9 at *
      replace hs9 := Lib.hid hs9
      clear h3 k3
      have HTT : Hid (tot = (last || decide (s9.e ≠ 0), s9)) := Lib.hid (by rw [HT.out])
      by_cases he9 : s9.e = 0
      · rw [he9] at d3
        cases last with
        | true =>
          go_wp2_with fail
          go_ret
          rw [HTT.out]
          exact ⟨rfl, H9.out.1, H9.out.2⟩
        | false =>
          have HTT2 : Hid (tot = (false, s9)) := Lib.hid (by rw [HTT.out, he9]; rfl)
          go_wp2_with fail
          go_ret
          rw [HTT2.out]
          exact ⟨rfl, H9.out.1, H9.out.2⟩
      · have heb9 : (s9.e != 0) = true := by simpa using he9
        have HTT2 : Hid (tot = (true, s9)) := Lib.hid (by rw [HTT.out, decide_eq_true he9, Bool.or_true])
        cases last with
        | true =>
          go_wp2_with fail
          go_ret
          rw [HTT2.out]
          exact ⟨rfl, H9.out.1, H9.out.2⟩
        | false =>
          go_wp2_with fail
          go_ret
          rw [HTT2.out]
          exact ⟨rfl, H9.out.1, H9.out.2⟩
  · have heb : (s2.e != 0) = true := by simpa using he
    simp only [if_pos (show s2.e ≠ 0 from he)] at HT
    go_wp2_with fail
    go_ret
    rw [HT.out]
    exact ⟨rfl, H2.out.1, H2.out.2⟩
end Go.Proofs.Ytgcdeadfkljeaaa
