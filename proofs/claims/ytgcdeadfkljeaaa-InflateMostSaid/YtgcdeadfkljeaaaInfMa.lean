/- What Inflate answers with more room, with less, and with bytes behind: plain. -/
import Derived.Test.YtgcdeadfkljeaaaInfU
namespace Go.Proofs.Ytgcdeadfkljeaaa
open Go.RowKit
set_option linter.unusedVariables false
set_option linter.unusedSimpArgs false

/-- Rows of which the first N bytes are the same. -/
structure Agr (L L' : List UInt8) (N : Nat) : Prop where
  le : N ≤ L.length
  le' : N ≤ L'.length
  tk : L.take N = L'.take N
theorem ofL_takeN (L : List UInt8) (N : Nat) (h : N ≤ L.length) : (ofL L).take (8 * N) = ofL (L.take N) := by
  have h1 : ofL L = ofL (L.take N) ++ ofL (L.drop N) := by rw [← ofL_append, List.take_append_drop]
  rw [h1, List.take_left']
  rw [ofL_length, List.length_take]; omega
section
variable {L L' : List UInt8} {N : Nat}
theorem Agr.bit (a : Agr L L' N) {i : Nat} (h : i < 8 * N) : (ofL L)[i]? = (ofL L')[i]? := by
  have h1 := ofL_takeN L N a.le
  have h2 := ofL_takeN L' N a.le'
  rw [← a.tk, ← h1] at h2
  have h3 := congrArg (fun l => l[i]?) h2
  simp only [List.getElem?_take, if_pos h] at h3
  exact h3.symm
theorem Agr.seg (a : Agr L L' N) {p m : Nat} (h : p + m ≤ 8 * N) : ((ofL L').drop p).take m = ((ofL L).drop p).take m := by
  apply List.ext_getElem?
  intro i
  simp only [List.getElem?_take, List.getElem?_drop]
  split
  · exact (a.bit (by omega)).symm
  · rfl
theorem Agr.bytes (a : Agr L L' N) {p m : Nat} (h : p + m ≤ N) : (L'.drop p).take m = (L.drop p).take m := by
  apply List.ext_getElem?
  intro i
  simp only [List.getElem?_take, List.getElem?_drop]
  split
  · have h3 := congrArg (fun l => l[p + i]?) a.tk
    simp only [List.getElem?_take, if_pos (show p + i < N by omega)] at h3
    exact h3.symm
  · rfl
theorem failS_x {x : Int} {s : IS} (h : s.e = 0) : (failS x s).e = x := by unfold failS; rw [if_pos h]
theorem bitsK_le {m : Int} {s : IS} (h : s.p ≤ 8 * L.length) : (bitsK L m s).2.p ≤ 8 * L.length := by
  unfold bitsK; split
  · show rdGetAt L s.p m ≤ _
    unfold rdGetAt; split
    · rename_i h1
      unfold rdGetEr at h1
      split at h1
      · cases h1
      · split at h1
        · cases h1
        · omega
    · exact h
  · exact h
theorem bitsK_agr (a : Agr L L' N) {m : Int} {s : IS} (h : (bitsK L m s).2.e = 0) (hp : (bitsK L m s).2.p ≤ 8 * N) : bitsK L' m s = bitsK L m s := by
  have h1 := bitsK_ok h
  rw [h1.2] at hp
  unfold bitsK at h ⊢
  rw [if_pos h1.1] at h ⊢
  rw [if_pos h1.1]
  have h : rdGetEr L s.p m = 0 := h
  have hm : 0 ≤ m ∧ m ≤ 32 := by
    unfold rdGetEr at h
    split at h
    · cases h
    · omega
  have h' : rdGetEr L' s.p m = 0 := by
    have := a.le'
    unfold rdGetEr
    rw [if_neg (by omega), if_neg (by omega)]
  have hv : rdGetV L' s.p m = rdGetV L s.p m := by unfold rdGetV; rw [if_pos h, if_pos h', a.seg hp]
  have ha : rdGetAt L' s.p m = rdGetAt L s.p m := by unfold rdGetAt; rw [if_pos h, if_pos h']
  rw [hv, ha, h, h']
theorem decG_le {l : List Int} {B : List Bool} : ∀ {k n word : Nat}, (decG l B k n word).2.2 ≤ B.length
  | 0, n, word => by simp [decG]
  | k + 1, n, word => by
    unfold decG
    cases hb : B[n]? with
    | none => simp
    | some b =>
      have hn := (List.getElem?_eq_some_iff.1 hb).1
      simp only
      split
      · show n + 1 ≤ _
        omega
      · exact decG_le
theorem decG_agr {l : List Int} {B B' : List Bool} {M : Nat} (hb : ∀ i, i < M → B[i]? = B'[i]?) : ∀ {k n word : Nat}, (decG l B k n word).2.1 = 0 → (decG l B k n word).2.2 ≤ M → decG l B' k n word = decG l B k n word
  | 0, n, word, h, _ => by simp [decG] at h
  | k + 1, n, word, h, hM => by
    have hn := (decG_ok h).1
    have hbn := hb n (by omega)
    unfold decG at h hM ⊢
    rw [← hbn]
    cases hB : B[n]? with
    | none => rfl
    | some b =>
      rw [hB] at h hM
      simp only at h hM ⊢
      split
      · rfl
      · rename_i hc
        rw [if_neg hc] at h hM
        exact decG_agr hb h hM
theorem signK_le {l : List Int} {s : IS} (h : s.p ≤ 8 * L.length) : (signK L l s).2.p ≤ 8 * L.length := by
  unfold signK; split
  · show s.p + (getS l ((ofL L).drop s.p)).2.2 ≤ _
    have h1 : (getS l ((ofL L).drop s.p)).2.2 ≤ _ := decG_le
    rw [List.length_drop, ofL_length] at h1
    omega
  · exact h
theorem signK_agr (a : Agr L L' N) {l : List Int} {s : IS} (h : (signK L l s).2.e = 0) (hp : (signK L l s).2.p ≤ 8 * N) : signK L' l s = signK L l s := by
  have h1 := signK_ok h
  unfold signK at h hp ⊢
  rw [if_pos h1.1] at h hp ⊢
  rw [if_pos h1.1]
  have h : (getS l ((ofL L).drop s.p)).2.1 = 0 := h
  have hp : s.p + (getS l ((ofL L).drop s.p)).2.2 ≤ 8 * N := hp
  have hg : getS l ((ofL L').drop s.p) = getS l ((ofL L).drop s.p) := by
    unfold getS at h hp ⊢
    refine decG_agr (M := 8 * N - s.p) (fun i hi => ?_) h (by omega)
    rw [List.getElem?_drop, List.getElem?_drop]
    exact a.bit (by omega)
  rw [hg]
theorem runK_lp {x : Int} {acc : List Int} {s : IS} (h : s.p ≤ 8 * L.length) : (runK L x acc s).2.p ≤ 8 * L.length := by
  unfold runK
  repeat' split
  · rw [failS_p]; exact bitsK_le h
  · exact bitsK_le h
  · exact bitsK_le h
  · exact bitsK_le h
  · exact h
theorem runK_agr (a : Agr L L' N) {x : Int} {acc : List Int} {s : IS} (h : (runK L x acc s).2.e = 0) (hp : (runK L x acc s).2.p ≤ 8 * N) : runK L' x acc s = runK L x acc s := by
  unfold runK at h hp ⊢
  by_cases h1 : x = 16
  · rw [if_pos h1] at h hp ⊢
    rw [if_pos h1]
    by_cases h2 : acc = []
    · rw [if_pos h2] at h
      exact absurd h (failS_ne (by decide) _)
    · rw [if_neg h2] at h hp ⊢
      rw [if_neg h2, bitsK_agr a h hp]
  · rw [if_neg h1] at h hp ⊢
    rw [if_neg h1]
    by_cases h2 : x = 17
    · rw [if_pos h2] at h hp ⊢
      rw [if_pos h2, bitsK_agr a h hp]
    · rw [if_neg h2] at h hp ⊢
      rw [if_neg h2]
      by_cases h3 : x = 18
      · rw [if_pos h3] at h hp ⊢
        rw [if_pos h3, bitsK_agr a h hp]
      · rw [if_neg h3]
        rw [if_neg h3]
theorem runK_bad {x : Int} {acc : List Int} {s : IS} (h : s.e ≠ 0) : (runK L x acc s).2.e ≠ 0 := by
  have hb : ∀ m, (bitsK L m s).2.e ≠ 0 := fun m => by unfold bitsK; rw [if_neg h]; exact h
  unfold runK
  repeat' split
  · exact failS_ne (by decide) _
  · exact hb _
  · exact hb _
  · exact hb _
  · exact h
theorem lenStep_le {l : List Int} {n : Nat} {acc : List Int} {s : IS} (h : s.p ≤ 8 * L.length) : (lenStep L l n acc s).2.p ≤ 8 * L.length := by
  unfold lenStep
  simp only
  split
  · rw [failS_p]; exact runK_lp (signK_le h)
  · exact runK_lp (signK_le h)
theorem lenStep_agr (a : Agr L L' N) {l : List Int} {n : Nat} {acc : List Int} {s : IS} (h : (lenStep L l n acc s).2.e = 0) (hp : (lenStep L l n acc s).2.p ≤ 8 * N) : lenStep L' l n acc s = lenStep L l n acc s := by
  unfold lenStep at h hp ⊢
  simp only at h hp ⊢
  by_cases h1 : (((runK L (signK L l s).1 acc (signK L l s).2).1.2 : Nat) : Int) > (n : Int) - (acc.length : Int)
  · rw [if_pos h1] at h
    exact absurd h (failS_ne (by decide) _)
  · rw [if_neg h1] at h hp
    have h2 : (signK L l s).2.e = 0 := by
      apply Classical.byContradiction
      intro hc
      exact runK_bad hc h
    have h3 := runK_p L (signK L l s).1 acc (signK L l s).2
    have e1 : signK L' l s = signK L l s := signK_agr a h2 (by omega)
    have e2 : runK L' (signK L l s).1 acc (signK L l s).2 = runK L (signK L l s).1 acc (signK L l s).2 := runK_agr a h hp
    rw [e1, e2]
theorem lensK_le {l : List Int} {n : Nat} : ∀ (k : Nat) (acc : List Int) (s : IS), s.p ≤ 8 * L.length → (lensK L l n k acc s).2.p ≤ 8 * L.length
  | 0, acc, s, h => h
  | k+1, acc, s, h => by
    unfold lensK
    split
    · split
      · exact lenStep_le h
      · exact lensK_le k _ _ (lenStep_le h)
    · exact h
theorem lensK_agr (a : Agr L L' N) {l : List Int} {n : Nat} : ∀ (k : Nat) (acc : List Int) (s : IS), (lensK L l n k acc s).2.e = 0 → (lensK L l n k acc s).2.p ≤ 8 * N → lensK L' l n k acc s = lensK L l n k acc s
  | 0, acc, s, h, hp => rfl
  | k+1, acc, s, h, hp => by
    unfold lensK at h hp ⊢
    by_cases h1 : acc.length < n
    · rw [if_pos h1] at h hp ⊢
      rw [if_pos h1]
      by_cases h2 : (lenStep L l n acc s).2.e = 0
      · rw [if_neg (Classical.not_not.2 h2)] at h hp ⊢
        have h3 := lensK_p L l n k (acc ++ List.replicate (lenStep L l n acc s).1.2 (lenStep L l n acc s).1.1) (lenStep L l n acc s).2
        have e1 : lenStep L' l n acc s = lenStep L l n acc s := lenStep_agr a h2 (by omega)
        rw [e1, if_neg (Classical.not_not.2 h2)]
        exact lensK_agr a k _ _ h hp
      · rw [if_pos h2] at h
        exact absurd h h2
    · rw [if_neg h1]
      rw [if_neg h1]
theorem hdrK_le {s : IS} (h : s.p ≤ 8 * L.length) : ∀ k, (hdrK L k s).2.p ≤ 8 * L.length
  | 0 => h
  | k+1 => by
    rw [hdrK]
    show (bitsK L 3 (hdrK L k s).2).2.p ≤ _
    exact bitsK_le (hdrK_le h k)
theorem hdrK_agr (a : Agr L L' N) {s : IS} : ∀ k, (hdrK L k s).2.e = 0 → (hdrK L k s).2.p ≤ 8 * N → hdrK L' k s = hdrK L k s
  | 0, _, _ => rfl
  | k+1, h, hp => by
    rw [hdrK] at h hp
    have h : (bitsK L 3 (hdrK L k s).2).2.e = 0 := h
    have hp : (bitsK L 3 (hdrK L k s).2).2.p ≤ 8 * N := hp
    have h1 := bitsK_ok h
    have e1 := hdrK_agr a k h1.1 (by omega)
    rw [hdrK, hdrK, e1, bitsK_agr a h hp]
theorem codeK_ok {l : List Int} {s : IS} (h : (codeK l s).e = 0) : codeK l s = s := by
  unfold codeK at h ⊢
  split
  · rename_i h1; rw [if_pos h1] at h; exact absurd h (failS_ne (by decide) _)
  · rfl
theorem dynK_le {s : IS} (h : s.p ≤ 8 * L.length) : (dynK L s).2.p ≤ 8 * L.length := by
  have h3 : (bitsK L 4 (bitsK L 5 (bitsK L 5 s).2).2).2.p ≤ 8 * L.length := bitsK_le (bitsK_le (bitsK_le h))
  unfold dynK
  simp only
  generalize hs1 : (if (bitsK L 4 (bitsK L 5 (bitsK L 5 s).2).2).2.e = 0 ∧ ((bitsK L 5 s).1 + 257 > 286 ∨ (bitsK L 5 (bitsK L 5 s).2).1 + 1 > 30) then failS 4 (bitsK L 4 (bitsK L 5 (bitsK L 5 s).2).2).2 else (bitsK L 4 (bitsK L 5 (bitsK L 5 s).2).2).2) = s1
  have h4 : s1.p ≤ 8 * L.length := by
    rw [← hs1]; split
    · rw [failS_p]; exact h3
    · exact h3
  split
  · exact h4
  · have h5 := hdrK_le h4 ((bitsK L 4 (bitsK L 5 (bitsK L 5 s).2).2).1 + 4)
    generalize hdrK L ((bitsK L 4 (bitsK L 5 (bitsK L 5 s).2).2).1 + 4) s1 = h at *
    split
    · exact h5
    · have h6 := codeK_p h.1 h.2
      generalize codeK h.1 h.2 = s2 at *
      split
      · show s2.p ≤ _; omega
      · generalize hn : (bitsK L 5 s).1 + 257 + ((bitsK L 5 (bitsK L 5 s).2).1 + 1) = n
        have h7 := lensK_le (L := L) (l := h.1) (n := n) (n + 1) [] s2 (by omega)
        generalize lensK L h.1 n (n + 1) [] s2 = r at *
        generalize hs3 : (if r.2.e = 0 ∧ r.1.getD 256 0 = 0 then failS 12 r.2 else r.2) = s3
        have h8 : s3.p ≤ 8 * L.length := by
          rw [← hs3]; split
          · rw [failS_p]; omega
          · omega
        split
        · exact h8
        · show (codeK _ (codeK _ s3)).p ≤ _
          rw [codeK_p, codeK_p]; exact h8
theorem codeK_kind {l : List Int} {s : IS} (h : kindS l ≠ 0) : codeK l s = s := by unfold codeK; rw [if_neg h]
def DynOk (L : List UInt8) (s : IS) (a b c : Nat × IS) (h r : List Int × IS) : Prop :=
  bitsK L 5 s = a ∧ bitsK L 5 a.2 = b ∧ bitsK L 4 b.2 = c ∧ c.2.e = 0 ∧ ¬ (a.1 + 257 > 286 ∨ b.1 + 1 > 30) ∧ hdrK L (c.1 + 4) c.2 = h ∧ h.2.e = 0 ∧ kindS h.1 ≠ 0 ∧
    lensK L h.1 (a.1 + 257 + (b.1 + 1)) (a.1 + 257 + (b.1 + 1) + 1) [] h.2 = r ∧ r.2.e = 0 ∧ r.1.getD 256 0 ≠ 0
theorem dynK_of {s : IS} {a b c : Nat × IS} {h r : List Int × IS} (hd : DynOk L s a b c h r) :
    dynK L s = ((r.1.take (a.1 + 257), r.1.drop (a.1 + 257)), codeK (r.1.drop (a.1 + 257)) (codeK (r.1.take (a.1 + 257)) r.2)) := by
  obtain ⟨e1, e2, e3, he, hn, e4, hh, hk, e5, hr, hg⟩ := hd
  unfold dynK
  simp only [e1, e2, e3]
  rw [if_neg (show ¬ (c.2.e = 0 ∧ (a.1 + 257 > 286 ∨ b.1 + 1 > 30)) from fun h => hn h.2), if_neg (Classical.not_not.2 he), e4, if_neg (Classical.not_not.2 hh), codeK_kind hk, if_neg (Classical.not_not.2 hh), e5,
    if_neg (show ¬ (r.2.e = 0 ∧ r.1.getD 256 0 = 0) from fun h => hg h.2), if_neg (Classical.not_not.2 hr)]
theorem dynK_ok {s : IS} (hd : (dynK L s).2.e = 0) : ∃ a b c h r, DynOk L s a b c h r := by
  unfold dynK at hd
  simp only at hd
  generalize e1 : bitsK L 5 s = a at *
  generalize e2 : bitsK L 5 a.2 = b at *
  generalize e3 : bitsK L 4 b.2 = c at *
  by_cases h1 : c.2.e = 0 ∧ (a.1 + 257 > 286 ∨ b.1 + 1 > 30)
  · rw [if_pos h1, if_pos (failS_ne (by decide) _)] at hd
    exact absurd hd (failS_ne (by decide) _)
  rw [if_neg h1] at hd
  by_cases h2 : c.2.e = 0
  · rw [if_neg (Classical.not_not.2 h2)] at hd
    generalize e4 : hdrK L (c.1 + 4) c.2 = h at *
    by_cases h3 : h.2.e = 0
    · rw [if_neg (Classical.not_not.2 h3)] at hd
      by_cases h4 : kindS h.1 = 0
      · have h5 : codeK h.1 h.2 = failS 12 h.2 := by unfold codeK; rw [if_pos h4]
        rw [h5, if_pos (failS_ne (by decide) _)] at hd
        exact absurd hd (failS_ne (by decide) _)
      · rw [codeK_kind h4, if_neg (Classical.not_not.2 h3)] at hd
        generalize e5 : lensK L h.1 (a.1 + 257 + (b.1 + 1)) (a.1 + 257 + (b.1 + 1) + 1) [] h.2 = r at *
        by_cases h6 : r.2.e = 0 ∧ r.1.getD 256 0 = 0
        · rw [if_pos h6, if_pos (failS_ne (by decide) _)] at hd
          exact absurd hd (failS_ne (by decide) _)
        · rw [if_neg h6] at hd
          by_cases h7 : r.2.e = 0
          · exact ⟨a, b, c, h, r, e1, e2, e3, h2, fun h => h1 ⟨h2, h⟩, e4, h3, h4, e5, h7, fun h => h6 ⟨h7, h⟩⟩
          · rw [if_pos h7] at hd; exact absurd hd h7
    · rw [if_pos h3] at hd; exact absurd hd h3
  · rw [if_pos h2] at hd; exact absurd hd h2
theorem dynK_agr (a : Agr L L' N) {s : IS} (h : (dynK L s).2.e = 0) (hp : (dynK L s).2.p ≤ 8 * N) : dynK L' s = dynK L s := by
  obtain ⟨x, b, c, g, r, hd⟩ := dynK_ok h
  have hdd := hd
  obtain ⟨e1, e2, e3, he, hn, e4, hh, hk, e5, hr, hg⟩ := hd
  rw [dynK_of hdd] at hp
  have hp : r.2.p ≤ 8 * N := by
    have h1 : (codeK (r.1.drop (x.1 + 257)) (codeK (r.1.take (x.1 + 257)) r.2)).p ≤ 8 * N := hp
    rwa [codeK_p, codeK_p] at h1
  have q5 := lensK_p L g.1 (x.1 + 257 + (b.1 + 1)) (x.1 + 257 + (b.1 + 1) + 1) [] g.2
  have q4 := hdrK_p L c.2 (c.1 + 4)
  have q3 := bitsK_p L 4 b.2
  have q2 := bitsK_p L 5 x.2
  have hb : (bitsK L 4 b.2).2.e = 0 := by rw [e3]; exact he
  have k3 := (bitsK_ok hb).1
  have hx : (bitsK L 5 x.2).2.e = 0 := by rw [e2]; exact k3
  have k2 := (bitsK_ok hx).1
  rw [e5] at q5; rw [e4] at q4; rw [e3] at q3; rw [e2] at q2
  have d : DynOk L' s x b c g r := by
    refine ⟨?_, ?_, ?_, he, hn, ?_, hh, hk, ?_, hr, hg⟩
    · rw [← e1]; exact bitsK_agr a (by rw [e1]; exact k2) (by rw [e1]; omega)
    · rw [← e2]; exact bitsK_agr a hx (by rw [e2]; omega)
    · rw [← e3]; exact bitsK_agr a hb (by rw [e3]; omega)
    · rw [← e4]; exact hdrK_agr a _ (by rw [e4]; exact hh) (by rw [e4]; omega)
    · rw [← e5]; exact lensK_agr a _ _ _ (by rw [e5]; exact hr) (by rw [e5]; exact hp)
  rw [dynK_of d, dynK_of hdd]
/-- What another room, M, makes of what ends as r. -/
def Room (M : Int) (r r' : IS) : Prop := ((r.out.length : Int) ≤ M → r' = r) ∧ (M < (r.out.length : Int) → r'.e = 3)
theorem Room.same {M : Int} {r : IS} (h : (r.out.length : Int) ≤ M) : Room M r r := ⟨fun _ => rfl, fun h1 => by omega⟩
theorem bitsK_bad {m : Int} {s : IS} (h : s.e ≠ 0) : (bitsK L m s).2 = s := by unfold bitsK; rw [if_neg h]
theorem signK_bad {l : List Int} {s : IS} (h : s.e ≠ 0) : (signK L l s).2 = s := by unfold signK; rw [if_neg h]
theorem copyK_le {most : Int} {lb : List Int} {x : Int} {s : IS} (h : s.p ≤ 8 * L.length) : (copyK L most lb x s).p ≤ 8 * L.length := by
  have h1 : (bitsK L (lenK x).2.1 s).2.p ≤ 8 * L.length := bitsK_le h
  have h2 : (signK L lb (bitsK L (lenK x).2.1 s).2).2.p ≤ 8 * L.length := signK_le h1
  have h3 : (bitsK L (disK (signK L lb (bitsK L (lenK x).2.1 s).2).1).2.1 (signK L lb (bitsK L (lenK x).2.1 s).2).2).2.p ≤ 8 * L.length := bitsK_le h2
  unfold copyK
  simp only
  split
  · rw [failS_p]; exact h
  · split
    · rw [failS_p]; exact h2
    · split
      · exact h3
      · split
        · rw [failS_p]; exact h3
        · split
          · rw [failS_p]; exact h3
          · exact h3
theorem copyK_og {most : Int} {lb : List Int} {x : Int} {s : IS} : s.out.length ≤ (copyK L most lb x s).out.length := by
  have h3 : (bitsK L (disK (signK L lb (bitsK L (lenK x).2.1 s).2).1).2.1 (signK L lb (bitsK L (lenK x).2.1 s).2).2).2.out = s.out := by rw [bitsK_out, signK_out, bitsK_out]
  unfold copyK
  simp only
  split
  · rw [failS_out]; exact Nat.le_refl _
  · split
    · rw [failS_out, signK_out, bitsK_out]; exact Nat.le_refl _
    · split
      · rw [h3]; exact Nat.le_refl _
      · split
        · rw [failS_out, h3]; exact Nat.le_refl _
        · split
          · rw [failS_out, h3]; exact Nat.le_refl _
          · show _ ≤ (copyL _ _ _).length
            rw [copyL_len, h3]; omega
theorem copyK_agr (a : Agr L L' N) {most M : Int} {lb : List Int} {x : Int} {s : IS} (h : (copyK L most lb x s).e = 0) (hp : (copyK L most lb x s).p ≤ 8 * N) (hM : (s.out.length : Int) ≤ M) :
    Room M (copyK L most lb x s) (copyK L' M lb x s) := by
  have q1 := bitsK_p L (lenK x).2.1 s
  have q2 := signK_p L lb (bitsK L (lenK x).2.1 s).2
  have q3 := bitsK_p L (disK (signK L lb (bitsK L (lenK x).2.1 s).2).1).2.1 (signK L lb (bitsK L (lenK x).2.1 s).2).2
  have h3 : (bitsK L (disK (signK L lb (bitsK L (lenK x).2.1 s).2).1).2.1 (signK L lb (bitsK L (lenK x).2.1 s).2).2).2.out = s.out := by rw [bitsK_out, signK_out, bitsK_out]
  have hl := lenK_rng x
  unfold copyK at h hp ⊢
  simp only at h hp ⊢
  by_cases c1 : (lenK x).2.2 = false
  · rw [if_pos c1] at h; exact absurd h (failS_ne (by decide) _)
  rw [if_neg c1] at h hp ⊢
  rw [if_neg c1]
  by_cases c2 : (disK (signK L lb (bitsK L (lenK x).2.1 s).2).1).2.2 = false
  · rw [if_pos c2] at h; exact absurd h (failS_ne (by decide) _)
  rw [if_neg c2] at h hp ⊢
  by_cases c3 : (bitsK L (disK (signK L lb (bitsK L (lenK x).2.1 s).2).1).2.1 (signK L lb (bitsK L (lenK x).2.1 s).2).2).2.e = 0
  · rw [if_neg (Classical.not_not.2 c3)] at h hp ⊢
    by_cases c4 : (disK (signK L lb (bitsK L (lenK x).2.1 s).2).1).1 + (bitsK L (disK (signK L lb (bitsK L (lenK x).2.1 s).2).1).2.1 (signK L lb (bitsK L (lenK x).2.1 s).2).2).1 > ((bitsK L (disK (signK L lb (bitsK L (lenK x).2.1 s).2).1).2.1 (signK L lb (bitsK L (lenK x).2.1 s).2).2).2.out.length : Int)
    · rw [if_pos c4] at h; exact absurd h (failS_ne (by decide) _)
    rw [if_neg c4] at h hp ⊢
    by_cases c5 : roomK most ((lenK x).1 + (bitsK L (lenK x).2.1 s).1) (bitsK L (disK (signK L lb (bitsK L (lenK x).2.1 s).2).1).2.1 (signK L lb (bitsK L (lenK x).2.1 s).2).2).2 = false
    · rw [if_pos c5] at h; exact absurd h (failS_ne (by decide) _)
    rw [if_neg c5] at h hp ⊢
    have k2 := (bitsK_ok c3).1
    have k1 := (signK_ok k2).1
    have hp : (bitsK L (disK (signK L lb (bitsK L (lenK x).2.1 s).2).1).2.1 (signK L lb (bitsK L (lenK x).2.1 s).2).2).2.p ≤ 8 * N := hp
    have e1 : bitsK L' (lenK x).2.1 s = bitsK L (lenK x).2.1 s := bitsK_agr a k1 (by omega)
    have e2 : signK L' lb (bitsK L (lenK x).2.1 s).2 = signK L lb (bitsK L (lenK x).2.1 s).2 := signK_agr a k2 (by omega)
    rw [e1, e2, if_neg c2, bitsK_agr a c3 (by omega), if_neg (Classical.not_not.2 c3), if_neg c4]
    have hl := hl (by simpa using c1)
    have hlong : 0 ≤ (lenK x).1 + ((bitsK L (lenK x).2.1 s).1 : Int) := by omega
    generalize (lenK x).1 + ((bitsK L (lenK x).2.1 s).1 : Int) = long at *
    generalize bitsK L (disK (signK L lb (bitsK L (lenK x).2.1 s).2).1).2.1 (signK L lb (bitsK L (lenK x).2.1 s).2).2 = b at *
    have hlen : (copyL b.2.out ((disK (signK L lb (bitsK L (lenK x).2.1 s).2).1).1 + b.1).toNat long.toNat).length = b.2.out.length + long.toNat := copyL_len _ _ _
    constructor
    · intro hr
      have hr : ((copyL b.2.out ((disK (signK L lb (bitsK L (lenK x).2.1 s).2).1).1 + b.1).toNat long.toNat).length : Int) ≤ M := hr
      rw [if_neg]
      unfold roomK
      simp only [c3, decide_true, Bool.true_and, decide_eq_false_iff_not]
      omega
    · intro hr
      have hr : M < ((copyL b.2.out ((disK (signK L lb (bitsK L (lenK x).2.1 s).2).1).1 + b.1).toNat long.toNat).length : Int) := hr
      rw [if_pos]
      · exact failS_x c3
      · unfold roomK
        simp only [c3, decide_true, Bool.true_and, decide_eq_false_iff_not]
        have h5 : b.2.out.length = s.out.length := congrArg _ h3
        omega
  · rw [if_pos c3] at h; exact absurd h c3
theorem signsK_le {most : Int} {la lb : List Int} : ∀ (k : Nat) (s : IS), s.p ≤ 8 * L.length → (signsK L most la lb k s).p ≤ 8 * L.length
  | 0, s, h => h
  | k+1, s, h => by
    unfold signsK
    split
    · exact h
    · split
      · exact signK_le h
      · split
        · exact signsK_le k _ (copyK_le (signK_le h))
        · split
          · exact signsK_le k _ (by rw [failS_p]; exact signK_le h)
          · exact signsK_le k _ (signK_le h)
theorem signsK_og {most : Int} {la lb : List Int} : ∀ (k : Nat) (s : IS), s.out.length ≤ (signsK L most la lb k s).out.length
  | 0, s => Nat.le_refl _
  | k+1, s => by
    unfold signsK
    split
    · exact Nat.le_refl _
    · split
      · rw [signK_out]; exact Nat.le_refl _
      · split
        · have h1 := copyK_og (L := L) (most := most) (lb := lb) (x := (signK L la s).1) (s := (signK L la s).2)
          rw [signK_out] at h1
          exact Nat.le_trans h1 (signsK_og k _)
        · split
          · have h1 := signsK_og (most := most) (la := la) (lb := lb) k (failS 3 (signK L la s).2)
            rwa [failS_out, signK_out] at h1
          · have h1 := signsK_og (most := most) (la := la) (lb := lb) k { (signK L la s).2 with out := (signK L la s).2.out ++ [UInt8.ofNat (signK L la s).1.toNat] }
            refine Nat.le_trans ?_ h1
            simp only [List.length_append, signK_out]
            omega
theorem signsK_agr (a : Agr L L' N) {most M : Int} {la lb : List Int} : ∀ (k k' : Nat) (s : IS), 8 * L.length < k + s.p → 8 * N < k' + s.p → (signsK L most la lb k s).e = 0 → (signsK L most la lb k s).p ≤ 8 * N → (s.out.length : Int) ≤ M → Room M (signsK L most la lb k s) (signsK L' M la lb k' s)
  | 0, k', s, hk, hk', h, hp, hM => by
    have := a.le
    have hp : s.p ≤ 8 * N := hp
    omega
  | k+1, 0, s, hk, hk', h, hp, hM => by
    have := signsK_p L most la lb (k + 1) s
    omega
  | k+1, k'+1, s, hk, hk', h, hp, hM => by
    have hs : s.e = 0 := by
      apply Classical.byContradiction
      intro hc
      rw [signsK_bad hc] at h
      exact hc h
    unfold signsK at h hp ⊢
    rw [if_neg (Classical.not_not.2 hs)] at h hp ⊢
    rw [if_neg (Classical.not_not.2 hs)]
    by_cases c1 : (signK L la s).2.e = 0
    · have hgo := (signK_ok c1).2
      by_cases c2 : (signK L la s).1 = 256
      · rw [if_pos (.inr c2)] at h hp ⊢
        rw [signK_agr a h hp, if_pos (.inr c2)]
        exact Room.same (by rw [signK_out]; exact hM)
      · rw [if_neg (show ¬ ((signK L la s).2.e ≠ 0 ∨ (signK L la s).1 = 256) by rintro (h | h); exact h c1; exact c2 h)] at h hp ⊢
        have hMt : ((signK L la s).2.out.length : Int) ≤ M := by rw [signK_out]; exact hM
        by_cases c3 : 256 < (signK L la s).1
        · rw [if_pos c3] at h hp ⊢
          have hpn := signsK_p L most la lb k (copyK L most lb (signK L la s).1 (signK L la s).2)
          have hpc := copyK_p L most lb (signK L la s).1 (signK L la s).2
          have e1 : signK L' la s = signK L la s := signK_agr a c1 (by omega)
          rw [e1, if_neg (show ¬ ((signK L la s).2.e ≠ 0 ∨ (signK L la s).1 = 256) by rintro (h | h); exact h c1; exact c2 h), if_pos c3]
          have hn : (copyK L most lb (signK L la s).1 (signK L la s).2).e = 0 := by
            apply Classical.byContradiction
            intro hc
            rw [signsK_bad hc] at h
            exact hc h
          have hrm := copyK_agr a hn (by omega) hMt
          have hog := signsK_og (L := L) (most := most) (la := la) (lb := lb) k (copyK L most lb (signK L la s).1 (signK L la s).2)
          by_cases c4 : ((copyK L most lb (signK L la s).1 (signK L la s).2).out.length : Int) ≤ M
          · rw [hrm.1 c4]
            exact signsK_agr a k k' _ (by omega) (by omega) h hp c4
          · have h3 := hrm.2 (by omega)
            rw [signsK_bad (s := copyK L' M lb (signK L la s).1 (signK L la s).2) (by rw [h3]; decide)]
            exact ⟨fun h => by omega, fun _ => h3⟩
        · rw [if_neg c3] at h hp ⊢
          by_cases c5 : roomK most 1 (signK L la s).2 = false
          · rw [if_pos c5, signsK_bad (failS_ne (by decide) _)] at h
            exact absurd h (failS_ne (by decide) _)
          · rw [if_neg c5] at h hp ⊢
            simp only at h hp ⊢
            have hpn := signsK_p L most la lb k { (signK L la s).2 with out := (signK L la s).2.out ++ [UInt8.ofNat (signK L la s).1.toNat] }
            have hog := signsK_og (L := L) (most := most) (la := la) (lb := lb) k { (signK L la s).2 with out := (signK L la s).2.out ++ [UInt8.ofNat (signK L la s).1.toNat] }
            simp only [List.length_append, List.length_cons, List.length_nil] at hog
            simp only at hpn
            have e1 : signK L' la s = signK L la s := signK_agr a c1 (by omega)
            rw [e1, if_neg (show ¬ ((signK L la s).2.e ≠ 0 ∨ (signK L la s).1 = 256) by rintro (h | h); exact h c1; exact c2 h), if_neg c3]
            by_cases c6 : ((signK L la s).2.out.length : Int) + 1 ≤ M
            · rw [if_neg (show ¬ roomK M 1 (signK L la s).2 = false by unfold roomK; simp only [c1, decide_true, Bool.true_and, decide_eq_false_iff_not]; omega)]
              exact signsK_agr a k k' _ (by simp only; omega) (by simp only; omega) h hp (by simp only [List.length_append, List.length_cons, List.length_nil]; omega)
            · rw [if_pos (show roomK M 1 (signK L la s).2 = false by unfold roomK; simp only [c1, decide_true, Bool.true_and, decide_eq_false_iff_not]; omega), signsK_bad (failS_ne (by decide) _)]
              exact ⟨fun h => by omega, fun _ => failS_x c1⟩
    · rw [if_pos (.inl c1)] at h
      exact absurd h c1
theorem takeAt_le {p : Nat} {m : Int} (h : p ≤ 8 * L.length) : rdTakeAt L p m ≤ 8 * L.length := by
  have h1 : alignN p ≤ 8 * L.length := by unfold alignN; omega
  unfold rdTakeAt
  split
  · exact h
  · split
    · rename_i h2
      unfold rdTakeEr at h2
      rw [if_neg (by assumption)] at h2
      split at h2
      · cases h2
      · omega
    · exact h1
theorem storedK_le {most : Int} {s : IS} (h : s.p ≤ 8 * L.length) : (storedK L most s).p ≤ 8 * L.length := by
  have h0 : alignN s.p ≤ 8 * L.length := by unfold alignN; omega
  have h2 : (bitsK L 16 (bitsK L 16 { s with p := alignN s.p }).2).2.p ≤ 8 * L.length := bitsK_le (bitsK_le h0)
  unfold storedK
  simp only
  split
  · exact h2
  · split
    · rw [failS_p]; exact h2
    · split
      · rw [failS_p]; exact h2
      · simp only
        exact takeAt_le h2
theorem storedK_og {most : Int} {s : IS} : s.out.length ≤ (storedK L most s).out.length := by
  have h2 : (bitsK L 16 (bitsK L 16 { s with p := alignN s.p }).2).2.out = s.out := by rw [bitsK_out, bitsK_out]
  unfold storedK
  simp only
  split
  · rw [h2]; exact Nat.le_refl _
  · split
    · rw [failS_out, h2]; exact Nat.le_refl _
    · split
      · rw [failS_out, h2]; exact Nat.le_refl _
      · simp only [List.length_append, h2]; omega
theorem storedK_agr (a : Agr L L' N) {most M : Int} {s : IS} (h : (storedK L most s).e = 0) (hp : (storedK L most s).p ≤ 8 * N) (hM : (s.out.length : Int) ≤ M) : Room M (storedK L most s) (storedK L' M s) := by
  have q1 := bitsK_p L 16 { s with p := alignN s.p }
  have q2 := bitsK_p L 16 (bitsK L 16 { s with p := alignN s.p }).2
  have ho : (bitsK L 16 (bitsK L 16 { s with p := alignN s.p }).2).2.out = s.out := by rw [bitsK_out, bitsK_out]
  unfold storedK at h hp ⊢
  simp only at h hp ⊢
  by_cases c1 : (bitsK L 16 (bitsK L 16 { s with p := alignN s.p }).2).2.e = 0
  · have k1 := (bitsK_ok c1).1
    rw [if_neg (Classical.not_not.2 c1)] at h hp ⊢
    by_cases c2 : (bitsK L 16 { s with p := alignN s.p }).1 + (bitsK L 16 (bitsK L 16 { s with p := alignN s.p }).2).1 = 65535
    · rw [if_neg (Classical.not_not.2 c2)] at h hp ⊢
      by_cases c3 : roomK most ((bitsK L 16 { s with p := alignN s.p }).1 : Int) (bitsK L 16 (bitsK L 16 { s with p := alignN s.p }).2).2 = false
      · rw [if_pos c3] at h; exact absurd h (failS_ne (by decide) _)
      · rw [if_neg c3] at h hp ⊢
        simp only at h hp
        have hta := takeAt_ge L (bitsK L 16 (bitsK L 16 { s with p := alignN s.p }).2).2.p ((bitsK L 16 { s with p := alignN s.p }).1 : Nat)
        have e1 : bitsK L' 16 { s with p := alignN s.p } = bitsK L 16 { s with p := alignN s.p } := bitsK_agr a k1 (by omega)
        have e2 : bitsK L' 16 (bitsK L 16 { s with p := alignN s.p }).2 = bitsK L 16 (bitsK L 16 { s with p := alignN s.p }).2 := bitsK_agr a c1 (by omega)
        rw [e1, e2, if_neg (Classical.not_not.2 c1), if_neg (Classical.not_not.2 c2)]
        generalize (bitsK L 16 { s with p := alignN s.p }).1 = n at *
        generalize (bitsK L 16 (bitsK L 16 { s with p := alignN s.p }).2).2 = t at *
        have hll := a.le
        have hll' := a.le'
        have h4 : alignN t.p + 8 * n ≤ 8 * N := by
          unfold rdTakeAt at hp
          rw [if_neg (by omega), if_pos h] at hp
          omega
        have h5 : alignN t.p % 8 = 0 := by unfold alignN; omega
        have t1 : rdTakeEr L' t.p n = 0 := by
          unfold rdTakeEr
          rw [if_neg (by omega), if_neg (by omega)]
        have t2 : rdTakeAt L' t.p n = rdTakeAt L t.p n := by
          have hz : ¬ ((n : Int) < 0) := by omega
          unfold rdTakeAt; rw [if_neg hz, if_neg hz, if_pos h, if_pos t1]
        have t3 : rdTakeL L' t.p n = rdTakeL L t.p n := by
          unfold rdTakeL
          rw [if_pos h, if_pos t1]
          exact a.bytes (by simp only [Int.toNat_natCast]; omega)
        have t4 : (rdTakeL L t.p n).length = n := by
          unfold rdTakeL
          rw [if_pos h, List.length_take, List.length_drop, Int.toNat_natCast]
          omega
        constructor
        · intro hr
          have hr : ((t.out ++ rdTakeL L t.p n).length : Int) ≤ M := hr
          rw [List.length_append, t4] at hr
          have ho' : t.out.length = s.out.length := congrArg _ ho
          rw [if_neg (show ¬ roomK M (n : Int) t = false by unfold roomK; simp only [c1, decide_true, Bool.true_and, decide_eq_false_iff_not]; omega), t1, t2, t3, h]
        · intro hr
          have hr : M < ((t.out ++ rdTakeL L t.p n).length : Int) := hr
          rw [List.length_append, t4] at hr
          have ho' : t.out.length = s.out.length := congrArg _ ho
          rw [if_pos (show roomK M (n : Int) t = false by unfold roomK; simp only [c1, decide_true, Bool.true_and, decide_eq_false_iff_not]; omega)]
          exact failS_x c1
    · rw [if_pos c2] at h; exact absurd h (failS_ne (by decide) _)
  · rw [if_pos c1] at h; exact absurd h c1
/-- What a block of this kind does. -/
noncomputable def kind3 (L : List UInt8) (most : Int) (k : Nat) (s : IS) : IS := if k = 0 then storedK L most s else if k = 1 then signsK L most fixA fixB (8 * L.length + 1) s else if k = 2 then signsK L most (dynK L s).1.1 (dynK L s).1.2 (8 * L.length + 1) (dynK L s).2 else failS 2 s
theorem blockK_eq (L : List UInt8) (most : Int) (s : IS) : blockK L most s = if (bitsK L 2 (bitsK L 1 s).2).2.e ≠ 0 then (true, (bitsK L 2 (bitsK L 1 s).2).2) else
    (decide ((bitsK L 1 s).1 = 1) || decide ((kind3 L most (bitsK L 2 (bitsK L 1 s).2).1 (bitsK L 2 (bitsK L 1 s).2).2).e ≠ 0), kind3 L most (bitsK L 2 (bitsK L 1 s).2).1 (bitsK L 2 (bitsK L 1 s).2).2) := rfl
theorem dynK_oute {s : IS} (h : (dynK L s).2.e = 0) : (dynK L s).2.out = s.out := by
  obtain ⟨x, b, c, g, r, hd⟩ := dynK_ok h
  have hdd := hd
  obtain ⟨e1, e2, e3, he, hn, e4, hh, hk, e5, hr, hg⟩ := hd
  rw [dynK_of hdd] at h ⊢
  have h : (codeK (r.1.drop (x.1 + 257)) (codeK (r.1.take (x.1 + 257)) r.2)).e = 0 := h
  have k1 := codeK_ok h
  rw [k1] at h
  have k2 := codeK_ok h
  show (codeK (r.1.drop (x.1 + 257)) (codeK (r.1.take (x.1 + 257)) r.2)).out = _
  rw [k1, k2, ← e5, lensK_out, ← e4, hdrK_out, ← e3, bitsK_out, ← e2, bitsK_out, ← e1, bitsK_out]
theorem kind3_dyn {most : Int} {k : Nat} {s : IS} (hk : k = 2) (h : (kind3 L most k s).e = 0) : (dynK L s).2.e = 0 := by
  subst hk
  apply Classical.byContradiction
  intro hc
  have h1 : kind3 L most 2 s = signsK L most (dynK L s).1.1 (dynK L s).1.2 (8 * L.length + 1) (dynK L s).2 := rfl
  rw [h1, signsK_bad hc] at h
  exact hc h
theorem kind3_p (L : List UInt8) (most : Int) (k : Nat) (s : IS) : s.p ≤ (kind3 L most k s).p := by
  have h5 := dynK_p L s
  unfold kind3
  split
  · exact storedK_p _ _ _
  · split
    · exact signsK_p _ _ _ _ _ _
    · split
      · exact Nat.le_trans h5 (signsK_p _ _ _ _ _ _)
      · rw [failS_p]; exact Nat.le_refl _
theorem kind3_le {most : Int} {k : Nat} {s : IS} (h : s.p ≤ 8 * L.length) : (kind3 L most k s).p ≤ 8 * L.length := by
  unfold kind3
  split
  · exact storedK_le h
  · split
    · exact signsK_le _ _ h
    · split
      · exact signsK_le _ _ (dynK_le h)
      · rw [failS_p]; exact h
theorem kind3_og {most : Int} {k : Nat} {s : IS} (h : (kind3 L most k s).e = 0) : s.out.length ≤ (kind3 L most k s).out.length := by
  have hd := fun hk => kind3_dyn hk h
  unfold kind3 at h ⊢
  by_cases c1 : k = 0
  · rw [if_pos c1]; exact storedK_og
  · rw [if_neg c1] at h ⊢
    by_cases c2 : k = 1
    · rw [if_pos c2]; exact signsK_og _ _
    · rw [if_neg c2] at h ⊢
      by_cases c3 : k = 2
      · rw [if_pos c3]
        have h1 := signsK_og (L := L) (most := most) (la := (dynK L s).1.1) (lb := (dynK L s).1.2) (8 * L.length + 1) (dynK L s).2
        rwa [dynK_oute (hd c3)] at h1
      · rw [if_neg c3] at h; exact absurd h (failS_ne (by decide) _)
theorem kind3_out {most : Int} {k : Nat} {s : IS} (h : (kind3 L most k s).e = 0) (hm : (s.out.length : Int) ≤ most) : ((kind3 L most k s).out.length : Int) ≤ most := by
  have hd := fun hk => kind3_dyn hk h
  unfold kind3 at h ⊢
  by_cases c1 : k = 0
  · rw [if_pos c1]; exact storedK_out hm
  · rw [if_neg c1] at h ⊢
    by_cases c2 : k = 1
    · rw [if_pos c2]; exact signsK_out _ _ hm
    · rw [if_neg c2] at h ⊢
      by_cases c3 : k = 2
      · rw [if_pos c3]
        exact signsK_out _ _ (by rw [dynK_oute (hd c3)]; exact hm)
      · rw [if_neg c3] at h; exact absurd h (failS_ne (by decide) _)
theorem kind3_agr (a : Agr L L' N) {most M : Int} {k : Nat} {s : IS} (h : (kind3 L most k s).e = 0) (hp : (kind3 L most k s).p ≤ 8 * N) (hM : (s.out.length : Int) ≤ M) : Room M (kind3 L most k s) (kind3 L' M k s) := by
  have hd := fun hk => kind3_dyn hk h
  have hle := a.le
  have hle' := a.le'
  unfold kind3 at h hp ⊢
  by_cases c1 : k = 0
  · rw [if_pos c1] at h hp ⊢
    rw [if_pos c1]
    exact storedK_agr a h hp hM
  · rw [if_neg c1] at h hp ⊢
    rw [if_neg c1]
    by_cases c2 : k = 1
    · rw [if_pos c2] at h hp ⊢
      rw [if_pos c2]
      exact signsK_agr a _ _ _ (by omega) (by omega) h hp hM
    · rw [if_neg c2] at h hp ⊢
      rw [if_neg c2]
      by_cases c3 : k = 2
      · rw [if_pos c3] at h hp ⊢
        have hpp := signsK_p L most (dynK L s).1.1 (dynK L s).1.2 (8 * L.length + 1) (dynK L s).2
        rw [if_pos c3, dynK_agr a (hd c3) (by omega)]
        exact signsK_agr a _ _ _ (by omega) (by omega) h hp (by rw [dynK_oute (hd c3)]; exact hM)
      · rw [if_neg c3] at h; exact absurd h (failS_ne (by decide) _)
theorem blockK_ok {most : Int} {s : IS} (h : (blockK L most s).2.e = 0) : (bitsK L 2 (bitsK L 1 s).2).2.e = 0 ∧ blockK L most s = (decide ((bitsK L 1 s).1 = 1), kind3 L most (bitsK L 2 (bitsK L 1 s).2).1 (bitsK L 2 (bitsK L 1 s).2).2) := by
  rw [blockK_eq] at h ⊢
  by_cases c : (bitsK L 2 (bitsK L 1 s).2).2.e = 0
  · rw [if_neg (Classical.not_not.2 c)] at h ⊢
    refine ⟨c, ?_⟩
    have h : (kind3 L most (bitsK L 2 (bitsK L 1 s).2).1 (bitsK L 2 (bitsK L 1 s).2).2).e = 0 := h
    rw [show decide ((kind3 L most (bitsK L 2 (bitsK L 1 s).2).1 (bitsK L 2 (bitsK L 1 s).2).2).e ≠ 0) = false from by rw [h]; rfl, Bool.or_false]
  · rw [if_pos c] at h; exact absurd h c
theorem blockK_flag {most : Int} {s : IS} (h : (blockK L most s).1 = false) : (blockK L most s).2.e = 0 := by
  rw [blockK_eq] at h ⊢
  by_cases c : (bitsK L 2 (bitsK L 1 s).2).2.e = 0
  · rw [if_neg (Classical.not_not.2 c)] at h ⊢
    have h := (Bool.or_eq_false_iff.1 h).2
    simpa using h
  · rw [if_pos c] at h; cases h
theorem blockK_le {most : Int} {s : IS} (h : s.p ≤ 8 * L.length) : (blockK L most s).2.p ≤ 8 * L.length := by
  rw [blockK_eq]
  split
  · exact bitsK_le (bitsK_le h)
  · exact kind3_le (bitsK_le (bitsK_le h))
theorem blockK_og {most : Int} {s : IS} (h : (blockK L most s).2.e = 0) : s.out.length ≤ (blockK L most s).2.out.length := by
  have h1 := (blockK_ok h).2
  rw [h1] at h ⊢
  have h2 := kind3_og h
  rwa [bitsK_out, bitsK_out] at h2
theorem blockK_out {most : Int} {s : IS} (h : (blockK L most s).2.e = 0) (hm : (s.out.length : Int) ≤ most) : ((blockK L most s).2.out.length : Int) ≤ most := by
  have h1 := (blockK_ok h).2
  rw [h1] at h ⊢
  exact kind3_out h (by rw [bitsK_out, bitsK_out]; exact hm)
theorem blockK_agr (a : Agr L L' N) {most M : Int} {s : IS} (h : (blockK L most s).2.e = 0) (hp : (blockK L most s).2.p ≤ 8 * N) (hM : (s.out.length : Int) ≤ M) :
    (((blockK L most s).2.out.length : Int) ≤ M → blockK L' M s = blockK L most s) ∧ (M < ((blockK L most s).2.out.length : Int) → (blockK L' M s).2.e = 3 ∧ (blockK L' M s).1 = true) := by
  obtain ⟨hb, h1⟩ := blockK_ok h
  rw [h1] at h hp ⊢
  have h : (kind3 L most (bitsK L 2 (bitsK L 1 s).2).1 (bitsK L 2 (bitsK L 1 s).2).2).e = 0 := h
  have hp : (kind3 L most (bitsK L 2 (bitsK L 1 s).2).1 (bitsK L 2 (bitsK L 1 s).2).2).p ≤ 8 * N := hp
  have hkp := kind3_p L most (bitsK L 2 (bitsK L 1 s).2).1 (bitsK L 2 (bitsK L 1 s).2).2
  have q2 := bitsK_p L 2 (bitsK L 1 s).2
  have k1 := (bitsK_ok hb).1
  have e1 : bitsK L' 1 s = bitsK L 1 s := bitsK_agr a k1 (by omega)
  have e2 : bitsK L' 2 (bitsK L 1 s).2 = bitsK L 2 (bitsK L 1 s).2 := bitsK_agr a hb (by omega)
  rw [blockK_eq, e1, e2, if_neg (Classical.not_not.2 hb)]
  have hr := kind3_agr (M := M) a h hp (by rw [bitsK_out, bitsK_out]; exact hM)
  constructor
  · intro hl
    rw [hr.1 hl, show decide ((kind3 L most (bitsK L 2 (bitsK L 1 s).2).1 (bitsK L 2 (bitsK L 1 s).2).2).e ≠ 0) = false from by rw [h]; rfl, Bool.or_false]
  · intro hl
    have h3 := hr.2 hl
    exact ⟨h3, by show (_ || _) = true; rw [h3]; simp⟩
theorem blocksK_p (L : List UInt8) (most : Int) : ∀ (k : Nat) (s : IS), s.p ≤ (blocksK L most k s).p
  | 0, s => Nat.le_refl _
  | k+1, s => by
    have h1 := (blockK_p L most s).1
    rw [blocksK]
    split
    · exact h1
    · exact Nat.le_trans h1 (blocksK_p L most k _)
theorem blocksK_le {most : Int} : ∀ (k : Nat) (s : IS), s.p ≤ 8 * L.length → (blocksK L most k s).p ≤ 8 * L.length
  | 0, s, h => h
  | k+1, s, h => by
    rw [blocksK]
    split
    · exact blockK_le h
    · exact blocksK_le k _ (blockK_le h)
theorem blocksK_og {most : Int} : ∀ (k : Nat) (s : IS), (blocksK L most k s).e = 0 → s.out.length ≤ (blocksK L most k s).out.length
  | 0, s, h => Nat.le_refl _
  | k+1, s, h => by
    rw [blocksK] at h ⊢
    by_cases c : (blockK L most s).1 = true
    · rw [if_pos c] at h ⊢
      exact blockK_og h
    · rw [if_neg c] at h ⊢
      exact Nat.le_trans (blockK_og (blockK_flag (by simpa using c))) (blocksK_og k _ h)
theorem blocksK_out {most : Int} : ∀ (k : Nat) (s : IS), (blocksK L most k s).e = 0 → (s.out.length : Int) ≤ most → ((blocksK L most k s).out.length : Int) ≤ most
  | 0, s, h, hm => hm
  | k+1, s, h, hm => by
    rw [blocksK] at h ⊢
    by_cases c : (blockK L most s).1 = true
    · rw [if_pos c] at h ⊢
      exact blockK_out h hm
    · rw [if_neg c] at h ⊢
      exact blocksK_out k _ h (blockK_out (blockK_flag (by simpa using c)) hm)
theorem blocksK_agr (a : Agr L L' N) {most M : Int} : ∀ (k k' : Nat) (s : IS), 8 * L.length < k + s.p → 8 * N < k' + s.p → (blocksK L most k s).e = 0 → (blocksK L most k s).p ≤ 8 * N → (s.out.length : Int) ≤ M → Room M (blocksK L most k s) (blocksK L' M k' s)
  | 0, k', s, hk, hk', h, hp, hM => by
    have := a.le
    have hp : s.p ≤ 8 * N := hp
    omega
  | k+1, 0, s, hk, hk', h, hp, hM => by
    have := blocksK_p L most (k + 1) s
    omega
  | k+1, k'+1, s, hk, hk', h, hp, hM => by
    have hbp := blockK_p L most s
    rw [blocksK] at h hp ⊢
    rw [blocksK]
    by_cases c : (blockK L most s).1 = true
    · rw [if_pos c] at h hp ⊢
      have hr := blockK_agr (M := M) a h hp hM
      constructor
      · intro hl
        rw [hr.1 hl, if_pos c]
      · intro hl
        have h3 := hr.2 hl
        rw [if_pos h3.2]
        exact h3.1
    · rw [if_neg c] at h hp ⊢
      have hc : (blockK L most s).1 = false := by simpa using c
      have he := blockK_flag hc
      have hbs := blocksK_p L most k (blockK L most s).2
      have hog := blocksK_og k (blockK L most s).2 h
      have hlt := hbp.2 hc
      have hr := blockK_agr (M := M) a he (by omega) hM
      by_cases c2 : ((blockK L most s).2.out.length : Int) ≤ M
      · rw [hr.1 c2, if_neg c]
        exact blocksK_agr a k k' _ (by omega) (by omega) h hp c2
      · have h3 := hr.2 (by omega)
        rw [if_pos h3.2]
        exact ⟨fun h => by omega, fun _ => h3.1⟩
theorem inflK_run {most : Int} (hm : 0 ≤ most ∧ most ≤ 16777216) : inflK L most = if (blocksK L most (8 * L.length + 1) ⟨0, [], 0⟩).e ≠ 0 then ([], 0, (blocksK L most (8 * L.length + 1) ⟨0, [], 0⟩).e)
  else ((blocksK L most (8 * L.length + 1) ⟨0, [], 0⟩).out, ((blocksK L most (8 * L.length + 1) ⟨0, [], 0⟩).p + 7) / 8, 0) := by
  unfold inflK
  rw [if_neg (by omega)]
theorem inflK_bad {most : Int} (h : (inflK L most).2.2 ≠ 0) : (inflK L most).1 = [] ∧ (inflK L most).2.1 = 0 := by
  unfold inflK at h ⊢
  split
  · exact ⟨rfl, rfl⟩
  · rename_i c1
    rw [if_neg c1] at h
    split
    · exact ⟨rfl, rfl⟩
    · rename_i c2
      rw [if_neg c2] at h
      exact absurd rfl h
theorem inflK_fit {most : Int} (hm : 0 ≤ most) : ((inflK L most).1.length : Int) ≤ most ∧ (inflK L most).2.1 ≤ L.length := by
  have h1 := blocksK_le (L := L) (most := most) (8 * L.length + 1) ⟨0, [], 0⟩ (Nat.zero_le _)
  unfold inflK
  split
  · exact ⟨by simpa using hm, Nat.zero_le _⟩
  · split
    · exact ⟨by simpa using hm, Nat.zero_le _⟩
    · rename_i c2
      exact ⟨blocksK_out _ _ (Classical.not_not.1 c2) (by simpa using hm), by show (_ + 7) / 8 ≤ _; omega⟩
/-- With another room, and other bytes behind those that were read. -/
theorem inflK_room (a : Agr L L' N) {most M : Int} (hm : 0 ≤ most ∧ most ≤ 16777216) (hM : 0 ≤ M ∧ M ≤ 16777216) (h : (inflK L most).2.2 = 0) (hn : (inflK L most).2.1 ≤ N) :
    (((inflK L most).1.length : Int) ≤ M → inflK L' M = inflK L most) ∧ (M < ((inflK L most).1.length : Int) → (inflK L' M).2.2 = 3) := by
  have hle := a.le
  have hle' := a.le'
  rw [inflK_run hm] at h hn ⊢
  rw [inflK_run hM]
  by_cases c : (blocksK L most (8 * L.length + 1) ⟨0, [], 0⟩).e = 0
  · rw [if_neg (Classical.not_not.2 c)] at h hn ⊢
    simp only at hn
    have hr := blocksK_agr (M := M) a (8 * L.length + 1) (8 * L'.length + 1) ⟨0, [], 0⟩ (by omega) (by omega) c (by omega) (by simpa using hM.1)
    constructor
    · intro hl
      rw [hr.1 hl, if_neg (Classical.not_not.2 c)]
    · intro hl
      have h3 := hr.2 hl
      rw [if_pos (by rw [h3]; decide)]
      exact h3
  · rw [if_pos c] at h; exact absurd h c
theorem agr_self (L : List UInt8) : Agr L L L.length := ⟨Nat.le_refl _, Nat.le_refl _, rfl⟩
theorem agr_behind (L b : List UInt8) {n : Nat} (h : n ≤ L.length) : Agr L (L.take n ++ b) n := by
  refine ⟨h, by rw [List.length_append, List.length_take]; omega, ?_⟩
  rw [List.take_append_of_le_length (by rw [List.length_take]; omega), List.take_take, Nat.min_self]
end
end Go.Proofs.Ytgcdeadfkljeaaa
