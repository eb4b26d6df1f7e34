/- lengths.Best, any number of signs. -/
import Derived.Test.YtbknkahakmfhkaaLenK
import Derived.Test.YtbknkahakmfhkaaLenZf
namespace Go.Proofs.Ytbknkahakmfhkaa
open Go.RowKit
set_option linter.unusedVariables false
set_option linter.unusedSimpArgs false

set_option maxRecDepth 100000 in
set_option maxHeartbeats 8000000 in
theorem best_two (a : Option Addr) (n c : Nat) (l : List Int) (m : Int) (w : World) (hl : l.length = n) (hn : n ≤ 1000) (hr : Rd w nI a l) (h2 : 2 ≤ (coinsK l).length) (h9 : (coinsK l).length ≤ 1000) :
  Calls Try.prog 36 #[.slice a n c, .int .i64 m] w (BestP w l m) := by
  have HC := Lib.hid (check_any a n c l m w hl (by omega) hr)
  have HL := Lib.hid hl
  clear hl hr
  go_enter Try.func36, Try.ntmps36
  go_wp2_with fail
  refine HC.out.mono ?_
  rintro e w1 ⟨hB1, h⟩
  have HB1 := Lib.hid hB1
  clear hB1
  rcases h with ⟨h, rfl⟩ | ⟨h, h', h'', rfl⟩ | ⟨hm, hg, hle, h512, q, k, d, ps, rfl, hP, hK⟩
  · have HF : Hid (BestP w l m (.returned (.tuple #[.slice none 0 0, .int .i64 1])) w1) := Lib.hid ⟨HB1.out, .inl ⟨h, rfl⟩⟩
    clear h
    go_wp2
    go_ret2
    exact HF.out
  · have HF : Hid (BestP w l m (.returned (.tuple #[.slice none 0 0, .int .i64 4])) w1) := Lib.hid ⟨HB1.out, .inr (.inl ⟨h, h', h'', rfl⟩)⟩
    clear h h' h''
    go_wp2
    go_ret2
    exact HF.out
  · have hk : k = (coinsK l).length := by rw [← hK, List.length_map]; have := hP.1.2.1; rw [List.length_map] at this; exact this.symm
    have hk2 : 2 ≤ k := by omega
    have hk9 : k ≤ 1000 := by omega
    have HOK := Lib.hid (And.intro hm (And.intro hg (And.intro hle h512)))
    have HK := Lib.hid (And.intro hk hK)
    obtain ⟨g, rfl, hgb, hgl⟩ := hP.1.some (by omega)
    have HP := Lib.hid hP
    have HG := Lib.hid (And.intro hgb hgl)
    have hs1 := HB1.out.size
    have hn0 : 0 < n := by have := coinsF_len l 0; have h3 : (coinsF 0 l).length = (coinsK l).length := rfl; rw [← HL.out]; omega
    have gk : ¬ (k : Int) < 2 := by omega
    obtain ⟨M, hM⟩ : ∃ M : Nat, m = (M : Int) := ⟨m.toNat, by omega⟩
    subst hM
    have hM1 : 1 ≤ M ∧ M ≤ 15 := by omega
    clear hm hg hle h512 hk hK hP hgb hgl
    go_wp2_with (at_make; refine wpList_mk (E := zN) (base := w1.heap.size) slIn rfl rfl _ _ rfl n rfl rfl rfl rfl (0 : Nat) rfl (by omega) (by unfold maxLen; omega) (Nat.le_refl _) ?_; intro p2 w2 hown2 hg2)
    obtain ⟨g2, rfl, hg2a, hg2b, -⟩ := hown2.row hn0
    have HOF : Hid (Off g2 ps) := Lib.hid (fun p hp b hb => by have := own_lt2 (HP.out.2 p hp) b hb; omega)
    replace hown2 := hown2.mono hs1
    have hb2 := grownBy_below hg2 (Nat.le_refl _) (fun k hk => by cases hk)
    have HP2 := Lib.hid (And.intro (HP.out.below hb2) (And.intro hown2 (HB1.out.trans (hb2.mono hs1))))
    clear hown2 hg2 hb2 HP HB1 hs1 hg2a hg2b
    go_wp2_with fail
    refine (sort_all w2 w.heap.size g k d ps HP2.out.1.1 (by omega)).mono ?_
    rintro e w3 ⟨rfl, ho3, hg3⟩
    have HP3 : Hid (Packs w3 w.heap.size (some ⟨g, 0, none⟩) k d (srtP ps) ∧ Own w3 w.heap.size IN zN (some ⟨g2, 0, none⟩) n n (List.replicate n 0) ∧ Below w.heap.size w w3) := Lib.hid (by
      have hmem : ∀ p ∈ srtP ps, p ∈ ps := fun p hp => ((srtP_perm ps).mem_iff (a := p)).1 hp
      exact ⟨⟨ho3, fun p hp => HP2.out.1.1.own_kept (HP2.out.1.2 p (hmem p hp)) (by decide) hg3⟩, HP2.out.1.1.own_kept HP2.out.2.1 (by decide) hg3, HP2.out.1.1.step HP2.out.2.2 hg3 HP2.out.2.2.size⟩)
    clear ho3 hg3 HP2
    go_wp2_with fail
    refine (cloneP_any g k d w.heap.size (srtP ps) w3 HP3.out.1.1 (by omega)).mono ?_
    rintro e w4 ⟨hB4, q4, d4, rfl, ho4⟩
    have HP4 := Lib.hid (And.intro (HP3.out.1.below hB4) (And.intro (HP3.out.2.1.below hB4) (And.intro (HP3.out.2.2.trans (hB4.mono HP3.out.2.2.size)) ho4)))
    have hgw : Hid (g < w3.heap.size) := Lib.hid (HP3.out.1.1.holds.2)
    have hs3 : Hid (w.heap.size ≤ w3.heap.size ∧ w3.heap.size ≤ w4.heap.size) := Lib.hid ⟨HP3.out.2.2.size, hB4.size⟩
    clear hB4 ho4 HP3
    have gM : ((M : Int) - 1) = ((M - 1 : Nat) : Int) := by omega
    have HKS : Hid ((srtP ps).map keyP = sortK (coinsK l)) := Lib.hid (by rw [srtP_keys, HK.out.2])
    have HOC : Hid (Off g2 (srtP ps)) := Lib.hid (fun p hp => HOF.out p (((srtP_perm ps).mem_iff (a := p)).1 hp))
    have HBD : Hid (∀ x ∈ sortK (coinsK l), 0 ≤ x.1 ∧ x.1 ≤ 16777216 ∧ x.2.length ≤ 1) := Lib.hid (fun x hx => coinsF_mem l 0 HOK.out.2.1 x (((sortK_perm _).mem_iff).1 hx))
    have HKL : Hid ((sortK (coinsK l)).length = k) := Lib.hid (by rw [sortK_len, ← HK.out.1])
    go_wp2
    go_loopw [11, 51] (fun x11 x51 wr => ∃ (t q j d5 : Nat) (rs : List Pk), t ≤ M - 1 ∧ x11 = .slice (some ⟨q, 0, none⟩) j d5 ∧ x51 = .int .i64 t ∧ Hid (rs.map keyP = rowK (sortK (coinsK l)) t) ∧ Hid (Packs wr w.heap.size (some ⟨q, 0, none⟩) j d5 rs) ∧ Hid (Packs wr w.heap.size (some ⟨g, 0, none⟩) k d (srtP ps)) ∧ Hid (Own wr w.heap.size IN zN (some ⟨g2, 0, none⟩) n n (List.replicate n 0)) ∧ Hid (Off g2 rs) ∧ Hid (Below w.heap.size w wr)) (fun _ x51 _ => M - 1 - (intOf x51).toNat)
    case atStart =>
      obtain ⟨q5, rfl, hq1, hq2⟩ := HP4.out.2.2.2.some (by omega)
      exact ⟨0, q5, k, d4, srtP ps, Nat.zero_le _, rfl, rfl, Lib.hid HKS.out, Lib.hid ⟨(Packs.mono ⟨HP4.out.2.2.2, HP4.out.1.2⟩ hs3.out.1).1, HP4.out.1.2⟩, Lib.hid HP4.out.1, Lib.hid HP4.out.2.1, HOC, Lib.hid HP4.out.2.2.1⟩
    case round =>
      obtain ⟨t, q, j, d5, rs, ht, rfl, rfl, hk, hR, hC, hO, hOr, hB⟩ := hrel
      have hj : Hid (rs.length = j) := Lib.hid (by have := hR.out.1.2.1; rwa [List.length_map] at this)
      have hj2 : k ≤ j ∧ j ≤ 2 * k := by
        have h1 := rowK_len (sortK (coinsK l)) t
        rw [← hk.out, List.length_map, hj.out, HKL.out] at h1
        exact h1
      by_cases htm : t < M - 1
      · have gt : (t : Int) < ((M - 1 : Nat) : Int) := by omega
        have hbd : Hid (∀ p ∈ rs, p.signs.length ≤ 500000 ∧ 0 ≤ p.often ∧ p.often ≤ 1000000000000) := Lib.hid (fun p hp => by
          have h1 := rowK_mem _ HBD.out t (keyP p) (by rw [← hk.out]; exact List.mem_map_of_mem hp)
          have h2 := pow14 t (by omega)
          have h3 : 0 ≤ p.often ∧ p.often ≤ ((2 ^ t * 16777216 : Nat) : Int) ∧ p.signs.length ≤ 2 ^ t := h1
          omega)
        go_wp2_with fail
        refine (pairs_any q j d5 w.heap.size rs wr hR.out (by omega) hbd.out).mono ?_
        rintro e w5 ⟨hB5, q6, k6, d6, qs, rfl, hQ, hQF, hQK⟩
        have hk6 : k6 = j / 2 := by
          have h1 := hQ.1.2.1
          rw [List.length_map] at h1
          have h2 := congrArg List.length hQK
          rw [List.length_map, pairK_len, List.length_map, hj.out] at h2
          omega
        have hk6l : 1 ≤ k6 ∧ k + k6 ≤ 2000 := by omega
        clear hk6
        obtain ⟨gq, rfl, hgq, hgq2⟩ := hQ.1.some (by omega)
        have HX := Lib.hid (And.intro (hC.out.below hB5) (And.intro hQ (And.intro (hO.out.below hB5) (hB.out.trans (hB5.mono hB.out.size)))))
        have HQK := Lib.hid hQK
        have HQO : Hid (Off g2 (srtP (srtP ps ++ qs))) := Lib.hid (fun p hp b hb => by
          have hp := ((srtP_perm _).mem_iff (a := p)).1 hp
          rcases List.mem_append.1 hp with hp | hp
          · exact HOC.out p hp b hb
          · have h1 := hQF p hp b hb
            have h2 := own_lt2 hO.out g2 rfl
            omega)
        clear hQF
        have hs5 : Hid (w.heap.size ≤ wr.heap.size ∧ wr.heap.size ≤ w5.heap.size ∧ g < wr.heap.size) := Lib.hid ⟨hB.out.size, hB5.size, hC.out.1.holds.2⟩
        have HBA := Lib.hid (below_alloc w5 (.cells #[.slice (some ⟨g, 0, none⟩) k d, .slice (some ⟨gq, 0, none⟩) k6 d6] 100))
        clear hQ hB5 hQK hgq hgq2
        go_wp2_with fail
        refine (concatP_any w5.heap.size 0 2 g gq w.heap.size wr.heap.size k d k6 d6 (srtP ps) qs _ (by simp) ((Blk.new _ _ _).cell rfl) ((Blk.new _ _ _).cell rfl) (by omega) (by omega) (HX.out.1.1.below HBA.out) (HX.out.2.1.1.below HBA.out)).mono ?_
        rintro e w7 ⟨hB7, q7, c7, rfl, ho7⟩
        have hb57 : Below w5.heap.size w5 w7 := HBA.out.trans (hB7.mono (by simp))
        obtain ⟨g7, rfl, hg7, hg7'⟩ := ho7.some (by omega)
        have hg57 : w5.heap.size < g7 := by simp at hg7; omega
        have HX7 := Lib.hid (And.intro (HX.out.1.below hb57) (And.intro (fun p hp => (HX.out.2.1.2 p hp).below hb57 : ∀ p ∈ qs, Own w7 0 IN zN p.ptr p.signs.length p.cap p.signs) (And.intro (HX.out.2.2.1.below hb57) (And.intro (HX.out.2.2.2.trans (hb57.mono HX.out.2.2.2.size)) ho7))))
        have HG7 := Lib.hid (And.intro hg57 hg7')
        clear hB7 hb57 ho7 hg7 hg7' hg57
        go_wp2_with fail
        refine (sort_all w7 _ g7 (k + k6) c7 (srtP ps ++ qs) HX7.out.2.2.2.2 (by omega)).mono ?_
        rintro e w8 ⟨rfl, ho8, hg8⟩
        have hsg : ∀ p ∈ srtP (srtP ps ++ qs), Own w8 0 IN zN p.ptr p.signs.length p.cap p.signs := fun p hp => by
          have hp := ((srtP_perm _).mem_iff (a := p)).1 hp
          refine HX7.out.2.2.2.2.own_kept ?_ (by decide) hg8
          rcases List.mem_append.1 hp with hp | hp
          · exact HX7.out.1.2 p hp
          · exact HX7.out.2.1 p hp
        have hle7 : w.heap.size ≤ g7 := by have := HG7.out.1; have := hs5.out; omega
        have HF1 : Hid (Packs w8 w.heap.size (some ⟨g7, 0, none⟩) (k + k6) c7 (srtP (srtP ps ++ qs))) := Lib.hid ⟨⟨ownsRow_mono ho8.1 (by simp; have := hs5.out; omega), ho8.2⟩, hsg⟩
        have HF2 : Hid (Packs w8 w.heap.size (some ⟨g, 0, none⟩) k d (srtP ps)) := Lib.hid ⟨HX7.out.1.1.grown hg8 (fun z hz => by
          simp [Value.ownBlock] at hz
          have := HG7.out.1; have := hs5.out
          intro he; simp at he; omega), fun p hp => HX7.out.2.2.2.2.own_kept (HX7.out.1.2 p hp) (by decide) hg8⟩
        have HF3 : Hid (Own w8 w.heap.size IN zN (some ⟨g2, 0, none⟩) n n (List.replicate n 0)) := Lib.hid (HX7.out.2.2.2.2.own_kept HX7.out.2.2.1 (by decide) hg8)
        have HF4 : Hid (Below w.heap.size w w8) := Lib.hid (HX7.out.2.2.2.1.grown hg8 HX7.out.2.2.2.1.size (fun z hz => by simp only [Option.some.injEq] at hz; omega))
        have HF5 : Hid ((srtP (srtP ps ++ qs)).map keyP = rowK (sortK (coinsK l)) (t + 1)) := Lib.hid (by
          rw [srtP_keys, List.map_append, HKS.out, HQK.out, hk.out]; rfl)
        clear ho8 hg8 hsg
        go_wp2
        go_roundw
        case rel => exact ⟨t + 1, g7, k + k6, c7, _, by omega, rfl, by go_num, HF5, HF1, HF2, HF3, HQO, HF4⟩
        case measure => simp [intOf] <;> omega
      · have htM : t = M - 1 := by omega
        have HRK : Hid (rs.map keyP = rowK (sortK (coinsK l)) (M - 1)) := Lib.hid (by rw [← htM]; exact hk.out)
        have hK2 : 2 * k - 2 ≤ j := by
          have h1 := rowK_head (sortK (coinsK l)) M hM1.1 (by rw [HKL.out]; omega) (by rw [HKL.out, HK.out.1]; have := HOK.out.2.2.1; simpa using this)
          rw [← HRK.out, List.length_map, hj.out, HKL.out] at h1
          exact h1
        obtain ⟨K2, hK2e⟩ : ∃ K2 : Nat, K2 = 2 * k - 2 := ⟨_, rfl⟩
        have gK : (2 : Int) * (k : Int) - 2 = (K2 : Int) := by omega
        have gK0 : ¬ (K2 : Int) < 0 := by omega
        have hKj : K2 ≤ j := by omega
        have hjd : j ≤ d5 := hR.out.1.le_cap
        have gt : ¬ (t : Int) < ((M - 1 : Nat) : Int) := by omega
        have HSG : Hid (∀ p ∈ rs, (∀ s ∈ p.signs, s < n) ∧ p.signs.length ≤ 16384) := Lib.hid (fun p hp => by
          have h0 : keyP p ∈ rowK (sortK (coinsK l)) (M - 1) := by rw [← HRK.out]; exact List.mem_map_of_mem hp
          have h1 := rowK_sign (sortK (coinsK l)) n (fun x hx s hs => by
            have := coinsF_sign l 0 x (((sortK_perm _).mem_iff).1 hx) s hs
            rw [HL.out] at this
            omega) (M - 1) (keyP p) h0
          have h2 := rowK_mem _ HBD.out (M - 1) (keyP p) h0
          exact ⟨h1, Nat.le_trans h2.2.2 (pow14 _ (by omega))⟩)
        clear htM hK2
        have HE2 := Lib.hid hK2e
        clear hK2e
        go_wp2
        go_loopw [68] (fun x68 wr' => ∃ i : Nat, i ≤ K2 ∧ x68 = .int .i64 i ∧ Hid (Own wr' w.heap.size IN zN (some ⟨g2, 0, none⟩) n n (cntK (List.replicate n 0) ((rs.take i).map keyP))) ∧ Hid (Packs wr' w.heap.size (some ⟨q, 0, none⟩) j d5 rs) ∧ Hid (Below w.heap.size w wr')) (fun x68 _ => K2 - (intOf x68).toNat)
        case atStart => exact ⟨0, Nat.zero_le _, rfl, hO, hR, hB⟩
        case round =>
          clear hO hR hB
          obtain ⟨i, hi, rfl, hO, hR, hB⟩ := hrel
          by_cases hik : i < K2
          · have hij : i < rs.length := by rw [hj.out]; omega
            have HC1 := Lib.hid (pk_cells hR.out.1 hij)
            have HRI := Lib.hid (hR.out.2 rs[i] (List.getElem_mem hij))
            have HSI := Lib.hid (HSG.out rs[i] (List.getElem_mem hij))
            have HTK : Hid (cntK (List.replicate n 0) ((rs.take (i + 1)).map keyP) = (rs[i].signs).foldl bumpL (cntK (List.replicate n 0) ((rs.take i).map keyP))) := Lib.hid (by
              rw [List.take_succ_eq_append_getElem hij, List.map_append]
              unfold cntK
              rw [List.flatMap_append, List.foldl_append]
              simp [keyP])
            have HCB : Hid (∀ x ∈ cntK (List.replicate n 0) ((rs.take i).map keyP), x ≤ 2000 * 16384) := Lib.hid (fun x hx => by
              have h1 := bump_bound _ _ 0 (fun y hy => by rw [List.eq_of_mem_replicate hy]; exact Nat.le_refl _) x hx
              have h2 := flat_bound 16384 ((rs.take i).map keyP) (fun y hy => by
                obtain ⟨p, hp, rfl⟩ := List.mem_map.1 hy
                exact (HSG.out p (List.mem_of_mem_take hp)).2)
              rw [List.length_map, List.length_take] at h2
              omega)
            have HOI := Lib.hid (hOr.out rs[i] (List.getElem_mem hij))
            generalize cntK (List.replicate n 0) ((rs.take i).map keyP) = C at *
            generalize rs[i] = x at *
            obtain ⟨o1, p1, c1, s1⟩ := x
            obtain ⟨n1, hn1⟩ : ∃ n1, Hid (s1.length = n1) := ⟨_, Lib.hid rfl⟩
            have q1 : wr.cell? ⟨q, i * 2, none⟩ = some (.int .i64 o1) := HC1.out.1
            have q2 : wr.cell? ⟨q, i * 2 + 1, none⟩ = some (.slice p1 n1 c1) := by rw [← hn1.out]; exact HC1.out.2
            have hn1b : n1 ≤ 16384 := by rw [← hn1.out]; exact HSI.out.2
            have HA : Hid (Below wr.heap.size wr (wr.alloc (.cells #[.int .i64 o1, .slice p1 n1 c1] PK))) := Lib.hid (below_alloc wr _)
            have HS0 : Hid (w.heap.size ≤ wr.heap.size) := Lib.hid hB.out.size
            clear HC1
            go_wp2
            go_loopw [75] (fun x75 w9 => ∃ t1 : Nat, t1 ≤ n1 ∧ x75 = .int .i64 t1 ∧ Hid (Own w9 w.heap.size IN zN (some ⟨g2, 0, none⟩) n n ((s1.take t1).foldl bumpL C)) ∧ Hid (Packs w9 w.heap.size (some ⟨q, 0, none⟩) j d5 rs) ∧ Hid (Own w9 0 IN zN p1 n1 c1 s1) ∧ Hid (Below w.heap.size w w9)) (fun x75 _ => n1 - (intOf x75).toNat)
            case atStart => exact ⟨0, Nat.zero_le _, rfl, Lib.hid (hO.out.below HA.out), Lib.hid (hR.out.below HA.out), Lib.hid (by have := HRI.out.below HA.out; rwa [hn1.out] at this), Lib.hid (hB.out.trans (HA.out.mono HS0.out))⟩
            case round =>
              clear hO hR hB q1 q2
              obtain ⟨t1, ht1, rfl, hO, hR, hQ, hB⟩ := hrel
              by_cases htn : t1 < n1
              · have hts : t1 < s1.length := by rw [hn1.out]; exact htn
                obtain ⟨gp, rfl, -, -, hcs, -⟩ := hQ.out.row (by omega)
                have q3 : wr.cell? ⟨gp, t1, none⟩ = some (.int .i64 ((s1[t1] : Nat) : Int)) := hcs t1 s1[t1] (by rw [List.getElem?_eq_getElem hts])
                clear hcs
                have hsn : s1[t1] < n := HSI.out.1 _ (List.getElem_mem hts)
                have HTT : Hid ((s1.take (t1 + 1)).foldl bumpL C = bumpL ((s1.take t1).foldl bumpL C) s1[t1]) := Lib.hid (by
                  rw [List.take_succ_eq_append_getElem hts, List.foldl_append]; rfl)
                have HCC := Lib.hid (fun x hx => bump_bound (s1.take t1) C _ HCB.out x hx)
                generalize s1[t1] = sg at *
                generalize (s1.take t1).foldl bumpL C = D at *
                obtain ⟨gx, y, hgx, -, -, hy, q4, q5⟩ := hO.out.at hsn
                obtain rfl : g2 = gx := by simpa using hgx
                replace q4 : wr.cell? ⟨g2, sg, none⟩ = some (.int .i64 (y : Int)) := q4
                have hyb : y ≤ 2000 * 16384 + 16384 := by
                  have := HCC.out y (List.mem_of_getElem? hy)
                  rw [List.length_take] at this
                  omega
                have HY := Lib.hid hy
                clear hy hgx
                have HF : Hid (Own (wr.setCell ⟨g2, sg, none⟩ (.int .i64 ((y : Int) + 1))) w.heap.size IN zN (some ⟨g2, 0, none⟩) n n (bumpL D sg)) := Lib.hid (by
                  have h1 := hO.out.set sg hsn (y + 1)
                  unfold bumpL
                  rw [List.getD_eq_getElem?_getD, HY.out]
                  exact h1)
                have HF2 : Hid (Packs (wr.setCell ⟨g2, sg, none⟩ (.int .i64 ((y : Int) + 1))) w.heap.size (some ⟨q, 0, none⟩) j d5 rs) := Lib.hid (hR.out.setCell hOr.out hO.out sg _)
                have HF3 : Hid (Own (wr.setCell ⟨g2, sg, none⟩ (.int .i64 ((y : Int) + 1))) 0 IN zN (some ⟨gp, 0, none⟩) n1 c1 s1) := Lib.hid (hQ.out.setCell_ne (fun g hg => HOI.out g hg) _)
                have HF4 : Hid (Below w.heap.size w (wr.setCell ⟨g2, sg, none⟩ (.int .i64 ((y : Int) + 1)))) := Lib.hid (hB.out.setCell (own_far hO.out g2 rfl) _)
                go_wp2
                go_roundw
                case rel => exact ⟨t1 + 1, by omega, by go_num, by rw [HTT.out]; exact HF, HF2, HF3, HF4⟩
                case measure => simp [intOf] <;> omega
              · have htn' : t1 = n1 := by omega
                subst htn'
                have HTA : Hid ((s1.take t1).foldl bumpL C = s1.foldl bumpL C) := Lib.hid (by rw [List.take_of_length_le (by rw [hn1.out]; exact Nat.le_refl _)])
                have HF : Hid (Own wr w.heap.size IN zN (some ⟨g2, 0, none⟩) n n (cntK (List.replicate n 0) ((rs.take (i + 1)).map keyP))) := Lib.hid (by rw [HTK.out, ← HTA.out]; exact hO.out)
                go_wp2
                go_roundw
                case rel => exact ⟨i + 1, by omega, by go_num, HF, hR, hB⟩
                case measure => simp [intOf] <;> omega
          · have hik' : i = K2 := by omega
            subst hik'
            have HF : Hid (BestP w l M (.returned (.tuple #[.slice (some ⟨g2, 0, none⟩) n n, .int .i64 0])) wr) := Lib.hid ⟨hB.out, .inr (.inr ⟨HOK.out.1, HOK.out.2.1, HOK.out.2.2.1, HOK.out.2.2.2, some ⟨g2, 0, none⟩, n, by rw [HL.out], by
              have h1 := hO.out
              rw [List.map_take, HRK.out, HE2.out, HK.out.1] at h1
              unfold bestK
              rw [HL.out]
              exact h1⟩)⟩
            go_wp2
            go_ret2
            exact HF.out
end Go.Proofs.Ytbknkahakmfhkaa
