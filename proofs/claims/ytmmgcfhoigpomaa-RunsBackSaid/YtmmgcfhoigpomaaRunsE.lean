/- packsaddleref08.Expand. -/
import Derived.Test.YtmmgcfhoigpomaaRunsD
namespace Go.Proofs.Ytmmgcfhoigpomaa
open Go.RowKit
set_option linter.unusedVariables false
set_option linter.unusedSimpArgs false

theorem rightB_none {s m : Int} (h : rightB s m = true) (h0 : bitsOf s = 0) : m = 0 := by
  unfold rightB at h
  simp only [Bool.and_eq_true, decide_eq_true_eq] at h
  have := h.2
  rw [h0] at this
  simpa using this
theorem rep_snoc (out : List Int) (x : Int) (t : Nat) : out ++ List.replicate t x ++ [x] = out ++ List.replicate (t + 1) x := by
  rw [List.append_assoc, ← List.replicate_succ']
set_option maxRecDepth 100000 in
set_option maxHeartbeats 16000000 in
theorem refExpand_any (a : Option Addr) (n c : Nat) (b : Option Addr) (d : Nat) (ps : List (Int × Int)) (w : World) (hn : n ≤ 1000000) (hl : ps.length = n) (hra : Rd w iR a (ps.map Prod.fst)) (hrb : Rd w iR b (ps.map Prod.snd)) (hi : ∀ p ∈ ps, (-9223372036854775808 ≤ p.1 ∧ p.1 ≤ 9223372036854775807) ∧ (-9223372036854775808 ≤ p.2 ∧ p.2 ≤ 9223372036854775807)) :
  Calls Try.prog 50 #[.slice a n c, .slice b n d] w (ExpPost w ps) := by
  have HL := Lib.hid hl
  have HA := Lib.hid hra
  have HB0 := Lib.hid hrb
  have HI := Lib.hid hi
  clear hl hra hrb hi
  go_enter Try.func50, Try.ntmps50
  go_wp2
  go_loopw [6, 14] (fun xo xi wr => ∃ (k n' c' : Nat) (a' : Option Addr) (out : List Int), k ≤ n ∧ xi = .int .i64 k ∧ xo = .slice a' n' c' ∧ n' ≤ 320 ∧ Own wr w.heap.size 3 iR a' n' c' out ∧ expGo (ps.drop k) out = expGo ps [] ∧ Below w.heap.size w wr) (fun _ xi _ => n - (intOf xi).toNat)
  case atStart => exact ⟨0, 0, 0, none, [], by omega, rfl, rfl, by omega, Own.nil, by rw [List.drop_zero], Below.refl _ _⟩
  case round =>
    obtain ⟨k, n', c', a', out, hk, rfl, rfl, hn', hown, hrun, hB⟩ := hrel
    by_cases hlt : k < n
    · have hkl : k < ps.length := by rw [HL.out]; exact hlt
      obtain ⟨b1, o1, rfl, -, cq1⟩ := (HA.out.later hB).at (k := k) (by rw [List.length_map]; exact hkl)
      obtain ⟨b2, o2, rfl, -, cq2⟩ := (HB0.out.later hB).at (k := k) (by rw [List.length_map]; exact hkl)
      rw [List.getElem_map] at cq1 cq2
      unfold iR at cq1 cq2
      have hii := HI.out ps[k] (List.getElem_mem hkl)
      rw [List.drop_eq_getElem_cons hkl, expGo] at hrun
      have HRUN := Lib.hid hrun
      clear hrun
      generalize ps[k] = p at cq1 cq2 hii HRUN
      obtain ⟨s, m⟩ := p
      simp only at cq1 cq2 hii HRUN
      go_wp2_with fail
      refine (refRight_any s m wr hii.1 hii.2).mono ?_
      rintro e w2 hR
      obtain ⟨rfl, rfl⟩ := hR
      have hBR := Below.refl wr.heap.size wr
      have hown2 := hown.below hBR
      have hB2 := hB.trans (hBR.mono hB.size)
      have cq3 := (hBR.cell (p := ⟨b2, o2 + k, none⟩) (World.block_lt_of_cell? wr _ cq2)).trans cq2
      clear hown hB hBR cq1 cq2
      by_cases hr : rightB s m = true
      · have hrun := HRUN.out
        rw [if_neg (by rw [hr]; simp)] at hrun
        have hrg := rightB_range hr
        have hlen := hown2.len
        have hm0 := rightB_none hr
        rw [hr]
        clear HRUN hr
        by_cases h16 : s = 16
        · subst h16
          have htm : timesOf 16 m = 3 + m.toNat := rfl
          clear hm0
          by_cases h0 : n' = 0
          · have HF := Lib.hid (expPost_bad (w := w) (ps := ps) (by rw [← hrun, if_pos ⟨rfl, by omega⟩]) hB2)
            have h0' : ((n' : Int) == 0) = true := beq_iff_eq.2 (by omega)
            clear hrun hown2 hlen htm
            go_wp2
            go_ret2
            exact HF.out
          · rw [if_neg (by omega)] at hrun
            obtain ⟨q', rfl⟩ : ∃ q', n' = q' + 1 := ⟨n' - 1, by omega⟩
            obtain ⟨g, y, rfl, -, -, hy, hcy, -⟩ := hown2.at (i := q') (by omega)
            have hwhat : whatOf out 16 = y := by unfold whatOf; rw [if_pos rfl]; exact last_of hlen hy
            rw [hwhat] at hrun
            have h0' : (((q' : Int) + 1) == 0) = false := beq_eq_false_iff_ne.2 (by omega)
            unfold iR at hcy
            clear hwhat hy h0
            rw [hlen, htm] at hrun
            have HRUN := Lib.hid hrun
            clear hrun htm hlen
            obtain ⟨mm, rfl⟩ := Int.eq_ofNat_of_zero_le hrg.2.2.1
            rw [Int.toNat_natCast] at HRUN
            go_wp2_with fail
            have s1 : 0 ≤ (q' : Int) := by omega
            go_quiet (fail)
            clear s1 hcy cq3
            by_cases hmany : (3 + (mm : Int) : Int) > 320 - ((q' : Int) + 1 : Int)
            · have HF : Hid (∀ k, ExpPost w ps (.returned (.tuple #[.slice none 0 0, .int .i64 4])) (wr.drewN k)) := Lib.hid (fun k => expPost_bad (w := w) (ps := ps) (by rw [← HRUN.out, if_pos (by push_cast; omega)]) (hB2.trans (below_drewN _ _ _)))
              have HF2 : Hid (ExpPost w ps (.returned (.tuple #[.slice none 0 0, .int .i64 4])) wr) := Lib.hid (expPost_bad (w := w) (ps := ps) (by rw [← HRUN.out, if_pos (by push_cast; omega)]) hB2)
              clear HRUN hown2
              go_wp2
              go_ret2
              first | exact HF2.out | exact HF.out _
            · have hrun := HRUN.out
              rw [if_neg (by push_cast; omega)] at hrun
              obtain ⟨t0, ht0⟩ : ∃ t0 : Nat, (3 + (mm : Int) : Int) = (t0 : Int) ∧ (3 + mm) = t0 := ⟨(3 + mm), by first | rfl | (push_cast; rfl), rfl⟩
              have HR2 := Lib.hid (show expGo (ps.drop (k + 1)) (out ++ List.replicate t0 y) = expGo ps [] from by rw [← ht0.2]; exact hrun)
              clear HRUN hrun
              have ht1 : t0 + (q' + 1) ≤ 320 := by omega
              have HT0 := Lib.hid ht0
              clear ht0
              have hgen : ∀ k, Own (wr.drewN k) w.heap.size 3 iR (some ⟨g, 0, none⟩) (q' + 1) c' out ∧ Below w.heap.size w (wr.drewN k) := fun k => ⟨hown2.below (below_drewN _ _ _), hB2.trans (below_drewN _ _ _)⟩
              have HGEN := Lib.hid hgen
              have HG0 := Lib.hid (And.intro hown2 hB2)
              clear hgen hown2 hB2
              go_wp2
              go_loopw [6, 11] (fun xo xi wr => ∃ (t c2 : Nat) (a2 : Option Addr), t ≤ t0 ∧ xi = .int .i64 t ∧ xo = .slice a2 ((q' + 1) + t) c2 ∧ Own wr w.heap.size 3 iR a2 ((q' + 1) + t) c2 (out ++ List.replicate t y) ∧ Below w.heap.size w wr) (fun _ xi _ => t0 - (intOf xi).toNat)
              case atStart => exact ⟨0, c', _, by omega, rfl, rfl, by first | (simpa using HG0.out.1) | (simpa using (HGEN.out _).1), by first | exact HG0.out.2 | exact (HGEN.out _).2⟩
              case round =>
                obtain ⟨t, c2, a2, ht, rfl, rfl, hown, hB⟩ := hrel
                clear HGEN HG0
                by_cases htt : t < t0
                · have hti : (t : Int) < 3 + (mm : Int) := by rw [HT0.out.1]; omega
                  have hsz := hB.size
                  go_wp2_with (at_builtin; refine wpList_push slIR rfl _ _ rfl rfl rfl hown y ⟨_, 0, none⟩ rfl (cell_push rfl _ _) rfl (by omega) (by unfold maxLen; omega) hsz ?_; intro a3 c3 w3 hown3 hg3; have hB3 := hown.step hB hg3 hsz; clear hown hB hg3)
                  go_roundw
                  case rel => exact ⟨t + 1, c3, a3, by omega, by go_num, rfl, by rw [← rep_snoc]; exact hown3, hB3⟩
                  case measure => simp [intOf]; omega
                · have htn : t = t0 := by omega
                  have hti : ¬ (t : Int) < 3 + (mm : Int) := by rw [HT0.out.1]; omega
                  rw [htn] at hown
                  have HOWN := Lib.hid hown
                  have HTN := Lib.hid htn
                  clear hown htn
                  go_wp2
                  go_roundw
                  case rel => exact ⟨k + 1, (q' + 1) + t, c2, a2, _, by omega, by go_num, rfl, by have := HTN.out; omega, by rw [HTN.out]; exact HOWN.out, HR2.out, hB⟩
                  case measure => simp [intOf]; omega
        · rw [if_neg (by omega)] at hrun
          rw [hlen] at hrun
          have h16' : (s == 16) = false := beq_eq_false_iff_ne.2 h16
          by_cases h17 : s = 17
          · subst h17
            have htm : timesOf 17 m = 3 + m.toNat := rfl
            rw [show whatOf out 17 = 0 from rfl, htm] at hrun
            clear hm0 h16 h16' htm hlen
            have HRUN := Lib.hid hrun
            clear hrun
            obtain ⟨mm, rfl⟩ := Int.eq_ofNat_of_zero_le hrg.2.2.1
            rw [Int.toNat_natCast] at HRUN
            go_wp2_with fail
            go_quiet (fail)
            clear cq3
            by_cases hmany : (3 + (mm : Int) : Int) > 320 - (n' : Int)
            · have HF : Hid (∀ k, ExpPost w ps (.returned (.tuple #[.slice none 0 0, .int .i64 4])) (wr.drewN k)) := Lib.hid (fun k => expPost_bad (w := w) (ps := ps) (by rw [← HRUN.out, if_pos (by push_cast; omega)]) (hB2.trans (below_drewN _ _ _)))
              have HF2 : Hid (ExpPost w ps (.returned (.tuple #[.slice none 0 0, .int .i64 4])) wr) := Lib.hid (expPost_bad (w := w) (ps := ps) (by rw [← HRUN.out, if_pos (by push_cast; omega)]) hB2)
              clear HRUN hown2
              go_wp2
              go_ret2
              first | exact HF2.out | exact HF.out _
            · have hrun := HRUN.out
              rw [if_neg (by push_cast; omega)] at hrun
              obtain ⟨t0, ht0⟩ : ∃ t0 : Nat, (3 + (mm : Int) : Int) = (t0 : Int) ∧ (3 + mm) = t0 := ⟨(3 + mm), by first | rfl | (push_cast; rfl), rfl⟩
              have HR2 := Lib.hid (show expGo (ps.drop (k + 1)) (out ++ List.replicate t0 0) = expGo ps [] from by rw [← ht0.2]; exact hrun)
              clear HRUN hrun
              have ht1 : t0 + n' ≤ 320 := by omega
              have HT0 := Lib.hid ht0
              clear ht0
              have hgen : ∀ k, Own (wr.drewN k) w.heap.size 3 iR a' n' c' out ∧ Below w.heap.size w (wr.drewN k) := fun k => ⟨hown2.below (below_drewN _ _ _), hB2.trans (below_drewN _ _ _)⟩
              have HGEN := Lib.hid hgen
              have HG0 := Lib.hid (And.intro hown2 hB2)
              clear hgen hown2 hB2
              go_wp2
              go_loopw [6, 11] (fun xo xi wr => ∃ (t c2 : Nat) (a2 : Option Addr), t ≤ t0 ∧ xi = .int .i64 t ∧ xo = .slice a2 (n' + t) c2 ∧ Own wr w.heap.size 3 iR a2 (n' + t) c2 (out ++ List.replicate t 0) ∧ Below w.heap.size w wr) (fun _ xi _ => t0 - (intOf xi).toNat)
              case atStart => exact ⟨0, c', _, by omega, rfl, rfl, by first | (simpa using HG0.out.1) | (simpa using (HGEN.out _).1), by first | exact HG0.out.2 | exact (HGEN.out _).2⟩
              case round =>
                obtain ⟨t, c2, a2, ht, rfl, rfl, hown, hB⟩ := hrel
                clear HGEN HG0
                by_cases htt : t < t0
                · have hti : (t : Int) < 3 + (mm : Int) := by rw [HT0.out.1]; omega
                  have hsz := hB.size
                  go_wp2_with (at_builtin; refine wpList_push slIR rfl _ _ rfl rfl rfl hown 0 ⟨_, 0, none⟩ rfl (cell_push rfl _ _) rfl (by omega) (by unfold maxLen; omega) hsz ?_; intro a3 c3 w3 hown3 hg3; have hB3 := hown.step hB hg3 hsz; clear hown hB hg3)
                  go_roundw
                  case rel => exact ⟨t + 1, c3, a3, by omega, by go_num, rfl, by rw [← rep_snoc]; exact hown3, hB3⟩
                  case measure => simp [intOf]; omega
                · have htn : t = t0 := by omega
                  have hti : ¬ (t : Int) < 3 + (mm : Int) := by rw [HT0.out.1]; omega
                  rw [htn] at hown
                  have HOWN := Lib.hid hown
                  have HTN := Lib.hid htn
                  clear hown htn
                  go_wp2
                  go_roundw
                  case rel => exact ⟨k + 1, n' + t, c2, a2, _, by omega, by go_num, rfl, by have := HTN.out; omega, by rw [HTN.out]; exact HOWN.out, HR2.out, hB⟩
                  case measure => simp [intOf]; omega
          · have h17' : (s == 17) = false := beq_eq_false_iff_ne.2 h17
            by_cases h18 : s = 18
            · subst h18
              have htm : timesOf 18 m = 11 + m.toNat := rfl
              rw [show whatOf out 18 = 0 from rfl, htm] at hrun
              clear hm0 h16 h16' h17 h17' htm hlen
              have HRUN := Lib.hid hrun
              clear hrun
              obtain ⟨mm, rfl⟩ := Int.eq_ofNat_of_zero_le hrg.2.2.1
              rw [Int.toNat_natCast] at HRUN
              go_wp2_with fail
              go_quiet (fail)
              clear cq3
              by_cases hmany : (11 + (mm : Int) : Int) > 320 - (n' : Int)
              · have HF : Hid (∀ k, ExpPost w ps (.returned (.tuple #[.slice none 0 0, .int .i64 4])) (wr.drewN k)) := Lib.hid (fun k => expPost_bad (w := w) (ps := ps) (by rw [← HRUN.out, if_pos (by push_cast; omega)]) (hB2.trans (below_drewN _ _ _)))
                have HF2 : Hid (ExpPost w ps (.returned (.tuple #[.slice none 0 0, .int .i64 4])) wr) := Lib.hid (expPost_bad (w := w) (ps := ps) (by rw [← HRUN.out, if_pos (by push_cast; omega)]) hB2)
                clear HRUN hown2
                go_wp2
                go_ret2
                first | exact HF2.out | exact HF.out _
              · have hrun := HRUN.out
                rw [if_neg (by push_cast; omega)] at hrun
                obtain ⟨t0, ht0⟩ : ∃ t0 : Nat, (11 + (mm : Int) : Int) = (t0 : Int) ∧ (11 + mm) = t0 := ⟨(11 + mm), by first | rfl | (push_cast; rfl), rfl⟩
                have HR2 := Lib.hid (show expGo (ps.drop (k + 1)) (out ++ List.replicate t0 0) = expGo ps [] from by rw [← ht0.2]; exact hrun)
                clear HRUN hrun
                have ht1 : t0 + n' ≤ 320 := by omega
                have HT0 := Lib.hid ht0
                clear ht0
                have hgen : ∀ k, Own (wr.drewN k) w.heap.size 3 iR a' n' c' out ∧ Below w.heap.size w (wr.drewN k) := fun k => ⟨hown2.below (below_drewN _ _ _), hB2.trans (below_drewN _ _ _)⟩
                have HGEN := Lib.hid hgen
                have HG0 := Lib.hid (And.intro hown2 hB2)
                clear hgen hown2 hB2
                go_wp2
                go_loopw [6, 11] (fun xo xi wr => ∃ (t c2 : Nat) (a2 : Option Addr), t ≤ t0 ∧ xi = .int .i64 t ∧ xo = .slice a2 (n' + t) c2 ∧ Own wr w.heap.size 3 iR a2 (n' + t) c2 (out ++ List.replicate t 0) ∧ Below w.heap.size w wr) (fun _ xi _ => t0 - (intOf xi).toNat)
                case atStart => exact ⟨0, c', _, by omega, rfl, rfl, by first | (simpa using HG0.out.1) | (simpa using (HGEN.out _).1), by first | exact HG0.out.2 | exact (HGEN.out _).2⟩
                case round =>
                  obtain ⟨t, c2, a2, ht, rfl, rfl, hown, hB⟩ := hrel
                  clear HGEN HG0
                  by_cases htt : t < t0
                  · have hti : (t : Int) < 11 + (mm : Int) := by rw [HT0.out.1]; omega
                    have hsz := hB.size
                    go_wp2_with (at_builtin; refine wpList_push slIR rfl _ _ rfl rfl rfl hown 0 ⟨_, 0, none⟩ rfl (cell_push rfl _ _) rfl (by omega) (by unfold maxLen; omega) hsz ?_; intro a3 c3 w3 hown3 hg3; have hB3 := hown.step hB hg3 hsz; clear hown hB hg3)
                    go_roundw
                    case rel => exact ⟨t + 1, c3, a3, by omega, by go_num, rfl, by rw [← rep_snoc]; exact hown3, hB3⟩
                    case measure => simp [intOf]; omega
                  · have htn : t = t0 := by omega
                    have hti : ¬ (t : Int) < 11 + (mm : Int) := by rw [HT0.out.1]; omega
                    rw [htn] at hown
                    have HOWN := Lib.hid hown
                    have HTN := Lib.hid htn
                    clear hown htn
                    go_wp2
                    go_roundw
                    case rel => exact ⟨k + 1, n' + t, c2, a2, _, by omega, by go_num, rfl, by have := HTN.out; omega, by rw [HTN.out]; exact HOWN.out, HR2.out, hB⟩
                    case measure => simp [intOf]; omega
            · have h18' : (s == 18) = false := beq_eq_false_iff_ne.2 h18
              have hb0 : bitsOf s = 0 := by unfold bitsOf; rw [if_neg h16, if_neg h17, if_neg h18]
              have hl1 : leastOf s = 1 := by unfold leastOf; rw [if_neg (by omega), if_neg h18]
              have hm00 := hm0 hb0
              have htm : timesOf s m = 1 := by unfold timesOf; rw [hl1, hm00]; rfl
              have hwhat : whatOf out s = s := by unfold whatOf; rw [if_neg h16, if_neg (by omega)]
              rw [hwhat, htm] at hrun
              clear hm0 htm hwhat hb0 hl1 hm00 h16 h17 h18 cq3 hlen
              have HRUN := Lib.hid hrun
              clear hrun
              by_cases hmany : (1 : Int) > 320 - (n' : Int)
              · have HF : Hid (∀ k, ExpPost w ps (.returned (.tuple #[.slice none 0 0, .int .i64 4])) (wr.drewN k)) := Lib.hid (fun k => expPost_bad (w := w) (ps := ps) (by rw [← HRUN.out, if_pos (by push_cast; omega)]) (hB2.trans (below_drewN _ _ _)))
                have HF2 : Hid (ExpPost w ps (.returned (.tuple #[.slice none 0 0, .int .i64 4])) wr) := Lib.hid (expPost_bad (w := w) (ps := ps) (by rw [← HRUN.out, if_pos (by push_cast; omega)]) hB2)
                clear HRUN hown2
                go_wp2
                go_ret2
                first | exact HF2.out | exact HF.out _
              · have hrun := HRUN.out
                rw [if_neg (by push_cast; omega)] at hrun
                obtain ⟨t0, ht0⟩ : ∃ t0 : Nat, (1 : Int) = (t0 : Int) ∧ 1 = t0 := ⟨1, by first | rfl | (push_cast; rfl), rfl⟩
                have HR2 := Lib.hid (show expGo (ps.drop (k + 1)) (out ++ List.replicate t0 s) = expGo ps [] from by rw [← ht0.2]; exact hrun)
                clear HRUN hrun
                have ht1 : t0 + n' ≤ 320 := by omega
                have HT0 := Lib.hid ht0
                clear ht0
                have hgen : ∀ k, Own (wr.drewN k) w.heap.size 3 iR a' n' c' out ∧ Below w.heap.size w (wr.drewN k) := fun k => ⟨hown2.below (below_drewN _ _ _), hB2.trans (below_drewN _ _ _)⟩
                have HGEN := Lib.hid hgen
                have HG0 := Lib.hid (And.intro hown2 hB2)
                clear hgen hown2 hB2
                go_wp2
                go_loopw [6, 11] (fun xo xi wr => ∃ (t c2 : Nat) (a2 : Option Addr), t ≤ t0 ∧ xi = .int .i64 t ∧ xo = .slice a2 (n' + t) c2 ∧ Own wr w.heap.size 3 iR a2 (n' + t) c2 (out ++ List.replicate t s) ∧ Below w.heap.size w wr) (fun _ xi _ => t0 - (intOf xi).toNat)
                case atStart => exact ⟨0, c', _, by omega, rfl, rfl, by first | (simpa using HG0.out.1) | (simpa using (HGEN.out _).1), by first | exact HG0.out.2 | exact (HGEN.out _).2⟩
                case round =>
                  obtain ⟨t, c2, a2, ht, rfl, rfl, hown, hB⟩ := hrel
                  clear HGEN HG0
                  by_cases htt : t < t0
                  · have ht00 : t = 0 := by have := HT0.out.2; omega
                    subst ht00
                    have hsz := hB.size
                    go_wp2_with (at_builtin; refine wpList_push slIR rfl _ _ rfl rfl rfl hown s ⟨_, 0, none⟩ rfl (cell_push rfl _ _) rfl (by omega) (by unfold maxLen; omega) hsz ?_; intro a3 c3 w3 hown3 hg3; have hB3 := hown.step hB hg3 hsz; clear hown hB hg3)
                    go_roundw
                    case rel => exact ⟨1, c3, a3, by omega, by go_num, rfl, by have := hown3; rw [rep_snoc] at this; exact this, hB3⟩
                    case measure => simp [intOf]; omega
                  · have htn : t = t0 := by omega
                    have ht11 : t = 1 := by have := HT0.out.2; omega
                    subst ht11
                    rw [htn] at hown
                    have HOWN := Lib.hid hown
                    have HTN := Lib.hid htn
                    clear hown htn
                    go_wp2
                    go_roundw
                    case rel => exact ⟨k + 1, n' + 1, c2, a2, _, by omega, by go_num, rfl, by have := HTN.out; omega, by rw [HTN.out]; exact HOWN.out, HR2.out, hB⟩
                    case measure => simp [intOf]; omega
      · have HF := Lib.hid (expPost_bad (w := w) (ps := ps) (by rw [← HRUN.out, if_pos (by simpa using hr)]) hB2)
        have hr' : rightB s m = false := by simpa using hr
        rw [hr']
        clear hr hr' HRUN hown2 cq3
        go_wp2
        go_ret2
        exact HF.out
    · have hkn : k = n := by omega
      rw [hkn, ← HL.out, List.drop_length, expGo] at hrun
      have HF : Hid (ExpPost w ps (.returned (.tuple #[.slice a' n' c', .int .i64 0])) wr) := Lib.hid (expPost_ok hrun.symm hown.len hn' hown.rd hB)
      rw [hkn]
      clear hrun hown hkn hlt hk
      go_wp2
      go_ret2
      exact HF.out
end Go.Proofs.Ytmmgcfhoigpomaa
