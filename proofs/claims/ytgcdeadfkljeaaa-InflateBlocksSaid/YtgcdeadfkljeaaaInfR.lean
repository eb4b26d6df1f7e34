/- The document's State: stored. -/
import Derived.Test.YtgcdeadfkljeaaaInfQ
import Derived.Test.YtgcdeadfkljeaaaInfF
import Derived.Test.YtgcdeadfkljeaaaInfJ
namespace Go.Proofs.Ytgcdeadfkljeaaa
open Go.RowKit
set_option linter.unusedVariables false
set_option linter.unusedSimpArgs false

set_option maxRecDepth 100000 in
set_option maxHeartbeats 16000000 in
theorem jStored_any {A B gs gr : Nat} {L : List UInt8} {most : Int} {s : IS} (w : World) (h : JSt w A B gs gr L most s) (hmost : 0 ≤ most ∧ most ≤ 16777216) :
  Calls Try.prog 30 #[.pointer (some ⟨gs, 0, none⟩)] w (SjPost A B gs gr L most w (.returned (.tuple #[])) (storedK L most s)) := by
  have mixed : Try.prog.follows .mixedOrders = true := by kernel_rfl
  have H := Lib.hid h
  obtain ⟨tot, htot⟩ : ∃ t, t = storedK L most s := ⟨_, rfl⟩
  rw [← htot]
  have HT := Lib.hid htot
  unfold storedK at HT
  obtain ⟨q, n, c, c0, c1, c2, c3, f3, -⟩ := h.cells
  have HA := Lib.hid (rrAlign_any gr L s.p w h.rd)
  clear htot h c1 c2 c3 f3
  go_enter Try.func30, Try.ntmps30
  go_wp2_with fail
  refine HA.out.mono ?_
  rintro e w1 ⟨rfl, hr1, hg1⟩
  have H1 := Lib.hid (H.out.moved hr1 hg1)
  clear hr1 hg1 HA c0 H
  generalize ({ s with p := alignN s.p } : IS) = s1 at *
  have HV1 : Hid ((bitsK L 16 s1).1 < 65536) := Lib.hid (bitsK_lt L 16 (by decide) s1)
  have HB1 := Lib.hid (jGet_any 16 w1 H1.out.1 (by decide))
  unfold SjPost at HB1
  generalize bitsK L 16 s1 = b1 at *
  obtain ⟨nn, s2⟩ := b1
  simp only at HB1 HV1 HT
  go_wp2_with fail
  refine HB1.out.mono ?_
  rintro e w2 ⟨rfl, h2, k2⟩
  have H2 : Hid (JSt w2 A B gs gr L most s2 ∧ Chj A w w2) := Lib.hid ⟨h2, H1.out.2.trans k2⟩
  clear h2 k2 HB1 H1
  have HV2 : Hid ((bitsK L 16 s2).1 < 65536) := Lib.hid (bitsK_lt L 16 (by decide) s2)
  have HB2 := Lib.hid (jGet_any 16 w2 H2.out.1 (by decide))
  unfold SjPost at HB2
  generalize bitsK L 16 s2 = b2 at *
  obtain ⟨tt, s3⟩ := b2
  simp only at HB2 HV2 HT
  go_wp2_with fail
  refine HB2.out.mono ?_
  rintro e w3 ⟨rfl, h3, k3⟩
  have H3 : Hid (JSt w3 A B gs gr L most s3 ∧ Chj A w w3) := Lib.hid ⟨h3, H2.out.2.trans k3⟩
  clear h3 k3 HB2 H2
  have hn16 := HV1.out
  have ht16 := HV2.out
  have gad : IntKind.i64.wrap ((nn : Int) + (tt : Int)) = (nn : Int) + (tt : Int) := IntWalk.i64_in _ (by omega)
  obtain ⟨q, n, c, c0, c1, c2, c3, f3, ho⟩ := H3.out.1.cells
  have hl := ho.len
  have hcm := ho.cap_max
  have hlc := ho.le_cap
  unfold maxLen at hcm
  have HO := Lib.hid ho
  have gsb : IntKind.i64.wrap (most - (n : Int)) = most - (n : Int) := IntWalk.i64_in _ (by omega)
  clear ho f3
  by_cases he : s3.e = 0
  · have HE := Lib.hid he
    rw [if_neg (by simpa using he)] at HT
    rw [he] at c3
    clear he
    by_cases hx : nn + tt = 65535
    · rw [if_neg (by simpa using hx)] at HT
      have gne : ((nn : Int) + (tt : Int) != 65535) = false := by simp; omega
      have HV := H3
      clear hx
      have HV9 := Lib.hid (fun (k : Nat) => And.intro (HV.out.1.below (below_drewN w3 w3.heap.size k)) (HV.out.2.trans (Chj.of_below (below_drewN w3 w3.heap.size k) HV.out.1.base)))
      by_cases hlg : most - (n : Int) < (nn : Int)
      · have hlg2 : (nn : Int) > most - (n : Int) := hlg
        have hdl : decide (most - (n : Int) < (nn : Int)) = true := decide_eq_true hlg
        go_wp2_with fail
        go_quiet (fail)
        go_wp2_with fail
        refine (jFail_any 3 _ (HV9.out _).1).mono ?_
        rintro e w9 ⟨rfl, h9, k9⟩
        have hsv : (failS 3 s3).e ≠ 0 := failS_ne (by decide) _
        have H9 := Lib.hid (And.intro h9 ((HV9.out _).2.trans k9))
        have HTV : Hid (tot = failS 3 s3) := Lib.hid (by rw [HT.out, if_pos (by unfold roomK; rw [HE.out, hl]; simp; omega)])
        clear h9 k9 HV9 hdl hlg hlg2 c0 c1 c2 c3 HT
        generalize failS 3 s3 = s9 at *
        obtain ⟨qz, nz, cz, z0, z1, z2, z3, y3, -⟩ := H9.out.1.cells
        have heb : (s9.e == 0) = false := by simpa using hsv
        clear z0 z1 z2 y3
        go_wp2_with fail
        go_end0
        rw [HTV.out]
        exact ⟨rfl, H9.out.1, H9.out.2⟩
      · have hlg2 : ¬ (nn : Int) > most - (n : Int) := hlg
        have hdl : decide (most - (n : Int) < (nn : Int)) = false := decide_eq_false hlg
        go_wp2_with fail
        go_quiet (fail)
        obtain ⟨w9, hw9⟩ : ∃ x, w3.drewN nq = x := ⟨_, rfl⟩
        have H9 := Lib.hid (HV9.out nq)
        rw [hw9] at H9 ⊢
        have hfit : (nn : Int) + (n : Int) ≤ most := by omega
        have HT2 : Hid (tot = { p := rdTakeAt L s3.p nn, out := s3.out ++ rdTakeL L s3.p nn, e := rdTakeEr L s3.p nn }) := Lib.hid (by rw [HT.out, if_neg (by unfold roomK; rw [HE.out, hl]; simp; omega)])
        clear HV9 hdl hlg hlg2 c0 c1 c2 c3 hw9 HO
        obtain ⟨q4, n4, d4, c0, -, -, c3, -, -⟩ := H9.out.1.cells
        rw [HE.out] at c3
        have HTK := Lib.hid (rrTake_any gr L s3.p nn w9 H9.out.1.rd (by omega) (by omega))
        have HTL : Hid ((rdTakeL L s3.p nn).length ≤ 65536) := Lib.hid (by
          unfold rdTakeL; split
          · rw [List.length_take, Int.toNat_natCast]; omega
          · simp)
        unfold RrTakePost at HTK
        generalize rdTakeL L s3.p nn = tl at *
        generalize rdTakeEr L s3.p nn = te at *
        generalize rdTakeAt L s3.p nn = tp at *
        clear HT
        go_wp2_with fail
        refine HTK.out.mono ?_
        rintro e w5 ⟨a5, k5, d5, rfl, hl5, hr5, hrd5, hg5⟩
        have H5 := Lib.hid (H9.out.1.moved hrd5 hg5)
        have HR5 := Lib.hid (And.intro hl5 hr5)
        have hk5 : k5 ≤ 65536 := by rw [← hl5]; exact HTL.out
        clear hl5 hr5 hrd5 hg5 HTK c0 c3
        go_wp2_with fail
        refine (jFail_g te w5 H5.out.1).mono ?_
        rintro e w6 ⟨⟨rfl, h6, k6⟩, hg6⟩
        have hfe : failS te { s3 with p := tp } = { s3 with p := tp, e := te } := by unfold failS; rw [if_pos HE.out]
        rw [hfe] at h6
        have H6 : Hid (JSt w6 A B gs gr L most { s3 with p := tp, e := te } ∧ Chj A w w6) := Lib.hid ⟨h6, (H9.out.2.trans H5.out.2).trans k6⟩
        have HR6 := Lib.hid (HR5.out.2.keep (keep_of_grown hg6 H5.out.1.nobyte))
        clear h6 k6 hg6 hfe
        obtain ⟨q6, n6, c6, hb6, ho6⟩ := H6.out.1.ex
        have HBO := Lib.hid (And.intro hb6 ho6)
        have d1 := hb6.cell (i := 1) rfl
        have hn6 : n6 = n := by rw [← hl]; exact ho6.len.symm
        have hln6 := ho6.len
        clear hb6 ho6 hln6
        subst hn6
        go_wp2_with (at_builtin; refine wpList_cat slByte rfl _ _ rfl rfl HBO.out.2 rfl HR5.out.1 HR6.out (byteOne _) (by omega) (by unfold maxLen; omega) H6.out.1.le.2.2.2.2.2 ?_; intro p7 c7 w7 hown7 hg7 _ _; have HP := Lib.hid (H6.out.1.pushed HBO.out.1 HBO.out.2 hown7 hg7); have hbk := HBO.out.1.grown hg7 (fun e => by have := own_far HBO.out.2 H6.out.1.le.2.2.1 gs e.symm; omega); have d1 := hbk.cell (i := 1) rfl; have d2 := hbk.frozen 1; clear hown7 hg7 hbk)
        go_end0
        rw [HT2.out]
        exact ⟨rfl, HP.out.1, H6.out.2.trans HP.out.2⟩
    · rw [if_pos hx] at HT
      have gne : ((nn : Int) + (tt : Int) != 65535) = true := by simp; omega
      have hsv : (failS 2 s3).e ≠ 0 := failS_ne (by decide) _
      clear hx
      go_wp2_with fail
      refine (jFail_any 2 w3 H3.out.1).mono ?_
      rintro e w4 ⟨rfl, h4, k4⟩
      have HV := Lib.hid (And.intro h4 (H3.out.2.trans k4))
      have HTV : Hid (tot = failS 2 s3) := HT
      have hl4 : (failS 2 s3).out.length = n := by rw [failS_out]; exact hl
      clear h4 k4 H3 HT c0 c1 c2 c3 HE hl HO
      generalize failS 2 s3 = s4 at *
      obtain ⟨q4, n4, d4, c0, c1, c2, c3, f3, ho⟩ := HV.out.1.cells
      have hn4 : n = n4 := by rw [← ho.len, hl4]
      subst hn4
      clear ho f3 hl4
      have HV9 := Lib.hid (fun (k : Nat) => And.intro (HV.out.1.below (below_drewN w4 w4.heap.size k)) (HV.out.2.trans (Chj.of_below (below_drewN w4 w4.heap.size k) HV.out.1.base)))
      by_cases hlg : most - (n : Int) < (nn : Int)
      · have hlg2 : (nn : Int) > most - (n : Int) := hlg
        have hdl : decide (most - (n : Int) < (nn : Int)) = true := decide_eq_true hlg
        go_wp2_with fail
        go_quiet (fail)
        go_wp2_with fail
        refine (jFail_any 3 _ (HV9.out _).1).mono ?_
        rintro e w9 ⟨rfl, h9, k9⟩
        have hff : failS 3 s4 = s4 := by unfold failS; rw [if_neg hsv]
        rw [hff] at h9
        have H9 := Lib.hid (And.intro h9 ((HV9.out _).2.trans k9))
        clear h9 k9 HV9 hdl hlg hlg2 c0 c1 c2 c3 hff
        obtain ⟨qz, nz, cz, z0, z1, z2, z3, y3, -⟩ := H9.out.1.cells
        have heb : (s4.e == 0) = false := by simpa using hsv
        clear z0 z1 z2 y3
        go_wp2_with fail
        go_end0
        rw [HTV.out]
        exact ⟨rfl, H9.out.1, H9.out.2⟩
      · have hlg2 : ¬ (nn : Int) > most - (n : Int) := hlg
        have hdl : decide (most - (n : Int) < (nn : Int)) = false := decide_eq_false hlg
        go_wp2_with fail
        go_quiet (fail)
        obtain ⟨w9, hw9⟩ : ∃ x, w4.drewN nq = x := ⟨_, rfl⟩
        have H9 := Lib.hid (HV9.out nq)
        rw [hw9] at H9 ⊢
        clear HV9 hdl hlg hlg2 c0 c1 c2 c3 hw9
        obtain ⟨qz, nz, cz, z0, z1, z2, z3, y3, -⟩ := H9.out.1.cells
        have heb : (s4.e == 0) = false := by simpa using hsv
        clear z0 z1 z2 y3
        go_wp2_with fail
        go_end0
        rw [HTV.out]
        exact ⟨rfl, H9.out.1, H9.out.2⟩
  · rw [if_pos he] at HT
    have hsv : s3.e ≠ 0 := he
    have heb0 : (s3.e == 0) = false := by simpa using he
    have HV := H3
    have HTV := HT
    clear he HT H3 hl HO
    have HV9 := Lib.hid (fun (k : Nat) => And.intro (HV.out.1.below (below_drewN w3 w3.heap.size k)) (HV.out.2.trans (Chj.of_below (below_drewN w3 w3.heap.size k) HV.out.1.base)))
    by_cases hlg : most - (n : Int) < (nn : Int)
    · have hlg2 : (nn : Int) > most - (n : Int) := hlg
      have hdl : decide (most - (n : Int) < (nn : Int)) = true := decide_eq_true hlg
      go_wp2_with fail
      go_quiet (fail)
      go_wp2_with fail
      refine (jFail_any 3 _ (HV9.out _).1).mono ?_
      rintro e w9 ⟨rfl, h9, k9⟩
      have hff : failS 3 s3 = s3 := by unfold failS; rw [if_neg hsv]
      rw [hff] at h9
      have H9 := Lib.hid (And.intro h9 ((HV9.out _).2.trans k9))
      clear h9 k9 HV9 hdl hlg hlg2 c0 c1 c2 c3 hff
      obtain ⟨qz, nz, cz, z0, z1, z2, z3, y3, -⟩ := H9.out.1.cells
      have heb1 : (s3.e == 0) = false := by simpa using hsv
      clear z0 z1 z2 y3
      go_wp2_with fail
      go_end0
      rw [HTV.out]
      exact ⟨rfl, H9.out.1, H9.out.2⟩
    · have hlg2 : ¬ (nn : Int) > most - (n : Int) := hlg
      have hdl : decide (most - (n : Int) < (nn : Int)) = false := decide_eq_false hlg
      go_wp2_with fail
      go_quiet (fail)
      obtain ⟨w9, hw9⟩ : ∃ x, w3.drewN nq = x := ⟨_, rfl⟩
      have H9 := Lib.hid (HV9.out nq)
      rw [hw9] at H9 ⊢
      clear HV9 hdl hlg hlg2 c0 c1 c2 c3 hw9
      obtain ⟨qz, nz, cz, z0, z1, z2, z3, y3, -⟩ := H9.out.1.cells
      have heb1 : (s3.e == 0) = false := by simpa using hsv
      clear z0 z1 z2 y3
      go_wp2_with fail
      go_end0
      rw [HTV.out]
      exact ⟨rfl, H9.out.1, H9.out.2⟩
end Go.Proofs.Ytgcdeadfkljeaaa
/- The document's Order, Fixed. -/
namespace Go.Proofs.Ytgcdeadfkljeaaa
open Go.RowKit
set_option linter.unusedVariables false
set_option linter.unusedSimpArgs false

abbrev INT : TypeId := 3
theorem rOrder_any (w : World) : Calls Try.prog 18 #[] w fun e w' => ∃ k, e = .returned (.slice (some ⟨k, 0, none⟩) 19 19) ∧ Blk w' k INT ordC ∧ w.heap.size ≤ k ∧ Below w.heap.size w w' := by
  have HF : Hid (Blk (w.alloc (.cells ordC INT)) w.heap.size INT ordC ∧ Below w.heap.size w (w.alloc (.cells ordC INT))) := Lib.hid ⟨Blk.new _ _ _, below_alloc _ _⟩
  go_enter Try.func18, Try.ntmps18
  go_wp2
  go_ret
  exact ⟨w.heap.size, rfl, HF.out.1, Nat.le_refl _, HF.out.2⟩
def RFixPost (w : World) (e : Ending) (w' : World) : Prop := ∃ p1 c1 p2 c2, e = .returned (.tuple #[.slice p1 288 c1, .slice p2 32 c2]) ∧ Rd w' nE p1 fixA ∧ Rd w' nE p2 fixB ∧ Below w.heap.size w w'
theorem take_step {l : List Int} {i : Nat} {v : Int} (hi : i < l.length) (h : l.getD i 0 = v) : l.take (i + 1) = l.take i ++ [v] := by
  rw [List.getD_eq_getElem?_getD, List.getElem?_eq_getElem hi] at h
  rw [List.take_add_one, List.getElem?_eq_getElem hi]
  simp at h
  rw [h]; rfl
set_option maxRecDepth 100000 in
set_option maxHeartbeats 16000000 in
theorem rFixed_any (w : World) : Calls Try.prog 31 #[] w (RFixPost w) := by
  have hLA : fixA.length = 288 := by simp [fixA]
  have HLA := Lib.hid hLA
  have HL0 : Hid (Own w w.heap.size INT nE none 0 0 (fixA.take 0) ∧ Below w.heap.size w w) := Lib.hid ⟨Own.nil, Below.refl _ _⟩
  clear hLA
  go_enter Try.func31, Try.ntmps31
  go_wp2_with fail
  go_loopw [2, 4] (fun x2 x4 wr => ∃ (i : Nat) (p : Option Addr) (c : Nat), i ≤ 288 ∧ x4 = .int .i64 (i : Int) ∧ x2 = .slice p i c ∧ Hid (Own wr w.heap.size INT nE p i c (fixA.take i) ∧ Below w.heap.size w wr)) (fun _ x4 _ => 288 - (intOf x4).toNat)
  case atStart => exact ⟨0, none, 0, by omega, rfl, rfl, HL0⟩
  case round =>
    clear HL0
    obtain ⟨i, p, c, hi, rfl, rfl, hW⟩ := hrel
    have hws := hW.out.2.size
    by_cases hin : i < 288
    · have b1 : (i : Int) < 288 := by omega
      by_cases h1 : i < 144
      · have c1 : (i : Int) < 144 := by omega
        have HST : Hid (fixA.take (i + 1) = fixA.take i ++ [8]) := Lib.hid (take_step (by rw [HLA.out]; exact hin) (by rw [show fixA = List.replicate 144 8 ++ List.replicate 112 9 ++ List.replicate 24 7 ++ List.replicate 8 8 from rfl]; exact fixA_at i 8 (by omega)))
        go_wp2_with (at_builtin; refine wpList_push (w0 := wr) slIntE rfl _ _ rfl rfl rfl hW.out.1 (8 : Int) _ rfl (cell_push rfl _ _) rfl (by omega) (by unfold maxLen; omega) hws ?_; intro p3 c3 w3 hown3 hg3)
        have HW2 : Hid (Own w3 w.heap.size INT nE p3 (i + 1) c3 (fixA.take (i + 1)) ∧ Below w.heap.size w w3) := Lib.hid (by
          rw [HST.out]
          exact ⟨hown3, hW.out.2.grown hg3 hws (fun k hk => (hW.out.1.1.lt k hk).1)⟩)
        clear hown3 hg3
        go_roundw
        case rel => exact ⟨i + 1, p3, c3, by omega, by go_num, rfl, HW2⟩
        case measure => simp [intOf] <;> omega
      · have c1 : ¬ (i : Int) < 144 := by omega
        by_cases h2 : 279 < i
        · have c2 : (279 : Int) < (i : Int) := by omega
          have HST : Hid (fixA.take (i + 1) = fixA.take i ++ [8]) := Lib.hid (take_step (by rw [HLA.out]; exact hin) (by rw [show fixA = List.replicate 144 8 ++ List.replicate 112 9 ++ List.replicate 24 7 ++ List.replicate 8 8 from rfl]; exact fixA_at i 8 (by omega)))
          go_wp2_with (at_builtin; refine wpList_push (w0 := wr) slIntE rfl _ _ rfl rfl rfl hW.out.1 (8 : Int) _ rfl (cell_push rfl _ _) rfl (by omega) (by unfold maxLen; omega) hws ?_; intro p3 c3 w3 hown3 hg3)
          have HW2 : Hid (Own w3 w.heap.size INT nE p3 (i + 1) c3 (fixA.take (i + 1)) ∧ Below w.heap.size w w3) := Lib.hid (by
            rw [HST.out]
            exact ⟨hown3, hW.out.2.grown hg3 hws (fun k hk => (hW.out.1.1.lt k hk).1)⟩)
          clear hown3 hg3
          go_roundw
          case rel => exact ⟨i + 1, p3, c3, by omega, by go_num, rfl, HW2⟩
          case measure => simp [intOf] <;> omega
        · have c2 : ¬ (279 : Int) < (i : Int) := by omega
          by_cases h3 : i < 256
          · have c3 : (i : Int) < 256 := by omega
            have HST : Hid (fixA.take (i + 1) = fixA.take i ++ [9]) := Lib.hid (take_step (by rw [HLA.out]; exact hin) (by rw [show fixA = List.replicate 144 8 ++ List.replicate 112 9 ++ List.replicate 24 7 ++ List.replicate 8 8 from rfl]; exact fixA_at i 9 (by omega)))
            go_wp2_with (at_builtin; refine wpList_push (w0 := wr) slIntE rfl _ _ rfl rfl rfl hW.out.1 (9 : Int) _ rfl (cell_push rfl _ _) rfl (by omega) (by unfold maxLen; omega) hws ?_; intro p3 c3 w3 hown3 hg3)
            have HW2 : Hid (Own w3 w.heap.size INT nE p3 (i + 1) c3 (fixA.take (i + 1)) ∧ Below w.heap.size w w3) := Lib.hid (by
              rw [HST.out]
              exact ⟨hown3, hW.out.2.grown hg3 hws (fun k hk => (hW.out.1.1.lt k hk).1)⟩)
            clear hown3 hg3
            go_roundw
            case rel => exact ⟨i + 1, p3, c3, by omega, by go_num, rfl, HW2⟩
            case measure => simp [intOf] <;> omega
          · have c3 : ¬ (i : Int) < 256 := by omega
            have HST : Hid (fixA.take (i + 1) = fixA.take i ++ [7]) := Lib.hid (take_step (by rw [HLA.out]; exact hin) (by rw [show fixA = List.replicate 144 8 ++ List.replicate 112 9 ++ List.replicate 24 7 ++ List.replicate 8 8 from rfl]; exact fixA_at i 7 (by omega)))
            go_wp2_with (at_builtin; refine wpList_push (w0 := wr) slIntE rfl _ _ rfl rfl rfl hW.out.1 (7 : Int) _ rfl (cell_push rfl _ _) rfl (by omega) (by unfold maxLen; omega) hws ?_; intro p3 c3 w3 hown3 hg3)
            have HW2 : Hid (Own w3 w.heap.size INT nE p3 (i + 1) c3 (fixA.take (i + 1)) ∧ Below w.heap.size w w3) := Lib.hid (by
              rw [HST.out]
              exact ⟨hown3, hW.out.2.grown hg3 hws (fun k hk => (hW.out.1.1.lt k hk).1)⟩)
            clear hown3 hg3
            go_roundw
            case rel => exact ⟨i + 1, p3, c3, by omega, by go_num, rfl, HW2⟩
            case measure => simp [intOf] <;> omega
    · have hie : i = 288 := by omega
      have HIE := Lib.hid hie
      have b1 : ¬ (i : Int) < 288 := by omega
      have hcm := hW.out.1.cap_max
      have HA : Hid (Own wr w.heap.size INT nE p i c fixA ∧ Below w.heap.size w wr) := Lib.hid (by
        have h := hW.out
        rw [List.take_of_length_le (by rw [HLA.out]; omega)] at h
        exact h)
      obtain ⟨wa, hwa⟩ : ∃ x, x = wr := ⟨_, rfl⟩
      subst hwa
      have HB0 : Hid (Own wa wa.heap.size INT nE none 0 0 (List.replicate 0 (5 : Int)) ∧ Below wa.heap.size wa wa) := Lib.hid ⟨Own.nil, Below.refl _ _⟩
      clear hW hie hin hi
      go_wp2_with fail
      go_loopw [3, 5] (fun x3 x5 wr => ∃ (i : Nat) (p : Option Addr) (c : Nat), i ≤ 32 ∧ x5 = .int .i64 (i : Int) ∧ x3 = .slice p i c ∧ Hid (Own wr wa.heap.size INT nE p i c (List.replicate i (5 : Int)) ∧ Below wa.heap.size wa wr)) (fun _ x5 _ => 32 - (intOf x5).toNat)
      case atStart => exact ⟨0, none, 0, by omega, rfl, rfl, HB0⟩
      case round =>
        clear HB0
        obtain ⟨j, q, d, hi, rfl, rfl, hW⟩ := hrel
        have hws2 := hW.out.2.size
        by_cases hin : j < 32
        · have b1 : (j : Int) < 32 := by omega
          go_wp2_with (at_builtin; refine wpList_push slIntE rfl _ _ rfl rfl rfl hW.out.1 (5 : Int) _ rfl (cell_push rfl _ _) rfl (by omega) (by unfold maxLen; omega) hws2 ?_; intro p3 c3 w3 hown3 hg3)
          have HW2 : Hid (Own w3 wa.heap.size INT nE p3 (j + 1) c3 (List.replicate (j + 1) (5 : Int)) ∧ Below wa.heap.size wa w3) := Lib.hid (by
            rw [List.replicate_succ']
            exact ⟨hown3, hW.out.2.grown hg3 hws2 (fun k hk => (hW.out.1.1.lt k hk).1)⟩)
          clear hown3 hg3
          go_roundw
          case rel => exact ⟨j + 1, p3, c3, by omega, by go_num, rfl, HW2⟩
          case measure => simp [intOf] <;> omega
        · have hie : j = 32 := by omega
          subst hie
          go_wp2_with fail
          go_ret2
          have hie := HIE.out
          subst hie
          exact ⟨p, c, q, d, rfl, HA.out.1.rd.below hW.out.2, hW.out.1.rd, HA.out.2.trans (hW.out.2.mono HA.out.2.size)⟩
end Go.Proofs.Ytgcdeadfkljeaaa
