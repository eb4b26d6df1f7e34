/- inflate.state: copy. -/
import Derived.Test.YtgcdeadfkljeaaaInfC
namespace Go.Proofs.Ytgcdeadfkljeaaa
open Go.RowKit
set_option linter.unusedVariables false
set_option linter.unusedSimpArgs false

/-- What a copy adds. -/
def copyL (out : List UInt8) (back : Nat) : Nat → List UInt8
  | 0 => out
  | k+1 => copyL out back k ++ [(copyL out back k).getD ((copyL out back k).length - back) 0]
theorem copyL_len (out : List UInt8) (back : Nat) : ∀ k, (copyL out back k).length = out.length + k
  | 0 => rfl
  | k+1 => by rw [copyL, List.length_append, copyL_len out back k]; simp; omega
/-- What a length's sign does. -/
def copyK (L : List UInt8) (most : Int) (lb : List Int) (x : Int) (s : IS) : IS :=
  if (lenK x).2.2 = false then failS 5 s else
  if (disK (signK L lb (bitsK L (lenK x).2.1 s).2).1).2.2 = false then failS 5 (signK L lb (bitsK L (lenK x).2.1 s).2).2 else
  let b := bitsK L (disK (signK L lb (bitsK L (lenK x).2.1 s).2).1).2.1 (signK L lb (bitsK L (lenK x).2.1 s).2).2
  let long := (lenK x).1 + (bitsK L (lenK x).2.1 s).1
  let back := (disK (signK L lb (bitsK L (lenK x).2.1 s).2).1).1 + b.1
  if b.2.e ≠ 0 then b.2 else if back > (b.2.out.length : Int) then failS 13 b.2 else if roomK most long b.2 = false then failS 3 b.2 else { b.2 with out := copyL b.2.out back.toNat long.toNat }
set_option maxRecDepth 100000 in
theorem lenK_rng (x : Int) (h : (lenK x).2.2 = true) : 3 ≤ (lenK x).1 ∧ (lenK x).1 ≤ 258 ∧ 0 ≤ (lenK x).2.1 ∧ (lenK x).2.1 ≤ 5 := by
  by_cases hx : x < 257 ∨ 286 ≤ x
  · unfold lenK at h; rw [if_pos hx] at h; cases h
  · have : ∀ k : Fin 29, 3 ≤ (lenK (257 + (k.val : Int))).1 ∧ (lenK (257 + (k.val : Int))).1 ≤ 258 ∧ 0 ≤ (lenK (257 + (k.val : Int))).2.1 ∧ (lenK (257 + (k.val : Int))).2.1 ≤ 5 := by decide +kernel
    have h1 := this ⟨(x - 257).toNat, by omega⟩
    rw [show (257 + (((x - 257).toNat : Nat) : Int)) = x by omega] at h1
    exact h1
set_option maxRecDepth 100000 in
theorem disK_rng (x : Int) (h : (disK x).2.2 = true) : 1 ≤ (disK x).1 ∧ (disK x).1 ≤ 30000 ∧ 0 ≤ (disK x).2.1 ∧ (disK x).2.1 ≤ 13 := by
  by_cases hx : x < 0 ∨ 30 ≤ x
  · unfold disK at h; rw [if_pos hx] at h; cases h
  · have : ∀ k : Fin 30, 1 ≤ (disK (k.val : Int)).1 ∧ (disK (k.val : Int)).1 ≤ 30000 ∧ 0 ≤ (disK (k.val : Int)).2.1 ∧ (disK (k.val : Int)).2.1 ≤ 13 := by decide +kernel
    have h1 := this ⟨x.toNat, by omega⟩
    rw [show ((x.toNat : Nat) : Int) = x by omega] at h1
    exact h1
def Ret0 (A B gs gr : Nat) (L : List UInt8) (most : Int) (w : World) (s : IS) (e : Ending) (w' : World) : Prop := e = .returned (.tuple #[]) ∧ ISt w' A B gs gr L most s ∧ Chg A w w'
set_option maxRecDepth 100000 in
set_option maxHeartbeats 16000000 in
theorem iCopy_any {A B gs gr : Nat} {L : List UInt8} {most : Int} {s : IS} (gf : Nat) (lb : List Int) (x : Int) (w : World) (h : ISt w A B gs gr L most s) (hc : CodeOk w gf lb) (hx : 0 ≤ x ∧ x ≤ 60000) (hmost : 0 ≤ most ∧ most ≤ 16777216) :
  Calls Try.prog 90 #[.pointer (some ⟨gs, 0, none⟩), .int .i64 x, .pointer (some ⟨gf, 0, none⟩)] w (Ret0 A B gs gr L most w (copyK L most lb x s)) := by
  have mixed : Try.prog.follows .mixedOrders = true := by kernel_rfl
  have H := Lib.hid (And.intro h hc)
  obtain ⟨tot, htot⟩ : ∃ t, t = copyK L most lb x s := ⟨_, rfl⟩
  rw [← htot]
  have HT := Lib.hid htot
  have HLEN := Lib.hid (lenK_rng x)
  have HLC := Lib.hid (length_any x w (by omega))
  unfold copyK at HT
  clear htot h hc
  generalize lenK x = lk at *
  obtain ⟨la, lb', lok⟩ := lk
  simp only at HT HLEN
  unfold SigP at HLC
  go_enter Try.func90, Try.ntmps90
  go_wp2_with fail
  refine HLC.out.mono ?_
  rintro e w1 ⟨rfl, hw1⟩
  replace hw1 := hw1.symm
  subst hw1
  clear HLC
  cases lok with
  | false =>
    have HT2 : Hid (tot = failS 5 s) := Lib.hid (by rw [HT.out, if_pos rfl])
    clear HT
    go_wp2_with fail
    refine (iFail_any 5 w H.out.1).mono ?_
    rintro e w2 ⟨rfl, h2, k2⟩
    have HF := Lib.hid (And.intro h2 k2)
    clear h2 k2
    go_wp2_with fail
    refine bodyPost_ret (results_none rfl _ _ _) rfl ?_
    rw [HT2.out]
    exact ⟨rfl, HF.out.1, HF.out.2⟩
  | true =>
    have hrl := HLEN.out rfl
    simp only [Bool.true_eq_false, if_false] at HT
    have HB1 := Lib.hid (iBits_any lb' w H.out.1 (by omega))
    have HV1 := Lib.hid (bitsK_lt L lb'.toNat (by omega) s)
    rw [Int.toNat_of_nonneg (by omega)] at HV1
    have HV1b : (bitsK L lb' s).1 ≤ 32 := by
      have h1 := HV1.out
      have h2 : 2 ^ lb'.toNat ≤ 2 ^ 5 := Nat.pow_le_pow_right (by decide) (by omega)
      omega
    unfold StPost at HB1
    generalize bitsK L lb' s = b1 at *
    obtain ⟨v1, s1⟩ := b1
    simp only at HB1 HT HV1b
    clear HV1
    go_wp2_with fail
    refine HB1.out.mono ?_
    rintro e w2 ⟨rfl, h2, k2⟩
    have H2 : Hid (ISt w2 A B gs gr L most s1 ∧ Chg A w w2 ∧ CodeOk w2 gf lb) := Lib.hid ⟨h2, k2, H.out.2.keepT k2.keep⟩
    clear h2 k2 HB1
    have gl1 : IntKind.i64.wrap (la + (v1 : Int)) = la + (v1 : Int) := IntWalk.i64_in _ (by omega)
    have HS1 := Lib.hid (iSign_any gf lb w2 H2.out.1 H2.out.2.2)
    have HSR := Lib.hid (signK_sign (L := L) (l := lb) (s := s1))
    unfold StPost at HS1
    generalize signK L lb s1 = g1 at *
    obtain ⟨y1, s2⟩ := g1
    simp only at HS1 HT HSR
    go_wp2_with fail
    refine HS1.out.mono ?_
    rintro e w3 ⟨rfl, h3, k3⟩
    have H3 : Hid (ISt w3 A B gs gr L most s2 ∧ Chg A w w3) := Lib.hid ⟨h3, H2.out.2.1.trans k3⟩
    have hll := H2.out.2.2.len
    have HDI := Lib.hid (disK_rng y1)
    have HDC := Lib.hid (distance_any y1 w3 (by have := HSR.out; omega))
    unfold SigP at HDC
    generalize disK y1 = dk at *
    obtain ⟨da, db, dok⟩ := dk
    simp only at HDI HT
    clear h3 k3 HS1 H2 HSR
    go_wp2_with fail
    refine HDC.out.mono ?_
    rintro e w4 ⟨rfl, hw4⟩
    replace hw4 := hw4.symm
    subst hw4
    clear HDC
    cases dok with
    | false =>
      have HT2 : Hid (tot = failS 5 s2) := Lib.hid (by rw [HT.out, if_pos rfl])
      clear HT
      go_wp2_with fail
      refine (iFail_any 5 w3 H3.out.1).mono ?_
      rintro e w4 ⟨rfl, h4, k4⟩
      have HF := Lib.hid (And.intro h4 (H3.out.2.trans k4))
      clear h4 k4
      go_wp2_with fail
      refine bodyPost_ret (results_none rfl _ _ _) rfl ?_
      rw [HT2.out]
      exact ⟨rfl, HF.out.1, HF.out.2⟩
    | true =>
      have hrd := HDI.out rfl
      simp only [Bool.true_eq_false, if_false] at HT
      have HB2 := Lib.hid (iBits_any db w3 H3.out.1 (by omega))
      have HV2 := Lib.hid (bitsK_lt L db.toNat (by omega) s2)
      rw [Int.toNat_of_nonneg (by omega)] at HV2
      have HV2b : (bitsK L db s2).1 ≤ 8192 := by
        have h1 := HV2.out
        have h2 : 2 ^ db.toNat ≤ 2 ^ 13 := Nat.pow_le_pow_right (by decide) (by omega)
        omega
      unfold StPost at HB2
      generalize bitsK L db s2 = b2 at *
      obtain ⟨v2, s3⟩ := b2
      simp only at HB2 HT HV2b
      clear HV2
      go_wp2_with fail
      refine HB2.out.mono ?_
      rintro e w5 ⟨rfl, h5, k5⟩
      have H5 : Hid (ISt w5 A B gs gr L most s3 ∧ Chg A w w5) := Lib.hid ⟨h5, H3.out.2.trans k5⟩
      clear h5 k5 HB2 H3
      have gl2 : IntKind.i64.wrap (da + (v2 : Int)) = da + (v2 : Int) := IntWalk.i64_in _ (by omega)
      obtain ⟨q5, n5, c5, hb5, ho5⟩ := H5.out.1.ex
      have e1 := hb5.cell (i := 1) rfl
      have e3 := hb5.cell (i := 3) rfl
      have hl5 := ho5.len
      clear hb5 ho5
      obtain ⟨back, hback⟩ : ∃ k : Nat, da + (v2 : Int) = (k : Int) := ⟨(da + (v2 : Int)).toNat, by omega⟩
      obtain ⟨long, hlong⟩ : ∃ k : Nat, la + (v1 : Int) = (k : Int) := ⟨(la + (v1 : Int)).toNat, by omega⟩
      have hbk1 : 1 ≤ back ∧ back ≤ 40000 := by omega
      have hlg1 : 1 ≤ long ∧ long ≤ 300 := by omega
      rw [hback] at gl2 HT
      rw [hlong] at gl1 HT
      simp only [Int.toNat_natCast] at HT
      by_cases he : s3.e = 0
      · rw [if_neg (by simpa using he)] at HT
        rw [he] at e3
        by_cases hgt : (back : Int) > (n5 : Int)
        · have HT2 : Hid (tot = failS 13 s3) := Lib.hid (by rw [HT.out, if_pos (by rw [hl5]; exact hgt)])
          clear HT
          go_wp2_with fail
          refine (iFail_any 13 w5 H5.out.1).mono ?_
          rintro e w6 ⟨rfl, h6, k6⟩
          have HF := Lib.hid (And.intro h6 (H5.out.2.trans k6))
          clear h6 k6
          go_wp2_with fail
          refine bodyPost_ret (results_none rfl _ _ _) rfl ?_
          rw [HT2.out]
          exact ⟨rfl, HF.out.1, HF.out.2⟩
        · have HT1 : Hid (tot = if roomK most (long : Int) s3 = false then failS 3 s3 else { s3 with out := copyL s3.out back long }) := Lib.hid (by rw [HT.out, if_neg (by rw [hl5]; exact hgt)])
          have HRM : Hid (roomK most (long : Int) s3 = decide ((long : Int) ≤ most - (n5 : Int))) := Lib.hid (by unfold roomK; rw [he, hl5]; simp)
          clear HT
          go_wp2_with fail
          refine (iRoom_any (long : Int) w5 H5.out.1 (by omega) (by omega)).mono ?_
          rintro e w6 ⟨rfl, kd, hw6⟩
          have H6 : Hid (ISt w6 A B gs gr L most s3 ∧ Chg A w w6) := Lib.hid (by
            rw [hw6]
            have hb := below_drewN w5 w5.heap.size kd
            exact ⟨H5.out.1.below hb, H5.out.2.trans (Chg.of_below hb H5.out.1.base)⟩)
          clear hw6 H5 e1 e3
          generalize hrm : roomK most (long : Int) s3 = rm at *
          cases rm with
          | false =>
            have HT2 : Hid (tot = failS 3 s3) := Lib.hid (by rw [HT1.out, if_pos rfl])
            clear HT1
            go_wp2_with fail
            refine (iFail_any 3 w6 H6.out.1).mono ?_
            rintro e w7 ⟨rfl, h7, k7⟩
            have HF := Lib.hid (And.intro h7 (H6.out.2.trans k7))
            clear h7 k7
            go_wp2_with fail
            refine bodyPost_ret (results_none rfl _ _ _) rfl ?_
            rw [HT2.out]
            exact ⟨rfl, HF.out.1, HF.out.2⟩
          | true =>
            have HT2 : Hid (tot = { s3 with out := copyL s3.out back long }) := Lib.hid (by rw [HT1.out, if_neg (by decide)])
            have hfit : (long : Int) + (n5 : Int) ≤ most := by have := HRM.out.symm; have := of_decide_eq_true this; omega
            clear HT1 HRM hrm
            go_wp2_with fail
            go_loopw [44] (fun x44 wr => ∃ j : Nat, x44 = .int .i64 (j : Int) ∧ j ≤ long ∧ Hid (ISt wr A B gs gr L most { s3 with out := copyL s3.out back j } ∧ Chg A w wr)) (fun x44 _ => long - (intOf x44).toNat)
            case atStart => exact ⟨0, rfl, Nat.zero_le _, H6⟩
            case round =>
              clear H6
              obtain ⟨j, rfl, hj, hW⟩ := hrel
              by_cases hjn : j < long
              · obtain ⟨q, n, c, hb, ho⟩ := hW.out.1.ex
                have hln := ho.len
                have hol := copyL_len s3.out back j
                replace hln : (copyL s3.out back j).length = n := hln
                have hnj : n = n5 + j := by rw [← hln, hol, hl5]
                have HSUC : Hid (copyL s3.out back (j + 1) = copyL s3.out back j ++ [(copyL s3.out back j).getD (n - back) 0]) := Lib.hid (by rw [copyL, hln])
                have hlt : n - back < (copyL s3.out back j).length := by omega
                obtain ⟨bq, off, rfl, -, hcy⟩ := ho.rd.at hlt
                have hgd : (copyL s3.out back j).getD (n - back) 0 = (copyL s3.out back j)[n - back] := by rw [List.getD_eq_getElem?_getD, List.getElem?_eq_getElem hlt]; rfl
                rw [← hgd] at hcy
                generalize (copyL s3.out back j).getD (n - back) 0 = y at *
                clear hgd hlt
                obtain ⟨wz, hwz⟩ : ∃ x, wr.drew = x := ⟨_, rfl⟩
                have hcm := ho.cap_max
                unfold maxLen at hcm
                have gsub : IntKind.i64.wrap ((n : Int) - (back : Int)) = ((n - back : Nat) : Int) := by rw [IntWalk.i64_in _ (by omega)]; omega
                have gi1 : ¬ ((n - back : Nat) : Int) < 0 := by omega
                have gi2 : ((n - back : Nat) : Int) < (n : Int) := by omega
                have gi3 : n - back < n := by omega
                have gi4 : (((n - back : Nat) : Int)).toNat = n - back := by omega
                have HC0 : Hid (wz.cell? ⟨gs, 1, none⟩ = some (.slice (some ⟨bq, off, none⟩) n c)) := Lib.hid (by rw [← hwz]; exact hb.cell (i := 1) rfl)
                have HBLK : Hid (Blk wz gs STT #[.pointer (some ⟨gr, 0, none⟩), .slice (some ⟨bq, off, none⟩) n c, .int .i64 most, .int .i64 s3.e]) := Lib.hid (by rw [← hwz]; exact hb)
                have HC0A : Hid ((wz.alloc (.cells #[bE y] U8T)).cell? ⟨gs, 1, none⟩ = some (.slice (some ⟨bq, off, none⟩) n c)) := Lib.hid ((HBLK.out.alloc _).cell (i := 1) rfl)
                have HOWN : Hid (Own wz B U8T bE (some ⟨bq, off, none⟩) n c (copyL s3.out back j)) := Lib.hid (by rw [← hwz]; exact ho.drew)
                have HIS : Hid (ISt wz A B gs gr L most { s3 with out := copyL s3.out back j } ∧ Chg A w wz) := Lib.hid (by
                  rw [← hwz]
                  have hbd := below_drewN wr wr.heap.size 1
                  exact ⟨hW.out.1.below hbd, hW.out.2.trans (Chg.of_below hbd hW.out.1.base)⟩)
                have hBz : B ≤ wz.heap.size := HIS.out.1.le.2.2.2.2.2
                have HCY : Hid (wz.cell? ⟨bq, off + (n - back), none⟩ = some (bE y)) := Lib.hid (by rw [← hwz]; exact hcy)
                have HOB : Hid (some gs ≠ (Value.slice (some ⟨bq, off, none⟩) n c).ownBlock) := Lib.hid (fun e => by have := own_far HOWN.out HIS.out.1.le.2.2.1 gs e.symm; omega)
                clear hb ho hcy hW
                generalize copyL s3.out back j = oo at *
                go_wp2
                refine wp_region_growA TS (IAq [(22, 19), (19, 18), (19, 4), (18, 17), (17, 16), (16, 8), (16, 15), (15, 13), (13, 12)] wz (fun p' c' w' => Own w' B U8T bE p' (n + 1) c' (oo ++ [y]) ∧ wz.grownBy w' (Value.slice (some ⟨bq, off, none⟩) n c).ownBlock) (n + 1) (bE y) U8T gs 1 65 18 19 22) (by kernel_rfl) (by kernel_rfl) (by rfl) (by rw [hwz]; exact IAq.start _ _) ?_
                apply ga_val _ (fun L a' w' _ haf h => h.pure (show (18 : Nat) ≠ 0 by decide) (show (19 : Nat) ≠ 0 by decide) (show (22 : Nat) ≠ 0 by decide) (by intro x hx hxk; simp only [List.mem_cons, List.not_mem_nil, or_false] at hx; rcases hx with rfl | rfl | rfl | rfl | rfl | rfl | rfl | rfl | rfl <;> first | (exfalso; revert hxk; decide) | exact haf ⟨_, .data⟩ (by simp) (by decide)) (by decide) _)
                · intro a' w' L hL haf hi hk
                  refine ⟨wanted_none rfl, ?_⟩
                  simp [Oper.looksAt, Op.operands, Call.operands, KnownAt, List.lookup, consD] at hk
                  simp [execOp, Act.eval, hk, go_sem]
                  all_goals rfl
                apply ga_val _ (fun L a' w' _ haf h => h.pure (show (18 : Nat) ≠ 1 by decide) (show (19 : Nat) ≠ 1 by decide) (show (22 : Nat) ≠ 1 by decide) (by intro x hx hxk; simp only [List.mem_cons, List.not_mem_nil, or_false] at hx; rcases hx with rfl | rfl | rfl | rfl | rfl | rfl | rfl | rfl | rfl <;> first | (exfalso; revert hxk; decide) | exact haf ⟨_, .data⟩ (by simp) (by decide)) (by decide) _)
                · intro a' w' L hL haf hi hk
                  refine ⟨wanted_none rfl, ?_⟩
                  simp [Oper.looksAt, Op.operands, Call.operands, KnownAt, List.lookup, consD] at hk
                  simp [execOp, Act.eval, hk, go_sem]
                  all_goals rfl
                apply ga_val _ (fun L a' w' _ haf h => h.pure (show (18 : Nat) ≠ 2 by decide) (show (19 : Nat) ≠ 2 by decide) (show (22 : Nat) ≠ 2 by decide) (by intro x hx hxk; simp only [List.mem_cons, List.not_mem_nil, or_false] at hx; rcases hx with rfl | rfl | rfl | rfl | rfl | rfl | rfl | rfl | rfl <;> first | (exfalso; revert hxk; decide) | exact haf ⟨_, .data⟩ (by simp) (by decide)) (by decide) _)
                · intro a' w' L hL haf hi hk
                  refine ⟨wanted_none rfl, ?_⟩
                  simp [Oper.looksAt, Op.operands, Call.operands, KnownAt, List.lookup, consD] at hk
                  simp [execOp, Act.eval, hk, go_sem]
                  all_goals rfl
                apply ga_val _ (fun L a' w' _ haf h => h.pure (show (18 : Nat) ≠ 3 by decide) (show (19 : Nat) ≠ 3 by decide) (show (22 : Nat) ≠ 3 by decide) (by intro x hx hxk; simp only [List.mem_cons, List.not_mem_nil, or_false] at hx; rcases hx with rfl | rfl | rfl | rfl | rfl | rfl | rfl | rfl | rfl <;> first | (exfalso; revert hxk; decide) | exact haf ⟨_, .data⟩ (by simp) (by decide)) (by decide) _)
                · intro a' w' L hL haf hi hk
                  refine ⟨wanted_none rfl, ?_⟩
                  simp [Oper.looksAt, Op.operands, Call.operands, KnownAt, List.lookup, consD] at hk
                  simp [execOp, Act.eval, hk, go_sem]
                  all_goals rfl
                refine ga_val (.slice (some ⟨bq, off, none⟩) n c) (fun L a' w' _ haf h => h.pure (show (18 : Nat) ≠ 4 by decide) (show (19 : Nat) ≠ 4 by decide) (show (22 : Nat) ≠ 4 by decide) (by intro x hx hxk; simp only [List.mem_cons, List.not_mem_nil, or_false] at hx; rcases hx with rfl | rfl | rfl | rfl | rfl | rfl | rfl | rfl | rfl <;> first | (exfalso; revert hxk; decide) | exact haf ⟨_, .data⟩ (by simp) (by decide)) (by decide) _) ?_ ?_
                · intro a' w' L hL haf hi hk
                  refine ⟨wanted_none rfl, ?_⟩
                  simp [Oper.looksAt, Op.operands, Call.operands, KnownAt, List.lookup, consD] at hk
                  have hcell : w'.cell? ⟨gs, 1, none⟩ = some (.slice (some ⟨bq, off, none⟩) n c) := by
                    rcases (hi.early (hi.ch.not (a := 19) (b := 4) (by decide) hL) : w' = wz ∨ w' = wz.alloc (.cells #[bE y] U8T)) with h | h
                    · rw [h]; exact HC0.out
                    · rw [h]; exact HC0A.out
                  simp [execOp, Act.eval, hk, go_sem, hcell]
                  all_goals rfl
                apply ga_val _ (fun L a' w' _ haf h => h.pure (show (18 : Nat) ≠ 5 by decide) (show (19 : Nat) ≠ 5 by decide) (show (22 : Nat) ≠ 5 by decide) (by intro x hx hxk; simp only [List.mem_cons, List.not_mem_nil, or_false] at hx; rcases hx with rfl | rfl | rfl | rfl | rfl | rfl | rfl | rfl | rfl <;> first | (exfalso; revert hxk; decide) | exact haf ⟨_, .data⟩ (by simp) (by decide)) (by decide) _)
                · intro a' w' L hL haf hi hk
                  refine ⟨wanted_none rfl, ?_⟩
                  simp [Oper.looksAt, Op.operands, Call.operands, KnownAt, List.lookup, consD] at hk
                  simp [execOp, Act.eval, hk, go_sem]
                  all_goals rfl
                apply ga_val _ (fun L a' w' _ haf h => h.pure (show (18 : Nat) ≠ 6 by decide) (show (19 : Nat) ≠ 6 by decide) (show (22 : Nat) ≠ 6 by decide) (by intro x hx hxk; simp only [List.mem_cons, List.not_mem_nil, or_false] at hx; rcases hx with rfl | rfl | rfl | rfl | rfl | rfl | rfl | rfl | rfl <;> first | (exfalso; revert hxk; decide) | exact haf ⟨_, .data⟩ (by simp) (by decide)) (by decide) _)
                · intro a' w' L hL haf hi hk
                  refine ⟨wanted_none rfl, ?_⟩
                  simp [Oper.looksAt, Op.operands, Call.operands, KnownAt, List.lookup, consD] at hk
                  simp [execOp, Act.eval, hk, go_sem]
                  all_goals rfl
                apply ga_val _ (fun L a' w' _ haf h => h.pure (show (18 : Nat) ≠ 7 by decide) (show (19 : Nat) ≠ 7 by decide) (show (22 : Nat) ≠ 7 by decide) (by intro x hx hxk; simp only [List.mem_cons, List.not_mem_nil, or_false] at hx; rcases hx with rfl | rfl | rfl | rfl | rfl | rfl | rfl | rfl | rfl <;> first | (exfalso; revert hxk; decide) | exact haf ⟨_, .data⟩ (by simp) (by decide)) (by decide) _)
                · intro a' w' L hL haf hi hk
                  refine ⟨wanted_none rfl, ?_⟩
                  simp [Oper.looksAt, Op.operands, Call.operands, KnownAt, List.lookup, consD] at hk
                  simp [execOp, Act.eval, hk, go_sem]
                  all_goals rfl
                refine ga_val (.slice (some ⟨bq, off, none⟩) n c) (fun L a' w' _ haf h => h.pure (show (18 : Nat) ≠ 8 by decide) (show (19 : Nat) ≠ 8 by decide) (show (22 : Nat) ≠ 8 by decide) (by intro x hx hxk; simp only [List.mem_cons, List.not_mem_nil, or_false] at hx; rcases hx with rfl | rfl | rfl | rfl | rfl | rfl | rfl | rfl | rfl <;> first | (exfalso; revert hxk; decide) | exact haf ⟨_, .data⟩ (by simp) (by decide)) (by decide) _) ?_ ?_
                · intro a' w' L hL haf hi hk
                  refine ⟨wanted_none rfl, ?_⟩
                  simp [Oper.looksAt, Op.operands, Call.operands, KnownAt, List.lookup, consD] at hk
                  have hcell : w'.cell? ⟨gs, 1, none⟩ = some (.slice (some ⟨bq, off, none⟩) n c) := by
                    rcases (Or.inl (hi.zero (hi.ch.not (a := 18) (b := 17) (by decide) (hi.ch.not (a := 17) (b := 16) (by decide) (hi.ch.not (a := 16) (b := 8) (by decide) hL)))) : w' = wz ∨ w' = wz.alloc (.cells #[bE y] U8T)) with h | h
                    · rw [h]; exact HC0.out
                    · rw [h]; exact HC0A.out
                  simp [execOp, Act.eval, hk, go_sem, hcell]
                  all_goals rfl
                apply ga_val _ (fun L a' w' _ haf h => h.pure (show (18 : Nat) ≠ 9 by decide) (show (19 : Nat) ≠ 9 by decide) (show (22 : Nat) ≠ 9 by decide) (by intro x hx hxk; simp only [List.mem_cons, List.not_mem_nil, or_false] at hx; rcases hx with rfl | rfl | rfl | rfl | rfl | rfl | rfl | rfl | rfl <;> first | (exfalso; revert hxk; decide) | exact haf ⟨_, .data⟩ (by simp) (by decide)) (by decide) _)
                · intro a' w' L hL haf hi hk
                  refine ⟨wanted_none rfl, ?_⟩
                  simp [Oper.looksAt, Op.operands, Call.operands, KnownAt, List.lookup, consD] at hk
                  simp [execOp, Act.eval, hk, go_sem]
                  all_goals rfl
                apply ga_val _ (fun L a' w' _ haf h => h.pure (show (18 : Nat) ≠ 10 by decide) (show (19 : Nat) ≠ 10 by decide) (show (22 : Nat) ≠ 10 by decide) (by intro x hx hxk; simp only [List.mem_cons, List.not_mem_nil, or_false] at hx; rcases hx with rfl | rfl | rfl | rfl | rfl | rfl | rfl | rfl | rfl <;> first | (exfalso; revert hxk; decide) | exact haf ⟨_, .data⟩ (by simp) (by decide)) (by decide) _)
                · intro a' w' L hL haf hi hk
                  refine ⟨wanted_none rfl, ?_⟩
                  simp [Oper.looksAt, Op.operands, Call.operands, KnownAt, List.lookup, consD] at hk
                  simp [execOp, Act.eval, hk, go_sem]
                  all_goals rfl
                apply ga_val _ (fun L a' w' _ haf h => h.pure (show (18 : Nat) ≠ 11 by decide) (show (19 : Nat) ≠ 11 by decide) (show (22 : Nat) ≠ 11 by decide) (by intro x hx hxk; simp only [List.mem_cons, List.not_mem_nil, or_false] at hx; rcases hx with rfl | rfl | rfl | rfl | rfl | rfl | rfl | rfl | rfl <;> first | (exfalso; revert hxk; decide) | exact haf ⟨_, .data⟩ (by simp) (by decide)) (by decide) _)
                · intro a' w' L hL haf hi hk
                  refine ⟨wanted_none rfl, ?_⟩
                  simp [Oper.looksAt, Op.operands, Call.operands, KnownAt, List.lookup, consD] at hk
                  simp [execOp, Act.eval, hk, go_sem]
                  all_goals rfl
                refine ga_val (.slice (some ⟨bq, off, none⟩) n c) (fun L a' w' _ haf h => h.pure (show (18 : Nat) ≠ 12 by decide) (show (19 : Nat) ≠ 12 by decide) (show (22 : Nat) ≠ 12 by decide) (by intro x hx hxk; simp only [List.mem_cons, List.not_mem_nil, or_false] at hx; rcases hx with rfl | rfl | rfl | rfl | rfl | rfl | rfl | rfl | rfl <;> first | (exfalso; revert hxk; decide) | exact haf ⟨_, .data⟩ (by simp) (by decide)) (by decide) _) ?_ ?_
                · intro a' w' L hL haf hi hk
                  refine ⟨wanted_none rfl, ?_⟩
                  simp [Oper.looksAt, Op.operands, Call.operands, KnownAt, List.lookup, consD] at hk
                  have hcell : w'.cell? ⟨gs, 1, none⟩ = some (.slice (some ⟨bq, off, none⟩) n c) := by
                    rcases (Or.inl (hi.zero (hi.ch.not (a := 18) (b := 17) (by decide) (hi.ch.not (a := 17) (b := 16) (by decide) (hi.ch.not (a := 16) (b := 15) (by decide) (hi.ch.not (a := 15) (b := 13) (by decide) (hi.ch.not (a := 13) (b := 12) (by decide) hL)))))) : w' = wz ∨ w' = wz.alloc (.cells #[bE y] U8T)) with h | h
                    · rw [h]; exact HC0.out
                    · rw [h]; exact HC0A.out
                  simp [execOp, Act.eval, hk, go_sem, hcell]
                  all_goals rfl
                apply ga_val _ (fun L a' w' _ haf h => h.pure (show (18 : Nat) ≠ 13 by decide) (show (19 : Nat) ≠ 13 by decide) (show (22 : Nat) ≠ 13 by decide) (by intro x hx hxk; simp only [List.mem_cons, List.not_mem_nil, or_false] at hx; rcases hx with rfl | rfl | rfl | rfl | rfl | rfl | rfl | rfl | rfl <;> first | (exfalso; revert hxk; decide) | exact haf ⟨_, .data⟩ (by simp) (by decide)) (by decide) _)
                · intro a' w' L hL haf hi hk
                  refine ⟨wanted_none rfl, ?_⟩
                  simp [Oper.looksAt, Op.operands, Call.operands, KnownAt, List.lookup, consD] at hk
                  simp [execOp, Act.eval, hk, go_sem]
                  all_goals rfl
                apply ga_val _ (fun L a' w' _ haf h => h.pure (show (18 : Nat) ≠ 14 by decide) (show (19 : Nat) ≠ 14 by decide) (show (22 : Nat) ≠ 14 by decide) (by intro x hx hxk; simp only [List.mem_cons, List.not_mem_nil, or_false] at hx; rcases hx with rfl | rfl | rfl | rfl | rfl | rfl | rfl | rfl | rfl <;> first | (exfalso; revert hxk; decide) | exact haf ⟨_, .data⟩ (by simp) (by decide)) (by decide) _)
                · intro a' w' L hL haf hi hk
                  refine ⟨wanted_none rfl, ?_⟩
                  simp [Oper.looksAt, Op.operands, Call.operands, KnownAt, List.lookup, consD] at hk
                  simp [execOp, Act.eval, hk, go_sem]
                  all_goals rfl
                refine ga_val (.int .i64 ((n - back : Nat) : Int)) (fun L a' w' _ haf h => h.pure (show (18 : Nat) ≠ 15 by decide) (show (19 : Nat) ≠ 15 by decide) (show (22 : Nat) ≠ 15 by decide) (by intro x hx hxk; simp only [List.mem_cons, List.not_mem_nil, or_false] at hx; rcases hx with rfl | rfl | rfl | rfl | rfl | rfl | rfl | rfl | rfl <;> first | (exfalso; revert hxk; decide) | exact haf ⟨_, .data⟩ (by simp) (by decide)) (by decide) _) ?_ ?_
                · intro a' w' L hL haf hi hk
                  refine ⟨wanted_none rfl, ?_⟩
                  simp [Oper.looksAt, Op.operands, Call.operands, KnownAt, List.lookup, consD] at hk
                  simp [execOp, Act.eval, hk, go_sem, gsub]
                  all_goals first | rfl | omega
                refine ga_val (.pointer (some ⟨bq, off + (n - back), none⟩)) (fun L a' w' _ haf h => h.pure (show (18 : Nat) ≠ 16 by decide) (show (19 : Nat) ≠ 16 by decide) (show (22 : Nat) ≠ 16 by decide) (by intro x hx hxk; simp only [List.mem_cons, List.not_mem_nil, or_false] at hx; rcases hx with rfl | rfl | rfl | rfl | rfl | rfl | rfl | rfl | rfl <;> first | (exfalso; revert hxk; decide) | exact haf ⟨_, .data⟩ (by simp) (by decide)) (by decide) _) ?_ ?_
                · intro a' w' L hL haf hi hk
                  refine ⟨wanted_none rfl, ?_⟩
                  simp [Oper.looksAt, Op.operands, Call.operands, KnownAt, List.lookup, consD] at hk
                  simp [execOp, Act.eval, hk, go_sem, gi1, gi2, gi3, gi4]
                  all_goals first | rfl | omega
                refine ga_val (bE y) (fun L a' w' _ haf h => h.pure (show (18 : Nat) ≠ 17 by decide) (show (19 : Nat) ≠ 17 by decide) (show (22 : Nat) ≠ 17 by decide) (by intro x hx hxk; simp only [List.mem_cons, List.not_mem_nil, or_false] at hx; rcases hx with rfl | rfl | rfl | rfl | rfl | rfl | rfl | rfl | rfl <;> first | (exfalso; revert hxk; decide) | exact haf ⟨_, .data⟩ (by simp) (by decide)) (by decide) _) ?_ ?_
                · intro a' w' L hL haf hi hk
                  refine ⟨wanted_none rfl, ?_⟩
                  simp [Oper.looksAt, Op.operands, Call.operands, KnownAt, List.lookup, consD] at hk
                  have hw0 := hi.zero (hi.ch.not (a := 18) (b := 17) (by decide) hL)
                  have hcell := HCY.out
                  rw [← hw0] at hcell
                  simp [execOp, Act.eval, hk, go_sem, hcell]
                  all_goals rfl
                refine ga_op (fun v _ => v = .slice (some ⟨wz.heap.size, 0, none⟩) 1 1) (monoT_eq _) ?_ ?_
                · intro a' w' L hsz hL haf hi hk
                  refine ⟨wanted_none rfl, ?_⟩
                  simp [Oper.looksAt, Op.operands, Call.operands, KnownAt, List.lookup, consD] at hk
                  have hw0 := hi.zero hL
                  subst hw0
                  unfold Oper.wp
                  simp [execOp, Act.eval, hk, go_sem, Oper.upon, Result.andThen]
                  exact ⟨_, rfl, rfl, hi.lay (dst := some 64) (by decide) (by decide) (by decide) hL (by intro x hx hxk; simp only [List.mem_cons, List.not_mem_nil, or_false] at hx; rcases hx with rfl | rfl | rfl | rfl | rfl | rfl | rfl | rfl | rfl <;> first | (exfalso; revert hxk; decide) | exact haf ⟨_, .data⟩ (by simp) (by decide)) (by decide) _⟩
                refine ga_op (fun _ _ => True) monoT_any ?_ ?_
                · intro a' w' L hsz hL haf hi hk
                  refine ⟨wanted_none rfl, ?_⟩
                  have hk4 := hk 50 (by decide)
                  have hk10 := hk 64 (by decide)
                  simp only [KnownAt, List.lookup, consD] at hk4 hk10
                  have h18 : L 18 = true := haf ⟨18, .data⟩ (by simp) (by decide)
                  have hw0 := hi.laid h18 hL
                  refine wp_of_list (ops := #[]) rfl ?_
                  refine wpList_push2 slByte rfl rfl _ _ rfl hw0 hk4 HOWN.out y ⟨wz.heap.size, 0, none⟩ hk10 (by rw [hw0]; exact cell_push rfl _ _) rfl (by omega) (by unfold maxLen; omega) hBz ?_
                  intro p' c' w1 hown1 hg1 hor1
                  exact ⟨rfl, _, rfl, trivial, hi.app (by decide) (by decide) hL (by intro x hx hxk; simp only [List.mem_cons, List.not_mem_nil, or_false] at hx; rcases hx with rfl | rfl | rfl | rfl | rfl | rfl | rfl | rfl | rfl <;> first | (exfalso; revert hxk; decide) | exact haf ⟨_, .data⟩ (by simp) (by decide)) h18 (by rw [hsz]; simp) ⟨hown1, hg1⟩⟩
                apply ga_val _ (fun L a' w' _ haf h => h.pure (show (18 : Nat) ≠ 20 by decide) (show (19 : Nat) ≠ 20 by decide) (show (22 : Nat) ≠ 20 by decide) (by intro x hx hxk; simp only [List.mem_cons, List.not_mem_nil, or_false] at hx; rcases hx with rfl | rfl | rfl | rfl | rfl | rfl | rfl | rfl | rfl <;> first | (exfalso; revert hxk; decide) | exact haf ⟨_, .data⟩ (by simp) (by decide)) (by decide) _)
                · intro a' w' L hL haf hi hk
                  refine ⟨wanted_none rfl, ?_⟩
                  simp [Oper.looksAt, Op.operands, Call.operands, KnownAt, List.lookup, consD] at hk
                  simp [execOp, Act.eval, hk, go_sem]
                  all_goals rfl
                apply ga_val _ (fun L a' w' _ haf h => h.pure (show (18 : Nat) ≠ 21 by decide) (show (19 : Nat) ≠ 21 by decide) (show (22 : Nat) ≠ 21 by decide) (by intro x hx hxk; simp only [List.mem_cons, List.not_mem_nil, or_false] at hx; rcases hx with rfl | rfl | rfl | rfl | rfl | rfl | rfl | rfl | rfl <;> first | (exfalso; revert hxk; decide) | exact haf ⟨_, .data⟩ (by simp) (by decide)) (by decide) _)
                · intro a' w' L hL haf hi hk
                  refine ⟨wanted_none rfl, ?_⟩
                  simp [Oper.looksAt, Op.operands, Call.operands, KnownAt, List.lookup, consD] at hk
                  simp [execOp, Act.eval, hk, go_sem]
                  all_goals rfl
                refine ga_op (fun _ _ => True) monoT_any ?_ ?_
                · intro a' w' L hsz hL haf hi hk
                  refine ⟨wanted_none rfl, ?_⟩
                  simp [Oper.looksAt, Op.operands, Call.operands, KnownAt, List.lookup, consD] at hk
                  have h19 : L 19 = true := haf ⟨19, .data⟩ (by simp) (by decide)
                  have h18 : L 18 = true := hi.ch (19, 18) (by decide) h19
                  obtain ⟨p', c', ⟨ho1, hg1⟩, h65⟩ := hi.apd h19 hL
                  have hbk := HBLK.out.grown hg1 HOB.out
                  have hcell := hbk.cell (i := 1) rfl
                  have hfz := hbk.frozen 1
                  have h65' : a'.tmps[65]?.getD undef = .slice p' (n + 1) c' := by simpa using h65
                  unfold Oper.wp
                  simp [execOp, Act.eval, hk, h65', go_sem, hcell, hfz, Oper.upon, Result.andThen]
                  exact hi.store (by decide) (by intro x hx hxk; simp only [List.mem_cons, List.not_mem_nil, or_false] at hx; rcases hx with rfl | rfl | rfl | rfl | rfl | rfl | rfl | rfl | rfl <;> first | (exfalso; revert hxk; decide) | exact haf ⟨_, .data⟩ (by simp) (by decide)) h18 h19 ⟨ho1, hg1⟩ undef
                intro vs w' L9 hall hi hval
                obtain ⟨p', c', w1, ⟨ho1, hg1⟩, rfl⟩ := hi.fin (hall 22 (by decide))
                have HP := Lib.hid (HIS.out.1.pushed HBLK.out HOWN.out ho1 hg1)
                have HW2 : Hid (ISt (w1.setCell ⟨gs, 1, none⟩ (.slice p' (n + 1) c')) A B gs gr L most { s3 with out := copyL s3.out back (j + 1) } ∧ Chg A w (w1.setCell ⟨gs, 1, none⟩ (.slice p' (n + 1) c'))) := Lib.hid (by
                  rw [HSUC.out]
                  exact ⟨HP.out.1, HIS.out.2.trans HP.out.2⟩)
                generalize w1.setCell ⟨gs, 1, none⟩ (.slice p' (n + 1) c') = w8 at HW2 ⊢
                clear HP ho1 hg1
                simp only [consD, putAllS, Act.put]
                simp only [List.setIfInBounds_toArray, List.set_cons_succ, List.set_cons_zero]
                go_wp2_with fail
                go_roundw
                case rel => exact ⟨j + 1, by go_num, by omega, HW2⟩
                case measure => simp [intOf] <;> omega
              · have hjt : j = long := by omega
                subst hjt
                go_wp2_with fail
                go_end0
                rw [HT2.out]
                exact ⟨rfl, hW.out.1, hW.out.2⟩
      · rw [if_pos he] at HT
        have heb : (s3.e != 0) = true := by simpa using he
        go_wp2_with fail
        go_end0
        rw [HT.out]
        exact ⟨rfl, H5.out.1, H5.out.2⟩
end Go.Proofs.Ytgcdeadfkljeaaa
