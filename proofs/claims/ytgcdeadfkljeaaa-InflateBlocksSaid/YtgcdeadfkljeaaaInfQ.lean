/- The document's State: signs. -/
import Derived.Test.YtgcdeadfkljeaaaInfP
import Derived.Test.YtgcdeadfkljeaaaInfK
import Derived.Test.YtgcdeadfkljeaaaPreD
namespace Go.Proofs.Ytgcdeadfkljeaaa
open Go.RowKit
set_option linter.unusedVariables false
set_option linter.unusedSimpArgs false

theorem failS_out (x : Int) (s : IS) : (failS x s).out = s.out := by unfold failS; split <;> rfl
theorem bitsK_out (L : List UInt8) (m : Int) (s : IS) : (bitsK L m s).2.out = s.out := by unfold bitsK; split <;> rfl
theorem signK_out (L : List UInt8) (l : List Int) (s : IS) : (signK L l s).2.out = s.out := by unfold signK; split <;> rfl
theorem copyK_out {L : List UInt8} {most : Int} {lb : List Int} {x : Int} {s : IS} (h : (s.out.length : Int) ≤ most) : ((copyK L most lb x s).out.length : Int) ≤ most := by
  have h3 : (bitsK L (disK (signK L lb (bitsK L (lenK x).2.1 s).2).1).2.1 (signK L lb (bitsK L (lenK x).2.1 s).2).2).2.out = s.out := by rw [bitsK_out, signK_out, bitsK_out]
  unfold copyK
  simp only
  split
  · rw [failS_out]; exact h
  · split
    · rw [failS_out, signK_out, bitsK_out]; exact h
    · split
      · rw [h3]; exact h
      · split
        · rw [failS_out, h3]; exact h
        · split
          · rw [failS_out, h3]; exact h
          · rename_i hr
            rw [Bool.not_eq_false] at hr
            unfold roomK at hr
            rw [h3] at hr ⊢
            simp only [Bool.and_eq_true, decide_eq_true_eq] at hr
            show ((copyL s.out _ _).length : Int) ≤ most
            rw [copyL_len]
            omega
theorem RrOk.cntj {w : World} {g : Nat} {l : List UInt8} {p : Nat} (h : RrOk w g l p) : cntG g w = p := by
  obtain ⟨a, n, c, hb, _⟩ := h.ex
  have := hb.cell (i := 1) rfl
  unfold cntG
  rw [this]; simp
/-- What the document's signs leaves. -/
noncomputable def signsJ (L : List UInt8) (most : Int) (la lb : List Int) (s : IS) : IS :=
  if kindS la = 0 ∨ kindS lb = 0 ∨ la.getD 256 0 = 0 then failS 12 s else signsK L most la lb (8 * L.length + 1) s
set_option maxRecDepth 100000 in
set_option maxHeartbeats 16000000 in
theorem jSigns_any {A B gs gr : Nat} {L : List UInt8} {most : Int} {s : IS} (aa ba : Option Addr) (an ac bn bc : Nat) (la lb : List Int) (w : World) (h : JSt w A B gs gr L most s)
    (hla : s.e = 0 → la.length = an ∧ 257 ≤ an ∧ an ≤ 60000 ∧ Rd w nE aa la) (hlb : s.e = 0 → lb.length = bn ∧ bn ≤ 60000 ∧ Rd w nE ba lb) (hlen : (s.out.length : Int) ≤ most) (hmost : 0 ≤ most ∧ most ≤ 16777216) :
  Calls Try.prog 32 #[.pointer (some ⟨gs, 0, none⟩), .slice aa an ac, .slice ba bn bc] w (SjPost A B gs gr L most w (.returned (.tuple #[])) (signsJ L most la lb s)) := by
  have mixed : Try.prog.follows .mixedOrders = true := by kernel_rfl
  have H := Lib.hid (And.intro h hlen)
  obtain ⟨tot, htot⟩ : ∃ t, t = signsJ L most la lb s := ⟨_, rfl⟩
  rw [← htot]
  have HT := Lib.hid htot
  unfold signsJ at HT
  clear htot h hlen
  obtain ⟨q0, n0, c0, hb, ho⟩ := H.out.1.ex
  have e3 := hb.cell (i := 3) rfl
  clear hb ho
  go_enter Try.func32, Try.ntmps32
  by_cases he : s.e = 0
  rotate_left
  · have heb : (s.e != 0) = true := by simpa using he
    have HT2 : Hid (tot = s) := Lib.hid (by
      rw [HT.out]; split
      · unfold failS; rw [if_neg he]
      · exact signsK_bad he)
    go_wp2_with fail
    refine bodyPost_ret (results_none rfl _ _ _) rfl ?_
    rw [HT2.out]
    exact ⟨rfl, H.out.1, Chj.refl _ _⟩
  obtain ⟨hla1, hla2, hla3, hla4⟩ := hla he
  obtain ⟨hlb1, hlb2, hlb3⟩ := hlb he
  have HA := Lib.hid hla4
  have HB := Lib.hid hlb3
  have HL := Lib.hid (And.intro hla1 hlb1)
  rw [he] at e3
  clear hla hlb hla4 hlb3 hla1 hlb1 he
  go_wp2_with fail
  refine (rwords_any aa an ac la w HL.out.1 hla3 HA.out).mono ?_
  rintro e w1 ⟨hb1, hor⟩
  have H1 : Hid (JSt w1 A B gs gr L most s ∧ Chj A w w1) := Lib.hid ⟨H.out.1.below hb1, Chj.of_below hb1 H.out.1.base⟩
  have HA1 := Lib.hid (HA.out.below hb1)
  have HB1 := Lib.hid (HB.out.below hb1)
  clear hb1 e3 HA HB
  rcases hor with ⟨hk, rfl⟩ | ⟨hk, p1, rfl, ho1⟩
  · have HKA := Lib.hid hk
    clear hk
    go_wp2_with fail
    refine (rwords_any ba bn bc lb w1 HL.out.2 hlb2 HB1.out).mono ?_
    rintro e w2 ⟨hb2, hor2⟩
    have H2 : Hid (JSt w2 A B gs gr L most s ∧ Chj A w w2) := Lib.hid ⟨H1.out.1.below hb2, H1.out.2.trans (Chj.of_below hb2 H1.out.1.base)⟩
    have HA2 := Lib.hid (HA1.out.below hb2)
    clear hb2 H1 HA1 HB1
    rcases hor2 with ⟨hk2, rfl⟩ | ⟨hk2, p2, rfl, ho2⟩
    · clear hk2
      have HT2 : Hid (tot = failS 12 s) := Lib.hid (by rw [HT.out, if_pos (.inl HKA.out)])
      go_wp2_with fail
      refine (jFail_any 12 w2 H2.out.1).mono ?_
      rintro e w3 ⟨rfl, h3, k3⟩
      have H3 := Lib.hid (And.intro h3 (H2.out.2.trans k3))
      have hse : (failS 12 s).e ≠ 0 := failS_ne (by decide) _
      clear h3 k3 HT
      generalize failS 12 s = s4 at *
      obtain ⟨q4, n4, c4, d0, d1, d2, d3, f3, -⟩ := H3.out.1.cells
      clear d0 d1 d2 f3
      have heb : (s4.e == 0) = false := by simpa using hse
      go_wp2_with fail
      go_loopw [] (fun wr => Hid (wr = w3)) (fun _ => 0)
      case atStart => exact Lib.hid rfl
      case round =>
        have hw := hrel.out.symm
        subst hw
        go_wp2_with fail
        go_end0
        rw [HT2.out]
        exact ⟨rfl, H3.out.1, H3.out.2⟩
    · clear hk2 ho2
      have HT2 : Hid (tot = failS 12 s) := Lib.hid (by rw [HT.out, if_pos (.inl HKA.out)])
      go_wp2_with fail
      refine (jFail_any 12 w2 H2.out.1).mono ?_
      rintro e w3 ⟨rfl, h3, k3⟩
      have H3 := Lib.hid (And.intro h3 (H2.out.2.trans k3))
      have hse : (failS 12 s).e ≠ 0 := failS_ne (by decide) _
      clear h3 k3 HT
      generalize failS 12 s = s4 at *
      obtain ⟨q4, n4, c4, d0, d1, d2, d3, f3, -⟩ := H3.out.1.cells
      clear d0 d1 d2 f3
      have heb : (s4.e == 0) = false := by simpa using hse
      go_wp2_with fail
      go_loopw [] (fun wr => Hid (wr = w3)) (fun _ => 0)
      case atStart => exact Lib.hid rfl
      case round =>
        have hw := hrel.out.symm
        subst hw
        go_wp2_with fail
        go_end0
        rw [HT2.out]
        exact ⟨rfl, H3.out.1, H3.out.2⟩
  · have HKA := Lib.hid hk
    clear hk
    go_wp2_with fail
    refine (rwords_any ba bn bc lb w1 HL.out.2 hlb2 HB1.out).mono ?_
    rintro e w2 ⟨hb2, hor2⟩
    have H2 : Hid (JSt w2 A B gs gr L most s ∧ Chj A w w2) := Lib.hid ⟨H1.out.1.below hb2, H1.out.2.trans (Chj.of_below hb2 H1.out.1.base)⟩
    have HA2 := Lib.hid (HA1.out.below hb2)
    have HO1 := Lib.hid (ho1.below hb2)
    clear hb2 H1 HA1 HB1 ho1
    rcases hor2 with ⟨hk2, rfl⟩ | ⟨hk2, p2, rfl, ho2⟩
    · have HKB := Lib.hid hk2
      clear hk2 HO1
      have HT2 : Hid (tot = failS 12 s) := Lib.hid (by rw [HT.out, if_pos (.inr (.inl HKB.out))])
      go_wp2_with fail
      refine (jFail_any 12 w2 H2.out.1).mono ?_
      rintro e w3 ⟨rfl, h3, k3⟩
      have H3 := Lib.hid (And.intro h3 (H2.out.2.trans k3))
      have hse : (failS 12 s).e ≠ 0 := failS_ne (by decide) _
      clear h3 k3 HT
      generalize failS 12 s = s4 at *
      obtain ⟨q4, n4, c4, d0, d1, d2, d3, f3, -⟩ := H3.out.1.cells
      clear d0 d1 d2 f3
      have heb : (s4.e == 0) = false := by simpa using hse
      go_wp2_with fail
      go_loopw [] (fun wr => Hid (wr = w3)) (fun _ => 0)
      case atStart => exact Lib.hid rfl
      case round =>
        have hw := hrel.out.symm
        subst hw
        go_wp2_with fail
        go_end0
        rw [HT2.out]
        exact ⟨rfl, H3.out.1, H3.out.2⟩
    · have HKB := Lib.hid hk2
      have HO2 := Lib.hid ho2
      clear hk2 ho2
      have h256 : 256 < la.length := by have := HL.out.1; omega
      obtain ⟨b6, off6, rfl, -, hca⟩ := HA2.out.at h256
      have hgd : la.getD 256 0 = la[256] := by rw [List.getD_eq_getElem?_getD, List.getElem?_eq_getElem h256]; rfl
      rw [← hgd] at hca
      have HZ : Hid (la.getD 256 0 = la.getD 256 0) := Lib.hid rfl
      obtain ⟨z, hz⟩ : ∃ z, la.getD 256 0 = z := ⟨_, rfl⟩
      rw [hz] at hca
      have hca1 : w2.cell? ⟨b6, off6 + 256, none⟩ = some (.int .i64 z) := hca
      have gi1 : (256 : Int) < (an : Int) := by omega
      have gi2 : 256 < an := by omega
      have HZZ := Lib.hid hz
      clear hca hgd hz HZ h256
      by_cases hz0 : z = 0
      · subst hz0
        have HT2 : Hid (tot = failS 12 s) := Lib.hid (by rw [HT.out, if_pos (.inr (.inr HZZ.out))])
        go_wp2_with fail
        refine (jFail_any 12 w2 H2.out.1).mono ?_
        rintro e w3 ⟨rfl, h3, k3⟩
        have H3 := Lib.hid (And.intro h3 (H2.out.2.trans k3))
        have hse : (failS 12 s).e ≠ 0 := failS_ne (by decide) _
        clear h3 k3 HT
        generalize failS 12 s = s4 at *
        obtain ⟨q4, n4, c4, d0, d1, d2, d3, f3, -⟩ := H3.out.1.cells
        clear d0 d1 d2 f3
        have heb : (s4.e == 0) = false := by simpa using hse
        go_wp2_with fail
        go_loopw [] (fun wr => Hid (wr = w3)) (fun _ => 0)
        case atStart => exact Lib.hid rfl
        case round =>
          have hw := hrel.out.symm
          subst hw
          go_wp2_with fail
          go_end0
          rw [HT2.out]
          exact ⟨rfl, H3.out.1, H3.out.2⟩
      · have hzb : (z == 0) = false := by simpa using hz0
        have HT2 : Hid (tot = signsK L most la lb (8 * L.length + 1) s) := Lib.hid (by
          rw [HT.out, if_neg (by rw [HZZ.out]; exact fun h => h.elim HKA.out (fun h => h.elim HKB.out hz0))])
        clear HT
        have hbw : w2.heap.size ≤ w2.heap.size := Nat.le_refl _
        go_wp2_with fail
        go_loopw [] (fun wr => ∃ (k : Nat) (s' : IS), Hid (JSt wr A B gs gr L most s' ∧ Chj A w wr ∧ Chj A w2 wr) ∧ Hid (tot = signsK L most la lb k s') ∧ Hid (8 * L.length - s'.p < k) ∧ Hid ((s'.out.length : Int) ≤ most)) (fun wr => (8 * L.length - cntG gr wr))
        case atStart => exact ⟨8 * L.length + 1, s, Lib.hid ⟨H2.out.1, H2.out.2, Chj.refl _ _⟩, HT2, Lib.hid (by omega), Lib.hid H.out.2⟩
        case round =>
          clear HT2 hca1 gi1 gi2 hz0 hzb hbw
          obtain ⟨k, s', hW, hK, hF, hM⟩ := hrel
          obtain ⟨k', rfl⟩ : ∃ k', k = k' + 1 := ⟨k - 1, by have := hF.out; omega⟩
          obtain ⟨q, n, c, hb, ho⟩ := hW.out.1.ex
          have e3 := hb.cell (i := 3) rfl
          clear hb ho
          by_cases he : s'.e = 0
          · rw [he] at e3
            have HK : Hid (tot = if (signK L la s').2.e ≠ 0 ∨ (signK L la s').1 = 256 then (signK L la s').2
                else if 256 < (signK L la s').1 then signsK L most la lb k' (copyK L most lb (signK L la s').1 (signK L la s').2)
                else if roomK most 1 (signK L la s').2 = false then signsK L most la lb k' (failS 3 (signK L la s').2)
                else signsK L most la lb k' { (signK L la s').2 with out := (signK L la s').2.out ++ [UInt8.ofNat (signK L la s').1.toNat] }) := Lib.hid (by
              rw [hK.out]
              show (if s'.e ≠ 0 then _ else _) = _
              rw [if_neg (by simpa using he)])
            have HX1 := Lib.hid (hW.out.2.2.keep.ownR HO1.out (by decide))
            have HX2 := Lib.hid (hW.out.2.2.keep.ownR HO2.out (by decide))
            have HSG := Lib.hid (jSign_any p1 an an la wr hW.out.1 (fun _ => ⟨HL.out.1, hla3, HKA.out, HX1.out.rd⟩))
            have HSR := Lib.hid (signK_sign (L := L) (l := la) (s := s'))
            have HSO := Lib.hid (signK_ok (L := L) (l := la) (s := s'))
            have hMo : ((signK L la s').2.out.length : Int) ≤ most := by rw [signK_out]; exact hM.out
            have hll : la.length ≤ 60000 := by have := HL.out.1; omega
            have hcn := hW.out.1.rd.cntj
            unfold SjPost at HSG
            generalize signK L la s' = sg at *
            obtain ⟨x, s1⟩ := sg
            simp only at HSG HK HSR HSO hMo
            have HM1 := Lib.hid hMo
            clear hMo hM
            go_wp2_with fail
            refine HSG.out.mono ?_
            rintro e w3 ⟨rfl, h2, k2⟩
            have H3 : Hid (JSt w3 A B gs gr L most s1 ∧ Chj A w w3 ∧ Chj A w2 w3) := Lib.hid ⟨h2, hW.out.2.1.trans k2, hW.out.2.2.trans k2⟩
            have HX3 := Lib.hid (k2.keep.ownR HX2.out (by decide))
            obtain ⟨q, n, c, hb, ho⟩ := h2.ex
            have e3' := hb.cell (i := 3) rfl
            have HBO := Lib.hid (And.intro hb ho)
            clear h2 k2 hW HSG hK e3 hb ho HX1 HX2
            by_cases he1 : s1.e = 0
            · have hpp := (HSO.out he1).2
              have hp2 := H3.out.1.rd.len.2
              have HE1 := Lib.hid he1
              rw [he1] at e3'
              clear he1
              by_cases hx : x = 256
              · subst hx
                have HT2 : Hid (tot = s1) := Lib.hid (by rw [HK.out, if_pos (.inr rfl)])
                go_wp2_with fail
                refine bodyPost_ret (results_none rfl _ _ _) rfl ?_
                rw [HT2.out]
                exact ⟨rfl, H3.out.1, H3.out.2.1⟩
              · have hxb : (x == 256) = false := by simpa using hx
                by_cases hgt : 256 < x
                · have HT2 : Hid (tot = signsK L most la lb k' (copyK L most lb x s1)) := Lib.hid (by rw [HK.out, if_neg (by simp [HE1.out, hx]), if_pos hgt])
                  have hlt : ¬ x < 256 := by omega
                  clear HK
                  go_wp2_with fail
                  refine (jCopy_any p2 bn bn lb x w3 H3.out.1 ⟨HL.out.2, hlb2, HKB.out, _, HX3.out⟩ (by have := HSR.out; omega) hmost).mono ?_
                  rintro e w4 ⟨rfl, h3, k3⟩
                  have H4 : Hid (JSt w4 A B gs gr L most (copyK L most lb x s1) ∧ Chj A w w4 ∧ Chj A w2 w4) := Lib.hid ⟨h3, H3.out.2.1.trans k3, H3.out.2.2.trans k3⟩
                  have hcp := copyK_p L most lb x s1
                  have HM4 := Lib.hid (copyK_out (L := L) (lb := lb) (x := x) HM1.out)
                  have hp3 := h3.rd.len.2
                  have hcn3 := h3.rd.cntj
                  clear h3 k3 H3 e3' HBO
                  generalize copyK L most lb x s1 = s3 at *
                  go_wp2_with fail
                  go_roundw
                  case rel => exact ⟨k', s3, H4, HT2, Lib.hid (by have := hF.out; omega), HM4⟩
                  case measure => rw [hcn3, hcn]; omega
                · have HK2 : Hid (tot = if roomK most 1 s1 = false then signsK L most la lb k' (failS 3 s1) else signsK L most la lb k' { s1 with out := s1.out ++ [UInt8.ofNat x.toNat] }) := Lib.hid (by rw [HK.out, if_neg (by simp [HE1.out, hx]), if_neg hgt])
                  have hlt : x < 256 := by omega
                  have HRM : Hid (roomK most 1 s1 = decide (1 ≤ most - (n : Int)) ∧ (n : Int) ≤ most) := Lib.hid (by
                    have := HBO.out.2.len
                    have h2 := HM1.out
                    rw [this] at h2
                    refine ⟨?_, h2⟩
                    unfold roomK; rw [HE1.out, this]; simp)
                  have c1 := HBO.out.1.cell (i := 1) rfl
                  have c2 := HBO.out.1.cell (i := 2) rfl
                  clear HK
                  by_cases hfull : (n : Int) = most
                  · have HT2 : Hid (tot = failS 3 s1) := Lib.hid (by
                      rw [HK2.out, if_pos (by rw [HRM.out.1]; simp; omega)]
                      exact signsK_bad (failS_ne (by decide) _))
                    have hbq : ((n : Int) == most) = true := by simpa using hfull
                    have hbd : decide ((n : Int) = most) = true := decide_eq_true hfull
                    clear HK2 HRM
                    have HD := Lib.hid (fun (k : Nat) => And.intro (H3.out.1.below (below_drewN w3 w3.heap.size k)) (H3.out.2.1.trans (Chj.of_below (below_drewN w3 w3.heap.size k) H3.out.1.base)))
                    clear hfull
                    go_wp2_with fail
                    go_quiet (fail)
                    go_wp2_with fail
                    refine (jFail_any 3 _ (HD.out _).1).mono ?_
                    rintro e w4 ⟨rfl, h4, k4⟩
                    have H4 := Lib.hid (And.intro h4 ((HD.out _).2.trans k4))
                    clear h4 k4
                    go_wp2_with fail
                    refine bodyPost_ret (results_none rfl _ _ _) rfl ?_
                    rw [HT2.out]
                    exact ⟨rfl, H4.out.1, H4.out.2⟩
                  · have hbq : ((n : Int) == most) = false := by simpa using hfull
                    have hbd : decide ((n : Int) = most) = false := decide_eq_false hfull
                    have hfit : (n : Int) + 1 ≤ most := by have := HRM.out.2; omega
                    have HT2 : Hid (tot = signsK L most la lb k' { s1 with out := s1.out ++ [UInt8.ofNat x.toNat] }) := Lib.hid (by rw [HK2.out, if_neg (by rw [HRM.out.1]; simp; omega)])
                    have hx0 : 0 ≤ x ∧ x < 256 := by have := HSR.out; omega
                    have hwx : IntKind.u8.wrap x = x := by simp [IntKind.wrap, IntKind.signed, IntKind.bits]; omega
                    obtain ⟨y, hy⟩ : ∃ y, y = UInt8.ofNat x.toNat := ⟨_, rfl⟩
                    have hyx : (y.toNat : Int) = x := by rw [hy, UInt8.toNat_ofNat']; rw [Nat.mod_eq_of_lt (by omega)]; omega
                    rw [← hy] at HT2
                    clear HK2 HRM hy hfull
                    have hby : bE y = .int .u8 x := by show Value.int .u8 (y.toNat : Int) = _; rw [hyx]
                    have HBY := Lib.hid hby
                    clear hby hyx
                    go_wp2_with fail
                    go_quiet (fail)
                    obtain ⟨w4, hw4⟩ : ∃ v, w3.drewN nq = v := ⟨_, rfl⟩
                    have hbd4 : Below w3.heap.size w3 w4 := by rw [← hw4]; exact below_drewN _ _ _
                    have H4 : Hid (JSt w4 A B gs gr L most s1 ∧ Chj A w w4 ∧ Chj A w2 w4) := Lib.hid ⟨H3.out.1.below hbd4, H3.out.2.1.trans (Chj.of_below hbd4 H3.out.1.base), H3.out.2.2.trans (Chj.of_below hbd4 H3.out.1.base)⟩
                    have HBO4 := Lib.hid (And.intro (HBO.out.1.below hbd4) (HBO.out.2.below hbd4))
                    have HFR := Lib.hid (HBO4.out.1.cell (i := 1) rfl)
                    rw [hw4]
                    clear hw4 hbd4 H3 HBO c1 c2
                    have c1 := HFR.out
                    go_wp2_with (at_builtin; refine wpList_push (w0 := w4) slByte rfl _ _ rfl rfl rfl HBO4.out.2 y _ rfl (by rw [HBY.out]; exact cell_push rfl _ _) rfl (by omega) (by unfold maxLen; omega) H4.out.1.le.2.2.2.2.2 ?_; intro p5 c5 w5 hown5 hg5; have HP := Lib.hid (H4.out.1.pushed HBO4.out.1 HBO4.out.2 hown5 hg5); have hbk := HBO4.out.1.grown hg5 (fun e => by have := own_far HBO4.out.2 H4.out.1.le.2.2.1 gs e.symm; omega); have d1 := hbk.cell (i := 1) rfl; have d2 := hbk.frozen 1; clear hown5 hg5 hbk)
                    have HW5 : Hid (JSt (w5.setCell ⟨gs, 1, none⟩ (.slice p5 (n + 1) c5)) A B gs gr L most { s1 with out := s1.out ++ [y] } ∧ Chj A w (w5.setCell ⟨gs, 1, none⟩ (.slice p5 (n + 1) c5)) ∧ Chj A w2 (w5.setCell ⟨gs, 1, none⟩ (.slice p5 (n + 1) c5))) := Lib.hid ⟨HP.out.1, H4.out.2.1.trans HP.out.2, H4.out.2.2.trans HP.out.2⟩
                    have hcn5 := HP.out.1.rd.cntj
                    have HM5 : Hid (((s1.out ++ [y]).length : Int) ≤ most) := Lib.hid (by have := HBO4.out.2.len; rw [List.length_append, this]; simp; omega)
                    go_roundw
                    case rel => exact ⟨k', { s1 with out := s1.out ++ [y] }, HW5, HT2, Lib.hid (by have := hF.out; show 8 * L.length - s1.p < k'; omega), HM5⟩
                    case measure => rw [hcn5, hcn]; show 8 * L.length - s1.p < _; omega
            · have heb : (s1.e != 0) = true := by simpa using he1
              have HT2 : Hid (tot = s1) := Lib.hid (by rw [HK.out, if_pos (.inl he1)])
              go_wp2_with fail
              refine bodyPost_ret (results_none rfl _ _ _) rfl ?_
              rw [HT2.out]
              exact ⟨rfl, H3.out.1, H3.out.2.1⟩
          · have heb : (s'.e == 0) = false := by simpa using he
            have HT2 : Hid (tot = s') := Lib.hid (by rw [hK.out]; exact signsK_bad he)
            go_wp2_with fail
            go_end0
            rw [HT2.out]
            exact ⟨rfl, hW.out.1, hW.out.2.1⟩
end Go.Proofs.Ytgcdeadfkljeaaa
