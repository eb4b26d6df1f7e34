/- inflate.state: signs, stored. -/
import Derived.Test.YtgcdeadfkljeaaaInfE
import Derived.Test.YtgcdeadfkljeaaaSegA
namespace Go.Proofs.Ytgcdeadfkljeaaa
open Go.RowKit
set_option linter.unusedVariables false
set_option linter.unusedSimpArgs false

theorem bitsK_p (L : List UInt8) (m : Int) (s : IS) : s.p ≤ (bitsK L m s).2.p := by
  unfold bitsK; split
  · show s.p ≤ rdGetAt L s.p m
    unfold rdGetAt; split <;> omega
  · exact Nat.le_refl _
theorem failS_p (x : Int) (s : IS) : (failS x s).p = s.p := by unfold failS; split <;> rfl
theorem signK_p (L : List UInt8) (l : List Int) (s : IS) : s.p ≤ (signK L l s).2.p := by
  unfold signK; split
  · exact Nat.le_add_right _ _
  · exact Nat.le_refl _
theorem signK_ok {L : List UInt8} {l : List Int} {s : IS} (h : (signK L l s).2.e = 0) : s.e = 0 ∧ s.p < (signK L l s).2.p := by
  unfold signK at h ⊢
  by_cases he : s.e = 0
  · rw [if_pos he] at h ⊢
    have := (decG_ok h).1
    exact ⟨he, by show s.p < s.p + (getS l ((ofL L).drop s.p)).2.2; unfold getS; omega⟩
  · rw [if_neg he] at h; exact absurd h he
theorem copyK_p (L : List UInt8) (most : Int) (lb : List Int) (x : Int) (s : IS) : s.p ≤ (copyK L most lb x s).p := by
  have h1 := bitsK_p L (lenK x).2.1 s
  have h2 := signK_p L lb (bitsK L (lenK x).2.1 s).2
  have h3 := bitsK_p L (disK (signK L lb (bitsK L (lenK x).2.1 s).2).1).2.1 (signK L lb (bitsK L (lenK x).2.1 s).2).2
  unfold copyK
  simp only
  split
  · rw [failS_p]; exact Nat.le_refl _
  · split
    · rw [failS_p]; omega
    · split
      · omega
      · split
        · rw [failS_p]; omega
        · split
          · rw [failS_p]; omega
          · show s.p ≤ (bitsK L (disK (signK L lb (bitsK L (lenK x).2.1 s).2).1).2.1 (signK L lb (bitsK L (lenK x).2.1 s).2).2).2.p
            omega
/-- A block's signs. -/
def signsK (L : List UInt8) (most : Int) (la lb : List Int) : Nat → IS → IS
  | 0, s => s
  | k+1, s => if s.e ≠ 0 then s else
    if (signK L la s).2.e ≠ 0 ∨ (signK L la s).1 = 256 then (signK L la s).2
    else if 256 < (signK L la s).1 then signsK L most la lb k (copyK L most lb (signK L la s).1 (signK L la s).2)
    else if roomK most 1 (signK L la s).2 = false then signsK L most la lb k (failS 3 (signK L la s).2)
    else signsK L most la lb k { (signK L la s).2 with out := (signK L la s).2.out ++ [UInt8.ofNat (signK L la s).1.toNat] }
def cntG (g : Nat) (w : World) : Nat := match w.cell? ⟨g, 1, none⟩ with | some (.int _ v) => v.toNat | _ => 0
theorem RdOk.cnt {w : World} {g : Nat} {l : List UInt8} {p : Nat} (h : RdOk w g l p) : cntG g w = p := by
  obtain ⟨a, n, c, hb, _⟩ := h.ex
  have := hb.cell (i := 1) rfl
  unfold cntG
  rw [this]; simp
set_option maxRecDepth 100000 in
set_option maxHeartbeats 16000000 in
theorem iSigns_any {A B gs gr : Nat} {L : List UInt8} {most : Int} {s : IS} (gc gf : Nat) (la lb : List Int) (w : World) (h : ISt w A B gs gr L most s) (hc : CodeOk w gc la) (hf : CodeOk w gf lb) (hmost : 0 ≤ most ∧ most ≤ 16777216) :
  Calls Try.prog 60 #[.pointer (some ⟨gs, 0, none⟩), .pointer (some ⟨gc, 0, none⟩), .pointer (some ⟨gf, 0, none⟩)] w (Ret0 A B gs gr L most w (signsK L most la lb (8 * L.length + 1) s)) := by
  have H := Lib.hid (And.intro h (And.intro hc hf))
  obtain ⟨tot, htot⟩ : ∃ t, t = signsK L most la lb (8 * L.length + 1) s := ⟨_, rfl⟩
  rw [← htot]
  have HT := Lib.hid htot
  clear htot h hc hf
  go_enter Try.func60, Try.ntmps60
  go_wp2_with fail
  go_loopw [] (fun wr => ∃ (k : Nat) (s' : IS), Hid (ISt wr A B gs gr L most s' ∧ Chg A w wr) ∧ Hid (tot = signsK L most la lb k s') ∧ Hid (8 * L.length - s'.p < k)) (fun wr => (8 * L.length - cntG gr wr))
  case atStart => exact ⟨8 * L.length + 1, s, Lib.hid ⟨H.out.1, Chg.refl _ _⟩, HT, Lib.hid (by omega)⟩
  case round =>
    clear HT
    obtain ⟨k, s', hW, hK, hF⟩ := hrel
    obtain ⟨k', rfl⟩ : ∃ k', k = k' + 1 := ⟨k - 1, by have := hF.out; omega⟩
    obtain ⟨q, n, c, hb, ho⟩ := hW.out.1.ex
    have e3 := hb.cell (i := 3) rfl
    clear hb ho
    by_cases he : s'.e = 0
    · rw [he] at e3
      have HK : Hid (tot = if (signK L la s').2.e ≠ 0 ∨ (signK L la s').1 = 256 then (signK L la s').2
          else if 256 < (signK L la s').1 then signsK L most la lb k' (copyK L most lb (signK L la s').1 (signK L la s').2)
          else if roomK most 1 (signK L la s').2 = false then signsK L most la lb k' (failS 3 (signK L la s').2)
          else signsK L most la lb k' { (signK L la s').2 with out := (signK L la s').2.out ++ [UInt8.ofNat (signK L la s').1.toNat] }) := Lib.hid (by
        rw [hK.out]
        show (if s'.e ≠ 0 then _ else _) = _
        rw [if_neg (by simpa using he)])
      have HSG := Lib.hid (iSign_any gc la wr hW.out.1 (H.out.2.1.keepT hW.out.2.keep))
      have HSR := Lib.hid (signK_sign (L := L) (l := la) (s := s'))
      have HSO := Lib.hid (signK_ok (L := L) (l := la) (s := s'))
      have hll := H.out.2.1.len
      have hcn := hW.out.1.rd.cnt
      unfold StPost at HSG
      generalize signK L la s' = sg at *
      obtain ⟨x, s1⟩ := sg
      simp only at HSG HK HSR HSO
      go_wp2_with fail
      refine HSG.out.mono ?_
      rintro e w2 ⟨rfl, h2, k2⟩
      have H2 : Hid (ISt w2 A B gs gr L most s1 ∧ Chg A w w2) := Lib.hid ⟨h2, hW.out.2.trans k2⟩
      obtain ⟨q, n, c, hb, ho⟩ := h2.ex
      have e3' := hb.cell (i := 3) rfl
      have HBO := Lib.hid (And.intro hb ho)
      clear h2 k2 hW HSG hK e3 hb ho
      by_cases he1 : s1.e = 0
      · have hpp := (HSO.out he1).2
        have hp2 := H2.out.1.rd.len.2
        rw [he1] at e3'
        by_cases hx : x = 256
        · subst hx
          have HT2 : Hid (tot = s1) := Lib.hid (by rw [HK.out, if_pos (.inr rfl)])
          go_wp2_with fail
          refine bodyPost_ret (results_none rfl _ _ _) rfl ?_
          rw [HT2.out]
          exact ⟨rfl, H2.out.1, H2.out.2⟩
        · have hxb : (x == 256) = false := by simpa using hx
          by_cases hgt : 256 < x
          · have HT2 : Hid (tot = signsK L most la lb k' (copyK L most lb x s1)) := Lib.hid (by rw [HK.out, if_neg (by simp [he1, hx]), if_pos hgt])
            clear HK
            go_wp2_with fail
            refine (iCopy_any gf lb x w2 H2.out.1 (H.out.2.2.keepT H2.out.2.keep) (by have := HSR.out; omega) hmost).mono ?_
            rintro e w3 ⟨rfl, h3, k3⟩
            have H3 : Hid (ISt w3 A B gs gr L most (copyK L most lb x s1) ∧ Chg A w w3) := Lib.hid ⟨h3, H2.out.2.trans k3⟩
            have hcp := copyK_p L most lb x s1
            have hp3 := h3.rd.len.2
            have hcn3 := h3.rd.cnt
            clear h3 k3 H2 e3' HBO
            generalize copyK L most lb x s1 = s3 at *
            go_wp2_with fail
            go_roundw
            case rel => exact ⟨k', s3, H3, HT2, Lib.hid (by have := hF.out; omega)⟩
            case measure => rw [hcn3, hcn]; omega
          · have HK2 : Hid (tot = if roomK most 1 s1 = false then signsK L most la lb k' (failS 3 s1) else signsK L most la lb k' { s1 with out := s1.out ++ [UInt8.ofNat x.toNat] }) := Lib.hid (by rw [HK.out, if_neg (by simp [he1, hx]), if_neg hgt])
            go_wp2_with fail
            refine (iRoom_any 1 w2 H2.out.1 (by decide) (by omega)).mono ?_
            rintro e w3 ⟨rfl, kd, hw3⟩
            have hbd : Below w2.heap.size w2 w3 := by rw [hw3]; exact below_drewN _ _ _
            have H3 : Hid (ISt w3 A B gs gr L most s1 ∧ Chg A w w3) := Lib.hid ⟨H2.out.1.below hbd, H2.out.2.trans (Chg.of_below hbd H2.out.1.base)⟩
            have HBO3 := Lib.hid (And.intro (HBO.out.1.below hbd) (HBO.out.2.below hbd))
            have HRM : Hid (roomK most 1 s1 = true → (n : Int) + 1 ≤ most) := Lib.hid (by
              intro h
              unfold roomK at h
              have := HBO.out.2.len
              simp at h
              omega)
            clear hw3 hbd H2 e3' HBO HK
            generalize roomK most 1 s1 = rm at *
            cases rm with
            | false =>
              have HT2 : Hid (tot = signsK L most la lb k' (failS 3 s1)) := Lib.hid (by rw [HK2.out, if_pos rfl])
              clear HK2
              go_wp2_with fail
              refine (iFail_any 3 w3 H3.out.1).mono ?_
              rintro e w4 ⟨rfl, h4, k4⟩
              have H4 : Hid (ISt w4 A B gs gr L most (failS 3 s1) ∧ Chg A w w4) := Lib.hid ⟨h4, H3.out.2.trans k4⟩
              have hcp := failS_p 3 s1
              have hcn4 := h4.rd.cnt
              clear h4 k4 H3 HBO3
              generalize failS 3 s1 = s4 at *
              go_wp2_with fail
              go_roundw
              case rel => exact ⟨k', s4, H4, HT2, Lib.hid (by have := hF.out; omega)⟩
              case measure => rw [hcn4, hcn]; omega
            | true =>
              have HT2 : Hid (tot = signsK L most la lb k' { s1 with out := s1.out ++ [UInt8.ofNat x.toNat] }) := Lib.hid (by rw [HK2.out, if_neg (by decide)])
              have hfit := HRM.out rfl
              have hx0 : 0 ≤ x ∧ x < 256 := by have := HSR.out; omega
              have hwx : IntKind.u8.wrap x = x := by simp [IntKind.wrap, IntKind.signed, IntKind.bits]; omega
              obtain ⟨y, hy⟩ : ∃ y, y = UInt8.ofNat x.toNat := ⟨_, rfl⟩
              have hyx : (y.toNat : Int) = x := by rw [hy, UInt8.toNat_ofNat']; rw [Nat.mod_eq_of_lt (by omega)]; omega
              rw [← hy] at HT2
              have c1 := HBO3.out.1.cell (i := 1) rfl
              clear HK2 HRM hy
              have hby : bE y = .int .u8 x := by show Value.int .u8 (y.toNat : Int) = _; rw [hyx]
              have HBY := Lib.hid hby
              clear hby hyx
              go_wp2_with (at_builtin; refine wpList_push (w0 := w3) slByte rfl _ _ rfl rfl rfl HBO3.out.2 y _ rfl (by rw [HBY.out]; exact cell_push rfl _ _) rfl (by omega) (by unfold maxLen; omega) H3.out.1.le.2.2.2.2.2 ?_; intro p5 c5 w5 hown5 hg5; have HP := Lib.hid (H3.out.1.pushed HBO3.out.1 HBO3.out.2 hown5 hg5); have hbk := HBO3.out.1.grown hg5 (fun e => by have := own_far HBO3.out.2 H3.out.1.le.2.2.1 gs e.symm; omega); have d1 := hbk.cell (i := 1) rfl; have d2 := hbk.frozen 1; clear hown5 hg5 hbk)
              have HW5 : Hid (ISt (w5.setCell ⟨gs, 1, none⟩ (.slice p5 (n + 1) c5)) A B gs gr L most { s1 with out := s1.out ++ [y] } ∧ Chg A w (w5.setCell ⟨gs, 1, none⟩ (.slice p5 (n + 1) c5))) := Lib.hid ⟨HP.out.1, H3.out.2.trans HP.out.2⟩
              have hcn5 := HP.out.1.rd.cnt
              go_roundw
              case rel => exact ⟨k', { s1 with out := s1.out ++ [y] }, HW5, HT2, Lib.hid (by have := hF.out; show 8 * L.length - s1.p < k'; omega)⟩
              case measure => rw [hcn5, hcn]; show 8 * L.length - s1.p < _; omega
      · have heb : (s1.e != 0) = true := by simpa using he1
        have HT2 : Hid (tot = s1) := Lib.hid (by rw [HK.out, if_pos (.inl he1)])
        go_wp2_with fail
        refine bodyPost_ret (results_none rfl _ _ _) rfl ?_
        rw [HT2.out]
        exact ⟨rfl, H2.out.1, H2.out.2⟩
    · have heb : (s'.e == 0) = false := by simpa using he
      have HT2 : Hid (tot = s') := Lib.hid (by
        rw [hK.out]
        show (if s'.e ≠ 0 then _ else _) = _
        rw [if_pos he])
      go_wp2_with fail
      go_end0
      rw [HT2.out]
      exact ⟨rfl, hW.out.1, hW.out.2⟩
end Go.Proofs.Ytgcdeadfkljeaaa
/- inflate.state: stored. -/
namespace Go.Proofs.Ytgcdeadfkljeaaa
open Go.RowKit
set_option linter.unusedVariables false
set_option linter.unusedSimpArgs false

theorem xor16 (n t : Nat) (hn : n < 65536) (ht : t < 65536) : bits .xor .i64 (n : Int) (t : Int) = ((n ^^^ t : Nat) : Int) := by
  show IntKind.i64.wrap ((BitVec.ofInt 64 (n : Int) ^^^ BitVec.ofInt 64 (t : Int)).toNat : Int) = _
  rw [BitVec.toNat_xor, ofInt_u64 n (by omega), ofInt_u64 t (by omega)]
  have h : n ^^^ t < 2 ^ 16 := Nat.xor_lt_two_pow (by omega) (by omega)
  rw [IntKind.wrap_i64]; omega
theorem xor_full (n t : Nat) (hn : n < 65536) (ht : t < 65536) : n ^^^ t = 65535 ↔ n + t = 65535 := by
  have h1 : ∀ m : Nat, m < 65536 → m ^^^ 65535 = 65535 - m := by
    intro m hm
    have h2 : (BitVec.ofNat 16 m ^^^ BitVec.allOnes 16).toNat = (~~~ (BitVec.ofNat 16 m)).toNat := by rw [BitVec.xor_allOnes]
    rw [BitVec.toNat_xor, BitVec.toNat_not, BitVec.toNat_ofNat, BitVec.toNat_allOnes, Nat.mod_eq_of_lt (by omega)] at h2
    exact h2
  constructor
  · intro h
    have h2 : n ^^^ (n ^^^ t) = t := by rw [← Nat.xor_assoc, Nat.xor_self, Nat.zero_xor]
    rw [h, h1 n hn] at h2
    omega
  · intro h
    have h2 : t = 65535 - n := by omega
    rw [h2, ← h1 n hn, ← Nat.xor_assoc, Nat.xor_self, Nat.zero_xor]
/-- A stored block. -/
def storedK (L : List UInt8) (most : Int) (s : IS) : IS :=
  let n := bitsK L 16 { s with p := alignN s.p }
  let t := bitsK L 16 n.2
  if t.2.e ≠ 0 then t.2 else if n.1 + t.1 ≠ 65535 then failS 2 t.2 else if roomK most n.1 t.2 = false then failS 3 t.2
  else { p := rdTakeAt L t.2.p n.1, out := t.2.out ++ rdTakeL L t.2.p n.1, e := rdTakeEr L t.2.p n.1 }
set_option maxRecDepth 100000 in
set_option maxHeartbeats 16000000 in
theorem iStored_any {A B gs gr : Nat} {L : List UInt8} {most : Int} {s : IS} (w : World) (h : ISt w A B gs gr L most s) (hmost : 0 ≤ most ∧ most ≤ 16777216) :
  Calls Try.prog 58 #[.pointer (some ⟨gs, 0, none⟩)] w (Ret0 A B gs gr L most w (storedK L most s)) := by
  have H := Lib.hid h
  obtain ⟨tot, htot⟩ : ∃ t, t = storedK L most s := ⟨_, rfl⟩
  rw [← htot]
  have HT := Lib.hid htot
  unfold storedK at HT
  obtain ⟨q, n, c, c0, c1, c2, c3, f3, -⟩ := h.cells
  have HA := Lib.hid (rdAlign_any gr L s.p w h.rd)
  clear htot h c1 c2 c3 f3
  go_enter Try.func58, Try.ntmps58
  go_wp2_with fail
  refine HA.out.mono ?_
  rintro e w1 ⟨rfl, hr1, hg1⟩
  have H1 := Lib.hid (H.out.moved hr1 hg1)
  clear hr1 hg1 HA c0 H
  generalize ({ s with p := alignN s.p } : IS) = s1 at *
  have HV1 : Hid ((bitsK L 16 s1).1 < 65536) := Lib.hid (bitsK_lt L 16 (by decide) s1)
  have HB1 := Lib.hid (iBits_any 16 w1 H1.out.1 (by decide))
  unfold StPost at HB1
  generalize bitsK L 16 s1 = b1 at *
  obtain ⟨nn, s2⟩ := b1
  simp only at HB1 HV1 HT
  go_wp2_with fail
  refine HB1.out.mono ?_
  rintro e w2 ⟨rfl, h2, k2⟩
  have H2 : Hid (ISt w2 A B gs gr L most s2 ∧ Chg A w w2) := Lib.hid ⟨h2, H1.out.2.trans k2⟩
  clear h2 k2 HB1 H1
  have HV2 : Hid ((bitsK L 16 s2).1 < 65536) := Lib.hid (bitsK_lt L 16 (by decide) s2)
  have HB2 := Lib.hid (iBits_any 16 w2 H2.out.1 (by decide))
  unfold StPost at HB2
  generalize bitsK L 16 s2 = b2 at *
  obtain ⟨tt, s3⟩ := b2
  simp only at HB2 HV2 HT
  go_wp2_with fail
  refine HB2.out.mono ?_
  rintro e w3 ⟨rfl, h3, k3⟩
  have H3 : Hid (ISt w3 A B gs gr L most s3 ∧ Chg A w w3) := Lib.hid ⟨h3, H2.out.2.trans k3⟩
  clear h3 k3 HB2 H2
  have hn16 := HV1.out
  have ht16 := HV2.out
  have gx := xor16 nn tt hn16 ht16
  have hxf := xor_full nn tt hn16 ht16
  obtain ⟨q, n, c, c0, c1, c2, c3, f3, ho⟩ := H3.out.1.cells
  have hl := ho.len
  have hcm := ho.cap_max
  unfold maxLen at hcm
  have HO := Lib.hid ho
  clear ho c1 c2 f3
  by_cases he : s3.e = 0
  · rw [if_neg (by simpa using he)] at HT
    rw [he] at c3
    by_cases hx : nn + tt = 65535
    · have hx2 := hxf.2 hx
      rw [if_neg (by simpa using hx)] at HT
      rw [hx2] at gx
      have HRM : Hid (roomK most (nn : Int) s3 = decide ((nn : Int) ≤ most - (n : Int))) := Lib.hid (by unfold roomK; rw [he, hl]; simp)
      clear hx hx2 hxf
      go_wp2_with fail
      refine (iRoom_any (nn : Int) w3 H3.out.1 (by omega) (by omega)).mono ?_
      rintro e w4 ⟨rfl, kd, hw4⟩
      have hbd : Below w3.heap.size w3 w4 := by rw [hw4]; exact below_drewN _ _ _
      have H4 : Hid (ISt w4 A B gs gr L most s3 ∧ Chg A w w4) := Lib.hid ⟨H3.out.1.below hbd, H3.out.2.trans (Chg.of_below hbd H3.out.1.base)⟩
      clear hw4 hbd H3 c0 c3 HO
      generalize hrm : roomK most (nn : Int) s3 = rm at *
      cases rm with
      | false =>
        have HT2 : Hid (tot = failS 3 s3) := Lib.hid (by rw [HT.out, if_pos rfl])
        clear HT
        go_wp2_with fail
        refine (iFail_any 3 w4 H4.out.1).mono ?_
        rintro e w5 ⟨rfl, h5, k5⟩
        have HF := Lib.hid (And.intro h5 (H4.out.2.trans k5))
        clear h5 k5
        go_wp2_with fail
        go_end0
        rw [HT2.out]
        exact ⟨rfl, HF.out.1, HF.out.2⟩
      | true =>
        have hfit : (nn : Int) + (n : Int) ≤ most := by have := HRM.out.symm; have := of_decide_eq_true this; omega
        have HT2 : Hid (tot = { p := rdTakeAt L s3.p nn, out := s3.out ++ rdTakeL L s3.p nn, e := rdTakeEr L s3.p nn }) := Lib.hid (by rw [HT.out, if_neg (by decide)])
        obtain ⟨q4, n4, d4, c0, -, -, -, -, -⟩ := H4.out.1.cells
        have HTK := Lib.hid (rdTake_any gr L s3.p nn w4 H4.out.1.rd (by omega) (by omega))
        have HTL : Hid ((rdTakeL L s3.p nn).length ≤ 65536) := Lib.hid (by
          unfold rdTakeL; split
          · rw [List.length_take, Int.toNat_natCast]; omega
          · simp)
        unfold RdTakePost at HTK
        generalize rdTakeL L s3.p nn = tl at *
        generalize rdTakeEr L s3.p nn = te at *
        generalize rdTakeAt L s3.p nn = tp at *
        clear HT HRM hrm
        go_wp2_with fail
        refine HTK.out.mono ?_
        rintro e w5 ⟨a5, k5, d5, rfl, hl5, hr5, hrd5, hg5⟩
        have H5 := Lib.hid (H4.out.1.moved hrd5 hg5)
        have HR5 := Lib.hid (And.intro hl5 hr5)
        have hk5 : k5 ≤ 65536 := by rw [← hl5]; exact HTL.out
        clear hl5 hr5 hrd5 hg5 HTK c0
        go_wp2_with fail
        refine (iFail_g te w5 H5.out.1).mono ?_
        rintro e w6 ⟨⟨rfl, h6, k6⟩, hg6⟩
        have hfe : failS te { s3 with p := tp } = { s3 with p := tp, e := te } := by unfold failS; rw [if_pos he]
        rw [hfe] at h6 ⊢
        have H6 : Hid (ISt w6 A B gs gr L most { s3 with p := tp, e := te } ∧ Chg A w w6) := Lib.hid ⟨h6, (H4.out.2.trans H5.out.2).trans k6⟩
        have HR6 := Lib.hid (HR5.out.2.keep (keep_of_grown hg6 H5.out.1.nobyte))
        clear h6 k6 hg6 hfe
        obtain ⟨q6, n6, c6, hb6, ho6⟩ := H6.out.1.ex
        have HBO := Lib.hid (And.intro hb6 ho6)
        have d1 := hb6.cell (i := 1) rfl
        have hn6 : n6 = n := by rw [← hl]; exact ho6.len.symm
        have hln6 := ho6.len
        clear hb6 ho6 hln6
        subst hn6
        go_wp2_with (at_builtin; refine wpList_cat slByte rfl _ _ rfl rfl HBO.out.2 rfl HR5.out.1 HR6.out (byteOne _) (by omega) (by unfold maxLen; omega) H6.out.1.le.2.2.2.2.2 ?_; intro p7 c7 w7 hown7 hg7 _ _; have HP := Lib.hid (H6.out.1.pushed HBO.out.1 HBO.out.2 hown7 hg7); have hbk := HBO.out.1.grown hg7 (fun e => by have := own_far HBO.out.2 H6.out.1.le.2.2.1 gs e.symm; omega); have d1 := hbk.cell (i := 1) rfl; have d2 := hbk.frozen 1; clear hown7 hg7 hbk)
        go_end0
        rw [HT2.out]
        exact ⟨rfl, HP.out.1, H6.out.2.trans HP.out.2⟩
    · have hx2 : ¬ nn ^^^ tt = 65535 := fun h => hx (hxf.1 h)
      rw [if_pos hx] at HT
      have gne : (((nn ^^^ tt : Nat) : Int) != 65535) = true := by simp; omega
      clear hxf hx
      generalize nn ^^^ tt = xx at *
      go_wp2_with fail
      refine (iFail_any 2 w3 H3.out.1).mono ?_
      rintro e w4 ⟨rfl, h4, k4⟩
      have HF := Lib.hid (And.intro h4 (H3.out.2.trans k4))
      clear h4 k4
      go_wp2_with fail
      go_end0
      rw [HT.out]
      exact ⟨rfl, HF.out.1, HF.out.2⟩
  · rw [if_pos he] at HT
    have heb : (s3.e != 0) = true := by simpa using he
    go_wp2_with fail
    go_end0
    rw [HT.out]
    exact ⟨rfl, H3.out.1, H3.out.2⟩
end Go.Proofs.Ytgcdeadfkljeaaa
