/- packsaddleref33.Read. -/
import Derived.Test.YtnmdgmjheopolaaSegF
import Derived.Test.YtnmdgmjheopolaaRef03B
import Derived.Test.YtnmdgmjheopolaaStr
namespace Go.Proofs.Ytnmdgmjheopolaa
open Go.RowKit
set_option linter.unusedVariables false
set_option linter.unusedSimpArgs false

theorem RefOk.lt3 {w : World} {g : Nat} {l : List UInt8} {p : Nat} {er : Int} (h : RefOk w g l p er) : g < w.heap.size := by
  obtain ⟨a, n, c, hb, _⟩ := h.ex; exact hb.lt
theorem RefOk.cell3 {w : World} {g : Nat} {l : List UInt8} {p : Nat} {er : Int} (h : RefOk w g l p er) : w.cell? ⟨g, 2, none⟩ = some (.int .i64 er) := by
  obtain ⟨a, n, c, hb, _⟩ := h.ex; exact hb.cell rfl
theorem head_bad0 {B : List UInt8} (h0 : se3 B = 0) (h : smag B ≠ [80, 75, 83, 76] ∨ sv2 B ≠ 1) : segBE B = 14 := by
  have := (head_bad h).1; rw [this, h0]; rfl
theorem head_many0 {B : List UInt8} (h0 : se3 B = 0) (h : ¬ (smag B ≠ [80, 75, 83, 76] ∨ sv2 B ≠ 1)) (h2 : 255 < sv3 B) : segBE B = 4 := by
  have := (head_many h h2).1; rw [this, h0]; rfl
def sV (t : Option Addr × Nat × Nat) : Value := .slice t.1 t.2.1 t.2.2
theorem Rd.mapV {w : World} {a : Option Addr} {vs : List (Option Addr × Nat × Nat)} (h : Rd w sV a vs) : Rd w (fun v => v) a (vs.map sV) := by
  rcases h with rfl | ⟨b, off, rfl, h⟩
  · exact .inl rfl
  · refine .inr ⟨b, off, rfl, fun j x hj => ?_⟩
    rw [List.getElem?_map] at hj
    obtain ⟨t, ht, rfl⟩ := Option.map_eq_some_iff.1 hj
    exact h j t ht
theorem opens_iff (l : List UInt8) (h : 4 ≤ l.length) : (openEr l = 0 ∧ openL l = bodyL l ∧ sealL (bodyL l) = l) ∨ (openEr l = 7 ∧ ¬ sealL (bodyL l) = l) := by
  have := openOk_iff l h
  by_cases ho : openOk l = true
  · exact .inl ⟨by unfold openEr; rw [if_neg (by omega), if_pos ho], by unfold openL; rw [if_pos ⟨h, ho⟩], this.1 ho⟩
  · exact .inr ⟨by unfold openEr; rw [if_neg (by omega), if_neg ho], fun e => ho (this.2 e)⟩

set_option maxRecDepth 100000 in
set_option maxHeartbeats 16000000 in
theorem rRead33_any (a : Option Addr) (n c : Nat) (l : List UInt8) (most : Int) (w : World) (hl : l.length = n) (hn : n ≤ 1000000) (hnc : n ≤ c) (hc : c ≤ maxLen) (hr : Rd w bE a l) (hm : -9223372036854775808 ≤ most ∧ most ≤ 9223372036854775807) :
  Calls Try.prog 45 #[.slice a n c, .int .i64 most] w (SegRPost w l most) := by
  by_cases h1 : most < 0
  · have HF := Lib.hid (segR_bad (segE_low (l := l) (.inl h1)) (by omega) (Below.refl w.heap.size w))
    clear hr hl
    go_enter Try.func45, Try.ntmps45
    go_wp2
    go_ret2
    exact HF.out
  by_cases h2 : most > 16777216
  · have HF := Lib.hid (segR_bad (segE_low (l := l) (.inr h2)) (by omega) (Below.refl w.heap.size w))
    clear hr hl
    go_enter Try.func45, Try.ntmps45
    go_wp2
    go_ret2
    exact HF.out
  have h12 : ¬ (most < 0 ∨ most > 16777216) := by omega
  by_cases h3 : (n : Int) > most
  · have HF := Lib.hid (segR_bad (segE_long (l := l) h12 (by rw [hl]; exact h3)) (by omega) (Below.refl w.heap.size w))
    clear hr hl h12
    go_enter Try.func45, Try.ntmps45
    go_wp2
    go_ret2
    exact HF.out
  have h3' : ¬ (l.length : Int) > most := by rw [hl]; exact h3
  have HEO := Lib.hid (fun h => segE_open (l := l) h12 h3' h)
  have HEB := Lib.hid (fun h => segE_body (l := l) h12 h3' h)
  have HL := Lib.hid hl
  clear h12 h3'
  unfold maxLen at hc
  by_cases h4 : n < 4
  · have ho : openEr l = 6 := by unfold openEr; rw [if_pos (by omega)]
    have HF := Lib.hid (segR_bad ((HEO.out (by omega)).trans ho) (by omega) (Below.refl w.heap.size w))
    clear hr hl ho
    go_enter Try.func45, Try.ntmps45
    go_wp2
    go_ret2
    exact HF.out
  obtain ⟨b, off, rfl, -, -⟩ := hr.at (k := 0) (by omega)
  obtain ⟨m, rfl⟩ : ∃ m, n = m + 4 := ⟨n - 4, by omega⟩
  have hbl : (bodyL l).length = m := by unfold bodyL; rw [List.length_take]; omega
  have hrb : Rd w bE (some ⟨b, off, none⟩) (bodyL l) := hr.take _
  have HBL := Lib.hid hbl
  have HRB := Lib.hid hrb
  have HR := Lib.hid hr
  have hop := opens_iff l (by omega)
  clear hbl hrb hr hl h4
  obtain ⟨X, hX⟩ : ∃ X, sealL (bodyL l) = X := ⟨_, rfl⟩
  have HX := Lib.hid hX
  rcases hop with ⟨h4, h5, h6⟩ | ⟨h4, h6⟩
  · have hE := HEB.out h4
    rw [h5] at hE
    rw [hX] at h6
    clear hX
    subst h6
    have HBAD : Hid (∀ x w', segBE (bodyL X) = x → x ≠ 0 → Below w.heap.size w w' → SegRPost w X most (.returned (.tuple #[.slice none 0 0, .int .i64 x])) w') := Lib.hid (fun x w' h0 h1 h2 => segR_bad (hE.trans h0) h1 h2)
    have HOK : Hid (∀ (a' : Option Addr) (n' c' : Nat) w', segBE (bodyL X) = 0 → n' ≤ 255 → Parts w' a' n' (segT (bodyL X)).1 → Below w.heap.size w w' → SegRPost w X most (.returned (.tuple #[.slice a' n' c', .int .i64 0])) w') := Lib.hid (fun a' n' c' w' h0 h1 h2 h3 => segR_ok (hE.trans h0) h1 (by rw [h5]; exact h2) h3)
    clear hE HEO HEB h4 h5
    go_enter Try.func45, Try.ntmps45
    go_wp2_with fail
    refine wp_region_grow (by kernel_rfl) (by kernel_rfl) (by rfl) ?_
    apply gw_val
    · intro a' w' hk
      refine ⟨wanted_none rfl, ?_⟩
      simp [Oper.looksAt, Op.operands, Call.operands, KnownAt, List.lookup, consD] at hk
      simp [execOp, Act.eval, hk, go_sem]
      all_goals rfl
    refine gw_call _ #[.slice (some ⟨b, off, none⟩) m c] (BytesG X) (mono_bytes _) (fun a' w' hk => ?_) (fun w' hb => (rSeal_any (some ⟨b, off, none⟩) m c (bodyL X) w' HBL.out (by omega) (HRB.out.drew.later hb)).mono ?_) ?_
    · refine ⟨wanted_none rfl, ?_⟩
      simp [Oper.looksAt, Op.operands, Call.operands, KnownAt, List.lookup, consD] at hk
      simp [execOp, Act.eval, hk, go_sem]
      all_goals rfl
    · rw [HX.out]
      rintro e w'' ⟨p, q, r, rfl, hown, hB⟩
      exact ⟨_, rfl, ⟨p, q, r, rfl, hown.len, hown.rd⟩, hB⟩
    refine gw_str Try.underlying26 Try.underlying5 Try.underlying9 36 (X) rfl (fun a' w' hb hk => ?_) ?_
    · exact ⟨wanted_none rfl, by simpa [KnownAt, List.lookup, consD] using hk 36 (by decide)⟩
    apply gw_val
    · intro a' w' hk
      refine ⟨wanted_none rfl, ?_⟩
      simp [Oper.looksAt, Op.operands, Call.operands, KnownAt, List.lookup, consD] at hk
      simp [execOp, Act.eval, hk, go_sem]
      all_goals rfl
    refine gw_str Try.underlying26 Try.underlying5 Try.underlying9 38 (X) rfl (fun a' w' hb hk => ?_) ?_
    · exact ⟨wanted_none rfl, _, _, _, by simpa [KnownAt, List.lookup, consD] using hk 38 (by decide), HL.out, (HR.out.drew.later hb)⟩
    apply gw_val
    · intro a' w' hk
      refine ⟨wanted_none rfl, ?_⟩
      simp [Oper.looksAt, Op.operands, Call.operands, KnownAt, List.lookup, consD] at hk
      simp [execOp, Act.eval, hk, go_sem]
      all_goals rfl
    intro vs w1 hb1 hall
    simp only [AllS, consD] at hall
    simp only [consD, putAllS, Act.put]
    obtain ⟨h9, -⟩ := hall
    rw [h9]
    simp only [List.setIfInBounds_toArray, List.set_cons_succ, List.set_cons_zero]
    have hB1 : Below w.heap.size w w1 := ((Below.refl w.heap.size w).drew).trans hb1
    have hrb1 := HRB.out.later hB1
    have href := RefOk.new w1 HBL.out (show m ≤ c by omega) ⟨by omega, by omega⟩ hrb1
    have hB2 := hB1.alloc hB1.size (.cells #[.slice (some ⟨b, off, none⟩) m c, .int .i64 0, .int .i64 0] 77)
    have hgw : w.heap.size ≤ w1.heap.size := hB1.size
    have HREF := Lib.hid (And.intro href hB2)
    have hbl2 : (bodyL X).length ≤ 1000000 := by rw [HBL.out]; omega
    clear h9 hb1 hB1 hrb1 href hB2 HR HRB
    generalize hbo : bodyL X = bo at *
    clear hbo
    go_wp2_with fail
    generalize w1.alloc (.cells #[.slice (some ⟨b, off, none⟩) m c, .int .i64 0, .int .i64 0] 77) = w2 at HREF ⊢
    generalize w1.heap.size = g at HREF hgw ⊢
    obtain ⟨hcu2, hB2⟩ := HREF.out
    clear HREF
    refine (rTake_any g bo 0 0 4 w2 hcu2 (by omega) (by omega)).mono ?_
    rintro e w3 ⟨a3, n3, c3, rfl, hlen3, hrd3, hcu3, hg3⟩
    replace hcu3 : RefOk w3 g bo (sp1 bo) (se1 bo) := hcu3
    replace hlen3 : (smag bo).length = n3 := hlen3
    replace hrd3 : Rd w3 bE a3 (smag bo) := hrd3
    have hB3 := below_of_grown3 hB2 hg3 hgw hB2.size
    have hcv := conv_str (P := Try.prog) Try.underlying26 Try.underlying5 Try.underlying9 c3 hlen3 hrd3
    clear hlen3 hrd3 hg3 hcu2 hB2
    have hmgE : smag bo = [80, 75, 83, 76] ∨ ¬ smag bo = [80, 75, 83, 76] := Classical.em _
    go_wp2_with fail
    clear hcv
    refine (rBigGet_any g bo (sp1 bo) (se1 bo) 2 w3 hcu3 (by omega) (by omega)).mono ?_
    unfold RNumPost
    rintro e w4 ⟨rfl, hcu4, hg4⟩
    replace hcu4 : RefOk w4 g bo (sp2 bo) (se2 bo) := hcu4
    have hB4 := below_of_grown3 hB3 hg4 hgw hB3.size
    clear hg4 hcu3 hB3
    have hr2 := sv2_range bo
    rw [show bigR (nextL bo (sp1 bo) (se1 bo) 2 (sizedB 2)) = sv2 bo from rfl]
    go_wp2_with fail
    refine (rBigGet_any g bo (sp2 bo) (se2 bo) 2 w4 hcu4 (by omega) (by omega)).mono ?_
    unfold RNumPost
    rintro e w5 ⟨rfl, hcu5, hg5⟩
    replace hcu5 : RefOk w5 g bo (sp3 bo) (se3 bo) := hcu5
    have hB5 := below_of_grown3 hB4 hg5 hgw hB4.size
    clear hg5 hcu4 hB4
    have hr3 := sv3_range bo
    rw [show bigR (nextL bo (sp2 bo) (se2 bo) 2 (sizedB 2)) = sv3 bo from rfl]
    have hcell := hcu5.cell3
    by_cases he3 : se3 bo = 0
    · by_cases hbad : smag bo ≠ [80, 75, 83, 76] ∨ sv2 bo ≠ 1
      · have HF := Lib.hid (HBAD.out _ w5 (head_bad0 he3 hbad) (by omega) hB5)
        rw [he3] at hcell
        clear hcu5 hB5 he3 HOK HBAD
        by_cases hmg : smag bo = [80, 75, 83, 76]
        · have hv2 : (sv2 bo != 1) = true := bne_iff_ne.2 (by rcases hbad with h | h; exact absurd hmg h; exact h)
          rw [hmg]
          have hs4 : (strOf [80, 75, 83, 76]).toList = [80, 75, 83, 76] := by rw [strOf_toList]
          clear hbad hmg hmgE
          generalize sv2 bo = v2 at *
          generalize sv3 bo = v3 at *
          go_wp2
          go_ret2
          exact HF.out
        · have hsb : ((strOf (smag bo)).toList == [80, 75, 83, 76]) = false := beq_eq_false_iff_ne.2 (by rw [strOf_toList]; exact hmg)
          have hsb2 : ¬ (strOf (smag bo)).toList = [80, 75, 83, 76] := by rw [strOf_toList]; exact hmg
          clear hbad hmg hmgE
          generalize smag bo = mg at *
          generalize sv2 bo = v2 at *
          generalize sv3 bo = v3 at *
          go_wp2
          go_ret2
          exact HF.out
      · have hmg : smag bo = [80, 75, 83, 76] := by
          rcases hmgE with h | h
          · exact h
          · exact absurd (Or.inl h) hbad
        have hv2 : sv2 bo = 1 := by
          by_cases h : sv2 bo = 1
          · exact h
          · exact absurd (Or.inr h) hbad
        have HGD := Lib.hid hbad
        have hs4 : (strOf [80, 75, 83, 76]).toList = [80, 75, 83, 76] := by rw [strOf_toList]
        rw [hmg, hv2]
        clear hbad hmgE hmg hv2 hr2
        by_cases hv3 : 255 < sv3 bo
        · have HF := Lib.hid (HBAD.out _ w5 (head_many0 he3 HGD.out hv3) (by omega) hB5)
          rw [he3] at hcell
          clear hcu5 hB5 he3 HOK HBAD HGD
          generalize sv3 bo = v3 at *
          go_wp2
          go_ret2
          exact HF.out
        · have HG := Lib.hid (head_good HGD.out hv3 he3)
          obtain ⟨N, hN⟩ := Int.eq_ofNat_of_zero_le hr3.1
          have hN2 : segN bo = N := by unfold segN; rw [hN]; rfl
          have hN3 : N ≤ 255 := by omega
          rw [he3] at hcu5 hcell
          have HHE := Lib.hid he3
          have HN2 := Lib.hid hN2
          clear HGD he3 hN2
          rw [hN] at hr3 hv3 ⊢
          clear hN
          have hgl := hcu5.lt3
          go_wp2
          clear hcell
          go_loopw [11, 12] (fun xz xi wr => ∃ (k c' : Nat) (a' : Option Addr), k ≤ N ∧ xi = .int .i64 k ∧ xz = .slice a' k c' ∧ RefOk wr g bo (szIt bo (sp3 bo) 0 k).2.1 (szIt bo (sp3 bo) 0 k).2.2 ∧ Own wr w5.heap.size 3 iV a' k c' (szIt bo (sp3 bo) 0 k).1 ∧ w5.heap.size ≤ wr.heap.size ∧ Below w.heap.size w wr) (fun _ xi _ => N - (intOf xi).toNat)
          case atStart => exact ⟨0, 0, none, by omega, rfl, rfl, hcu5, Own.nil, Nat.le_refl _, hB5⟩
          case round =>
            have hsz5 := hB5.size
            clear hcu5 hB5
            obtain ⟨k, c', a', hk, rfl, rfl, hcu, hown, hszw, hB⟩ := hrel
            by_cases hlt : k < N
            · have hst : szIt bo (sp3 bo) 0 (k + 1) = ((szIt bo (sp3 bo) 0 k).1 ++ [bigR (nextL bo (szIt bo (sp3 bo) 0 k).2.1 (szIt bo (sp3 bo) 0 k).2.2 4 (sizedB 4))], nextAt bo.length (szIt bo (sp3 bo) 0 k).2.1 (szIt bo (sp3 bo) 0 k).2.2 4 (sizedB 4), nextEr bo.length (szIt bo (sp3 bo) 0 k).2.1 (szIt bo (sp3 bo) 0 k).2.2 4 (sizedB 4)) := rfl
              have HST := Lib.hid hst
              clear hst
              generalize szIt bo (sp3 bo) 0 k = st at *
              obtain ⟨acc, p, er⟩ := st
              simp only at hcu hown HST
              have hrv := big4_range bo p er
              have hown0 := hown
              go_wp2_with fail
              refine (rBigGet_any g bo p er 4 wr hcu (by omega) (by omega)).mono ?_
              unfold RNumPost
              rintro e w7 ⟨rfl, hcu7, hg7⟩
              have hown7 := hown.grown3 hg7 hgl
              have hB7 := below_of_grown3 hB hg7 hgw hB.size
              have hsz7 : w5.heap.size ≤ w7.heap.size := Nat.le_trans hszw hg7.size
              clear hcu hown hg7 hB hown0
              generalize bigR (nextL bo p er 4 (sizedB 4)) = v at *
              have hrow := fun j h => (hown7.1.lt j h).1
              have HROW := Lib.hid hrow
              clear hrow
              go_wp2_with (at_builtin; refine wpList_push slIntS rfl _ _ rfl rfl rfl hown7 v ⟨w7.heap.size, 0, none⟩ rfl (cell_push rfl _ _) rfl (by omega) (by unfold maxLen; omega) hsz7 ?_; intro a8 c8 w8 hown8 hg8; have hcu8 := hcu7.grown hg8 (fun j e => by have := HROW.out j e; omega); have hB8 := hB7.grown hg8 hB7.size (fun j e => by have := HROW.out j e; omega); have hsz8 := Nat.le_trans hsz7 hg8.size; clear hown7 hg8 hcu7 hB7)
              go_roundw
              case rel => exact ⟨k + 1, c8, a8, by omega, by go_num, rfl, by rw [HST.out]; exact hcu8, by rw [HST.out]; exact hown8, hsz8, hB8⟩
              case measure => simp [intOf]; omega
            · have hkN : k = N := by omega
              subst hkN
              clear hlt hk
              have hS : szIt bo (sp3 bo) 0 k = segS bo := by unfold segS; rw [HHE.out, HN2.out]
              rw [hS] at hcu hown
              have hrgS : ∀ x ∈ (segS bo).1, 0 ≤ x ∧ x < 4294967296 := by rw [← hS]; exact szIt_range _ _ _ _
              have hlenS : (segS bo).1.length = k := by rw [← hS]; exact szIt_len _ _ _ _
              have hT : segT bo = tkIt bo (segS bo).1 (segS bo).2.1 (segS bo).2.2 k := by unfold segT; rw [HN2.out]
              clear hS
              have HRG := Lib.hid hrgS
              have HLS := Lib.hid hlenS
              have HT := Lib.hid hT
              have hrd := hown.rd
              have hne := hown.blk
              have HRD : Hid (Rd wr iV a' (segS bo).1 ∧ ∀ b off, a' = some ⟨b, off, none⟩ → some b ≠ some g) := Lib.hid ⟨hrd, fun b off e => by
                rcases hne with ⟨h1, _⟩ | ⟨q, h1, h2, _⟩
                · rw [h1] at e; cases e
                · rw [h1] at e; simp at e; simp; omega⟩
              have hszr := hB.size
              clear hszw
              have hglr := hcu.lt3
              clear hrgS hlenS hT hrd hne hown
              generalize segS bo = sS at *
              obtain ⟨ms, p0, e0⟩ := sS
              simp only at hcu HRG HLS HT HRD
              obtain ⟨ws, hws⟩ : ∃ ws, ws = wr := ⟨_, rfl⟩
              subst hws
              go_wp2
              go_loopw [13, 78] (fun xo xi wr => ∃ (j c2 : Nat) (po : Option Addr) (vs : List (Option Addr × Nat × Nat)), j ≤ k ∧ xi = .int .i64 j ∧ xo = .slice po j c2 ∧ RefOk wr g bo (tkIt bo ms p0 e0 j).2.1 (tkIt bo ms p0 e0 j).2.2 ∧ Own wr ws.heap.size 26 sV po j c2 vs ∧ CleanS wr po ∧ PartsV wr (vs.map sV) (tkIt bo ms p0 e0 j).1 ∧ ws.grownBy wr (some g) ∧ Below w.heap.size w wr) (fun _ xi _ => k - (intOf xi).toNat)
              case atStart => exact ⟨0, 0, none, [], by omega, rfl, rfl, hcu, Own.nil, fun g' h => by (cases h), trivial, World.grownBy.refl _ _, hB⟩
              case round =>
                clear hcu hB
                obtain ⟨j, c2, po, vs, hj, rfl, rfl, hcu, hown, hcl, hpv, hgS, hB⟩ := hrel
                by_cases hlt : j < k
                · have hkm : j < ms.length := by rw [HLS.out]; exact hlt
                  have hst : tkIt bo ms p0 e0 (j + 1) = ((tkIt bo ms p0 e0 j).1 ++ [nextL bo (tkIt bo ms p0 e0 j).2.1 (tkIt bo ms p0 e0 j).2.2 (ms.getD j 0) true], nextAt bo.length (tkIt bo ms p0 e0 j).2.1 (tkIt bo ms p0 e0 j).2.2 (ms.getD j 0) true, nextEr bo.length (tkIt bo ms p0 e0 j).2.1 (tkIt bo ms p0 e0 j).2.2 (ms.getD j 0) true) := rfl
                  have hgd : ms.getD j 0 = ms[j] := by simp [List.getD, hkm]
                  rw [hgd] at hst
                  have hmr := HRG.out ms[j] (List.getElem_mem hkm)
                  have hrdk := (HRD.out.1).grown hgS HRD.out.2
                  obtain ⟨bq, oq, rfl, -, cq⟩ := hrdk.at hkm
                  unfold iV at cq
                  have HST := Lib.hid hst
                  clear hst hgd hrdk
                  generalize tkIt bo ms p0 e0 j = st at *
                  obtain ⟨acc, p, er⟩ := st
                  simp only at hcu hpv HST
                  generalize ms[j] = v at *
                  have hszr2 := hB.size
                  have hszw := hgS.size
                  have hownlt := fun q h => hown.1.lt q h
                  have HOL := Lib.hid hownlt
                  clear hownlt
                  go_wp2_with fail
                  refine (rTake_any g bo p er v wr hcu (by omega) (by omega)).mono ?_
                  rintro e w8 ⟨a8, n8, c8, rfl, hlen8, hrd8, hcu8, hg8⟩
                  have hownO := hown.grown3 hg8 (show g < ws.heap.size by omega)
                  have hk8 := keep_of_grown hg8 (by obtain ⟨_, _, _, hbk, _⟩ := hcu.ex; exact blk_nobyte hbk)
                  have hpv8 := PartsV.snoc (v := .slice a8 n8 c8) ⟨a8, n8, c8, rfl, hlen8, hrd8⟩ (hpv.keep hk8)
                  have hgS8 := grownBy_trans hgS hg8
                  have hB8 := below_of_grown3 hB hg8 hgw hB.size
                  have hsz8 : ws.heap.size ≤ w8.heap.size := Nat.le_trans hszw hg8.size
                  have hcl8 : CleanS w8 po := fun q hq => by
                    have hb := HOL.out q (by rw [hq]; simp [Value.ownBlock])
                    exact (hcl q hq).grown hb.2 hg8 (by simp; omega)
                  clear hown hpv hgS hB hcu hg8 hk8 cq hlen8 hrd8 hcl
                  have HP8 := Lib.hid hpv8
                  have HG8 := Lib.hid hgS8
                  clear hpv8 hgS8
                  go_wp2_with (at_builtin; refine wpList_pushC (E := sV) slParts rfl rfl _ _ rfl (fun y u => sl_nobyte _ _ _ u) (fun u => sl_nobyte _ _ _ u) rfl rfl hownO hcl8 (a8, n8, c8) ⟨w8.heap.size, 0, none⟩ rfl (cell_push rfl _ _) rfl (by omega) (by unfold maxLen; omega) hsz8 ?_; intro a9 c9 w9 hown9 hg9 hcl9 hk9; have hcu9 := hcu8.grown hg9 (fun q e => by have := (HOL.out q e).1; omega); have hB9 := hB8.grown hg9 hB8.size (fun q e => by have := (HOL.out q e).1; omega); have hgS9 := grownBy_new3 HG8.out hg9 (fun q e => (HOL.out q e).1); have hpv9 := HP8.out.keep hk9; clear hownO hcl8 hg9 hcu8 hB8 HG8 HP8)
                  go_roundw
                  case rel => exact ⟨j + 1, c9, a9, vs ++ [(a8, n8, c8)], by omega, by go_num, rfl, by rw [HST.out]; exact hcu9, hown9, hcl9, by rw [HST.out, List.map_append]; exact hpv9, hgS9, hB9⟩
                  case measure => simp [intOf]; omega
                · have hkN : j = k := by omega
                  subst hkN
                  clear hlt hj
                  rw [← HT.out] at hcu hpv
                  have hgE := HG.out
                  have hparts : Parts wr po j (segT bo).1 := ⟨vs.map sV, by rw [List.length_map]; exact hown.len, by rw [← hpv.len, List.length_map]; exact hown.len, hown.rd.mapV, hpv⟩
                  have hob := hown.blk
                  have hpne : ∀ b off, po = some ⟨b, off, none⟩ → some b ≠ some g := fun b off e => by
                    rcases hob with ⟨h1, _⟩ | ⟨q, h1, h2, _⟩
                    · rw [h1] at e; cases e
                    · rw [h1] at e; simp at e; simp; omega
                  clear hown hpv hgS hob hcl
                  generalize segT bo = tt at *
                  obtain ⟨outs, p, er⟩ := tt
                  simp only at hcu hparts hgE
                  go_wp2_with fail
                  refine (rEnd_any g bo p er wr hcu).mono ?_
                  unfold REndPost
                  rintro e w9 ⟨rfl, hcu9, hg9⟩
                  have hk9 := keep_of_grown hg9 (by obtain ⟨_, _, _, hbk, _⟩ := hcu.ex; exact blk_nobyte hbk)
                  have hB9 := below_of_grown3 hB hg9 hgw hB.size
                  obtain ⟨vs2, q1, q2, q3, q4⟩ := hparts
                  have hparts9 : Parts w9 po j outs := ⟨vs2, q1, q2, q3.grown hg9 hpne, q4.keep hk9⟩
                  by_cases hend : endEr bo.length p er = 0
                  · have HF := Lib.hid (HOK.out po j c2 w9 (hgE.trans hend) hN3 hparts9 hB9)
                    rw [hend]
                    clear hparts9 hcu9 hg9 hk9 hB9 hcu hgE hend
                    go_wp2
                    go_ret2
                    exact HF.out
                  · have HF := Lib.hid (HBAD.out _ w9 hgE hend hB9)
                    have hend2 : (endEr bo.length p er != 0) = true := bne_iff_ne.2 hend
                    clear hparts9 hcu9 hg9 hk9 hB9 hcu hgE hend
                    generalize endEr bo.length p er = ee at *
                    go_wp2
                    go_ret2
                    exact HF.out
    · have he6 : se3 bo = 6 := by rcases se3_cases bo with h | h; exact absurd h he3; exact h
      have HF := Lib.hid (HBAD.out _ w5 ((head_short he3).trans he6) (by omega) hB5)
      rw [he6] at hcell
      clear hcu5 hB5 he3 HOK HBAD he6 hmgE
      generalize smag bo = mg at *
      generalize sv2 bo = v2 at *
      generalize sv3 bo = v3 at *
      go_wp2
      go_ret2
      exact HF.out
  · have HF : Hid (∀ w', Below w.heap.size w w' → SegRPost w l most (.returned (.tuple #[.slice none 0 0, .int .i64 7])) w') := Lib.hid (fun w' hb => segR_bad ((HEO.out (by omega)).trans h4) (by omega) hb)
    have hsb : ((strOf X).toList == (strOf l).toList) = false := beq_eq_false_iff_ne.2 (by rw [strOf_toList, strOf_toList, ← hX]; exact h6)
    clear HEO HEB h4 h6 hX
    go_enter Try.func45, Try.ntmps45
    go_wp2_with fail
    refine wp_region_grow (by kernel_rfl) (by kernel_rfl) (by rfl) ?_
    apply gw_val
    · intro a' w' hk
      refine ⟨wanted_none rfl, ?_⟩
      simp [Oper.looksAt, Op.operands, Call.operands, KnownAt, List.lookup, consD] at hk
      simp [execOp, Act.eval, hk, go_sem]
      all_goals rfl
    refine gw_call _ #[.slice (some ⟨b, off, none⟩) m c] (BytesG X) (mono_bytes _) (fun a' w' hk => ?_) (fun w' hb => (rSeal_any (some ⟨b, off, none⟩) m c (bodyL l) w' HBL.out (by omega) (HRB.out.drew.later hb)).mono ?_) ?_
    · refine ⟨wanted_none rfl, ?_⟩
      simp [Oper.looksAt, Op.operands, Call.operands, KnownAt, List.lookup, consD] at hk
      simp [execOp, Act.eval, hk, go_sem]
      all_goals rfl
    · rw [HX.out]
      rintro e w'' ⟨p, q, r, rfl, hown, hB⟩
      exact ⟨_, rfl, ⟨p, q, r, rfl, hown.len, hown.rd⟩, hB⟩
    refine gw_str Try.underlying26 Try.underlying5 Try.underlying9 36 (X) rfl (fun a' w' hb hk => ?_) ?_
    · exact ⟨wanted_none rfl, by simpa [KnownAt, List.lookup, consD] using hk 36 (by decide)⟩
    apply gw_val
    · intro a' w' hk
      refine ⟨wanted_none rfl, ?_⟩
      simp [Oper.looksAt, Op.operands, Call.operands, KnownAt, List.lookup, consD] at hk
      simp [execOp, Act.eval, hk, go_sem]
      all_goals rfl
    refine gw_str Try.underlying26 Try.underlying5 Try.underlying9 38 (l) rfl (fun a' w' hb hk => ?_) ?_
    · exact ⟨wanted_none rfl, _, _, _, by simpa [KnownAt, List.lookup, consD] using hk 38 (by decide), HL.out, (HR.out.drew.later hb)⟩
    apply gw_val
    · intro a' w' hk
      refine ⟨wanted_none rfl, ?_⟩
      simp [Oper.looksAt, Op.operands, Call.operands, KnownAt, List.lookup, consD] at hk
      simp [execOp, Act.eval, hk, go_sem, hsb]
      all_goals rfl
    intro vs w1 hb1 hall
    simp only [AllS, consD] at hall
    simp only [consD, putAllS, Act.put]
    obtain ⟨h9, -⟩ := hall
    rw [h9]
    simp only [List.setIfInBounds_toArray, List.set_cons_succ, List.set_cons_zero]
    have hB1 : Below w.heap.size w w1 := ((Below.refl w.heap.size w).drew).trans hb1
    go_wp2
    go_ret2
    exact HF.out _ hB1
end Go.Proofs.Ytnmdgmjheopolaa
