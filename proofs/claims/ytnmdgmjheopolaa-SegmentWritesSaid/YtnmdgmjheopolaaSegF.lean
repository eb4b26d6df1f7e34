/- segment.Read. -/
import Derived.Test.YtnmdgmjheopolaaSegE
import Derived.Test.YtnmdgmjheopolaaRef02C
namespace Go.Proofs.Ytnmdgmjheopolaa
open Go.RowKit
set_option linter.unusedVariables false
set_option linter.unusedSimpArgs false

theorem slIntS : SlT Try.prog 35 3 (.int .i64 0) 1 8 := ⟨Try.underlying35, by kernel_rfl, rfl⟩
theorem slParts : SlT Try.prog 65 26 (.slice none 0 0) 1 24 := ⟨Try.underlying65, by kernel_rfl, rfl⟩
def iV (x : Int) : Value := .int .i64 x
def vV (v : Value) : Value := v
theorem CurOk.nobyte3 {w : World} {g : Nat} {l : List UInt8} {p : Nat} {er : Int} (h : CurOk w g l p er) : ∀ off (z : UInt8), w.cell? ⟨g, off, none⟩ ≠ some (bE z) := by
  obtain ⟨a, n, c, hb, _⟩ := h.ex; exact blk_nobyte hb
theorem CurOk.lt3 {w : World} {g : Nat} {l : List UInt8} {p : Nat} {er : Int} (h : CurOk w g l p er) : g < w.heap.size := by
  obtain ⟨a, n, c, hb, _⟩ := h.ex; exact hb.lt
theorem Own.grown3 {α : Type} {w w' : World} {base : Nat} {e : TypeId} {E : α → Value} {a : Option Addr} {n c : Nat} {l : List α} {g : Nat} (h : Own w base e E a n c l) (hg : w.grownBy w' (some g)) (hrow : g < base) : Own w' base e E a n c l := by
  obtain ⟨⟨h0, h2⟩, h3⟩ := h
  refine ⟨⟨h0, ?_⟩, h3⟩
  rcases h2 with h2 | ⟨g', cap, cur, hv, hb, hh, r⟩
  · exact .inl h2
  · exact .inr ⟨g', cap, cur, hv, hb, (hg.block g' (Array.getElem?_eq_some_iff.1 hh).1 (fun e => by simp at e; omega)).trans hh, r⟩
theorem grownBy_new3 {a b c : World} {row row2 : Option Nat} (h : a.grownBy b row) (k : b.grownBy c row2) (hr : ∀ j, row2 = some j → a.heap.size ≤ j) : a.grownBy c row :=
  ⟨k.os.trans h.os, k.tape.trans h.tape, k.output.trans h.output, Nat.le_trans h.size k.size, fun i hi hne => (k.block i (Nat.lt_of_lt_of_le hi h.size) (fun e => by have := hr i e.symm; omega)).trans (h.block i hi hne)⟩
theorem below_of_grown3 {B g : Nat} {w0 w1 w2 : World} (h : Below B w0 w1) (k : w1.grownBy w2 (some g)) (hg : B ≤ g) (hB : B ≤ w1.heap.size) : Below B w0 w2 :=
  ⟨k.os.trans h.os, k.tape.trans h.tape, k.output.trans h.output, Nat.le_trans h.size k.size, fun j hj => (k.block j (by omega) (by simp; omega)).trans (h.block j hj)⟩
theorem segE_low {l : List UInt8} {most : Int} (h : most < 0 ∨ most > 16777216) : segE l most = 1 := by unfold segE; rw [if_pos h]
theorem segE_long {l : List UInt8} {most : Int} (h : ¬ (most < 0 ∨ most > 16777216)) (h2 : (l.length : Int) > most) : segE l most = 3 := by unfold segE; rw [if_neg h, if_pos h2]
theorem segE_open {l : List UInt8} {most : Int} (h : ¬ (most < 0 ∨ most > 16777216)) (h2 : ¬ (l.length : Int) > most) (h3 : openEr l ≠ 0) : segE l most = openEr l := by unfold segE; rw [if_neg h, if_neg h2, if_pos h3]
theorem segE_body {l : List UInt8} {most : Int} (h : ¬ (most < 0 ∨ most > 16777216)) (h2 : ¬ (l.length : Int) > most) (h3 : openEr l = 0) : segE l most = segBE (openL l) := by unfold segE; rw [if_neg h, if_neg h2, if_neg (by omega)]
theorem head_bad {B : List UInt8} (h : smag B ≠ [80, 75, 83, 76] ∨ sv2 B ≠ 1) : segBE B = failE (se3 B) 14 ∧ failE (se3 B) 14 ≠ 0 := by
  have hne : failE (se3 B) 14 ≠ 0 := by unfold failE; split <;> omega
  have hh : segHE B = failE (se3 B) 14 := by
    unfold segHE failE
    by_cases h3 : se3 B = 0
    · rw [if_neg (by omega), if_pos h, if_pos h3]
    · rw [if_pos h3, if_neg h3]
  exact ⟨by unfold segBE; rw [hh, if_pos hne], hne⟩
theorem head_many {B : List UInt8} (h : ¬ (smag B ≠ [80, 75, 83, 76] ∨ sv2 B ≠ 1)) (h2 : 255 < sv3 B) : segBE B = failE (se3 B) 4 ∧ failE (se3 B) 4 ≠ 0 := by
  have hne : failE (se3 B) 4 ≠ 0 := by unfold failE; split <;> omega
  have hh : segHE B = failE (se3 B) 4 := by
    unfold segHE failE
    by_cases h3 : se3 B = 0
    · rw [if_neg (by omega), if_neg h, if_pos h2, if_pos h3]
    · rw [if_pos h3, if_neg h3]
  exact ⟨by unfold segBE; rw [hh, if_pos hne], hne⟩
theorem head_short {B : List UInt8} (h3 : se3 B ≠ 0) : segBE B = se3 B := by
  have hh : segHE B = se3 B := by unfold segHE; rw [if_pos h3]
  unfold segBE; rw [hh, if_pos h3]
theorem head_good {B : List UInt8} (h : ¬ (smag B ≠ [80, 75, 83, 76] ∨ sv2 B ≠ 1)) (h2 : ¬ 255 < sv3 B) (h3 : se3 B = 0) : segBE B = endEr B.length (segT B).2.1 (segT B).2.2 := by
  have hh : segHE B = 0 := by unfold segHE; rw [if_neg (by omega), if_neg h, if_neg h2]
  unfold segBE; rw [hh, if_neg (by omega)]
theorem fail_keep {e x : Int} (h : e ≠ 0) : failE e x = e := by unfold failE; rw [if_neg h]

set_option maxRecDepth 100000 in
set_option maxHeartbeats 16000000 in
theorem bRead33_any (a : Option Addr) (n c : Nat) (l : List UInt8) (most : Int) (w : World) (hl : l.length = n) (hn : n ≤ 1000000) (hnc : n ≤ c) (hc : c ≤ maxLen) (hr : Rd w bE a l) (hm : -9223372036854775808 ≤ most ∧ most ≤ 9223372036854775807) :
  Calls Try.prog 42 #[.slice a n c, .int .i64 most] w (SegRPost w l most) := by
  by_cases h1 : most < 0
  · have HF := Lib.hid (segR_bad (segE_low (l := l) (.inl h1)) (by omega) (Below.refl w.heap.size w))
    clear hr hl
    go_enter Try.func42, Try.ntmps42
    go_wp2
    go_ret2
    exact HF.out
  by_cases h2 : most > 16777216
  · have HF := Lib.hid (segR_bad (segE_low (l := l) (.inr h2)) (by omega) (Below.refl w.heap.size w))
    clear hr hl
    go_enter Try.func42, Try.ntmps42
    go_wp2
    go_ret2
    exact HF.out
  have h12 : ¬ (most < 0 ∨ most > 16777216) := by omega
  by_cases h3 : (n : Int) > most
  · have HF := Lib.hid (segR_bad (segE_long (l := l) h12 (by rw [hl]; exact h3)) (by omega) (Below.refl w.heap.size w))
    clear hr hl h12
    go_enter Try.func42, Try.ntmps42
    go_wp2
    go_ret2
    exact HF.out
  have h3' : ¬ (l.length : Int) > most := by rw [hl]; exact h3
  have HEO := Lib.hid (fun h => segE_open (l := l) h12 h3' h)
  have HEB := Lib.hid (fun h => segE_body (l := l) h12 h3' h)
  have HL := Lib.hid hl
  clear h12 h3'
  unfold maxLen at hc
  go_enter Try.func42, Try.ntmps42
  go_wp2_with fail
  refine (crcOpen_any a n c l w HL.out (by omega) hnc (by unfold maxLen; omega) hr).mono ?_
  rintro e w1 ⟨a1, n1, c1, rfl, hown1, hb1⟩
  by_cases h4 : openEr l = 0
  · have hlen1 : (openL l).length ≤ 1000000 := by
      have : (openL l).length ≤ l.length := by unfold openL bodyL; split; rw [List.length_take]; omega; simp
      rw [HL.out] at this; omega
    have hE := HEB.out h4
    rw [h4]
    clear HEB HEO h4 hr hl
    have HSE := Lib.hid hE
    have HBAD : Hid (∀ x w', segBE (openL l) = x → x ≠ 0 → Below w.heap.size w w' → SegRPost w l most (.returned (.tuple #[.slice none 0 0, .int .i64 x])) w') := Lib.hid (fun x w' h0 h1 h2 => segR_bad (hE.trans h0) h1 h2)
    have HOK : Hid (∀ (a' : Option Addr) (n' c' : Nat) w', segBE (openL l) = 0 → n' ≤ 255 → Parts w' a' n' (segT (openL l)).1 → Below w.heap.size w w' → SegRPost w l most (.returned (.tuple #[.slice a' n' c', .int .i64 0])) w') := Lib.hid (fun a' n' c' w' h0 h1 h2 h3 => segR_ok (hE.trans h0) h1 h2 h3)
    clear hE HSE
    have hl1 := hown1.len
    have hr1 := hown1.rd
    clear hown1
    generalize openL l = bo at *
    go_wp2_with fail
    refine (cNew_any a1 n1 c1 bo w1 hl1 (by omega) hr1).mono ?_
    rintro e w2 ⟨g, rfl, hg, hcu2, hb2⟩
    have hB2 := hb1.trans (hb2.mono hb1.size)
    have hgw : w.heap.size ≤ g := Nat.le_trans hb1.size hg
    clear hb1 hb2 hr1
    go_wp2_with fail
    refine (cTake_any g bo 0 0 4 w2 hcu2 (by omega) (by omega)).mono ?_
    rintro e w3 ⟨a3, n3, c3, rfl, hown3, hcu3, hg3⟩
    replace hcu3 : CurOk w3 g bo (sp1 bo) (se1 bo) := hcu3
    replace hown3 : Own w3 w2.heap.size 5 bE a3 n3 c3 (smag bo) := hown3
    have hB3 := below_of_grown3 hB2 hg3 hgw hB2.size
    have hcv := conv_str (P := Try.prog) Try.underlying26 Try.underlying5 Try.underlying9 c3 hown3.len hown3.rd
    clear hown3 hg3 hcu2 hB2
    by_cases hmg : smag bo = [80, 75, 83, 76]
    · rw [hmg] at hcv
      rw [show strOf [80, 75, 83, 76] = (⟨#[80, 75, 83, 76]⟩ : ByteArray) from rfl] at hcv
      have HMG := Lib.hid hmg
      clear hmg
      go_wp2_with fail
      clear hcv
      refine (cBigGet_any g bo (sp1 bo) (se1 bo) 2 w3 hcu3 (by omega) (by omega)).mono ?_
      unfold NumPost
      rintro e w4 ⟨rfl, hcu4, hg4⟩
      replace hcu4 : CurOk w4 g bo (sp2 bo) (se2 bo) := hcu4
      have hB4 := below_of_grown3 hB3 hg4 hgw hB3.size
      clear hg4 hcu3 hB3
      have hr2 := sv2_range bo
      rw [show bigR (nextL bo (sp1 bo) (se1 bo) 2 (sizedB 2)) = sv2 bo from rfl]
      go_wp2_with fail
      refine (cBigGet_any g bo (sp2 bo) (se2 bo) 2 w4 hcu4 (by omega) (by omega)).mono ?_
      unfold NumPost
      rintro e w5 ⟨rfl, hcu5, hg5⟩
      replace hcu5 : CurOk w5 g bo (sp3 bo) (se3 bo) := hcu5
      have hB5 := below_of_grown3 hB4 hg5 hgw hB4.size
      clear hg5 hcu4 hB4
      have hr3 := sv3_range bo
      rw [show bigR (nextL bo (sp2 bo) (se2 bo) 2 (sizedB 2)) = sv3 bo from rfl]
      by_cases hv2 : sv2 bo = 1
      · have hv2' : (sv2 bo == 1) = true := beq_iff_eq.2 hv2
        have HGD : Hid (¬ (smag bo ≠ [80, 75, 83, 76] ∨ sv2 bo ≠ 1)) := Lib.hid (by rintro (h | h); exact h HMG.out; exact h hv2)
        clear hv2
        by_cases hv3 : 255 < sv3 bo
        · have HH := Lib.hid (head_many HGD.out hv3)
          have hv3'' := hv3
          clear HGD
          generalize sv2 bo = v2 at *
          generalize sv3 bo = v3 at *
          go_wp2_with fail
          refine (cFail_any g bo (sp3 bo) (se3 bo) 4 w5 hcu5).mono ?_
          rintro e w6 ⟨rfl, hcu6, hg6⟩
          have hB6 := below_of_grown3 hB5 hg6 hgw hB5.size
          clear hcu5 hg6 hB5
          have HF := Lib.hid (HBAD.out _ _ HH.out.1 HH.out.2 hB6)
          have hne2 : (failE (se3 bo) 4 != 0) = true := bne_iff_ne.2 HH.out.2
          clear HH hB6 HBAD HOK
          generalize failE (se3 bo) 4 = er6 at *
          go_wp2_with fail
          refine (cErr_any g bo (sp3 bo) er6 _ hcu6).mono ?_
          rintro e w' ⟨rfl, rfl⟩
          go_wp2_with fail
          refine (cErr_any g bo (sp3 bo) er6 _ hcu6).mono ?_
          rintro e w' ⟨rfl, rfl⟩
          go_wp2
          go_ret2
          exact HF.out
        · by_cases he3 : se3 bo = 0
          · have HG := Lib.hid (head_good HGD.out hv3 he3)
            obtain ⟨N, hN⟩ := Int.eq_ofNat_of_zero_le hr3.1
            have hN2 : segN bo = N := by unfold segN; rw [hN]; rfl
            have hN3 : N ≤ 255 := by omega
            rw [he3] at hcu5
            have HHE := Lib.hid he3
            have HN2 := Lib.hid hN2
            clear HGD he3 hN2
            generalize sv2 bo = v2 at *
            rw [hN] at hr3 hv3 ⊢
            have HN := Lib.hid hN
            clear hN
            go_wp2_with fail
            refine (cErr_any g bo (sp3 bo) 0 _ hcu5).mono ?_
            rintro e w' ⟨rfl, rfl⟩
            have hgl := hcu5.lt3
            go_wp2_with (at_make; refine wpList_mk (E := iV) (base := w5.heap.size) slIntS rfl rfl _ _ rfl N rfl rfl rfl rfl (0 : Int) rfl (by omega) (by unfold maxLen; omega) (Nat.le_refl _) ?_; intro ps w6 hown6 hg6)
            have hB6a := below_of_grownBy hg6
            have hcu6 := hcu5.below hB6a
            have hB6 := hB5.trans (hB6a.mono hB5.size)
            have hsz6 := hB6a.size
            clear hg6 hcu5 hB5 hB6a
            go_loopw [71] (fun xi wr => ∃ k : Nat, k ≤ N ∧ xi = .int .i64 k ∧ CurOk wr g bo (szIt bo (sp3 bo) 0 k).2.1 (szIt bo (sp3 bo) 0 k).2.2 ∧ Own wr w5.heap.size 3 iV ps N N ((szIt bo (sp3 bo) 0 k).1 ++ List.replicate (N - k) 0) ∧ Below w.heap.size w wr) (fun xi _ => N - (intOf xi).toNat)
            case atStart => exact ⟨0, by omega, rfl, hcu6, by simpa [szIt] using hown6, hB6⟩
            case round =>
              clear hcu6 hown6 hB6
              obtain ⟨k, hk, rfl, hcu, hown, hB⟩ := hrel
              by_cases hlt : k < N
              · have hst : szIt bo (sp3 bo) 0 (k + 1) = ((szIt bo (sp3 bo) 0 k).1 ++ [bigR (nextL bo (szIt bo (sp3 bo) 0 k).2.1 (szIt bo (sp3 bo) 0 k).2.2 4 (sizedB 4))], nextAt bo.length (szIt bo (sp3 bo) 0 k).2.1 (szIt bo (sp3 bo) 0 k).2.2 4 (sizedB 4), nextEr bo.length (szIt bo (sp3 bo) 0 k).2.1 (szIt bo (sp3 bo) 0 k).2.2 4 (sizedB 4)) := rfl
                have hsl := szIt_len bo (sp3 bo) 0 k
                have HST := Lib.hid hst
                have HSL := Lib.hid hsl
                clear hst hsl
                generalize szIt bo (sp3 bo) 0 k = st at *
                obtain ⟨acc, p, er⟩ := st
                simp only at hcu hown HST HSL
                have hrv := big4_range bo p er
                go_wp2_with fail
                refine (cBigGet_any g bo p er 4 wr hcu (by omega) (by omega)).mono ?_
                unfold NumPost
                rintro e w7 ⟨rfl, hcu7, hg7⟩
                have hown7 := hown.grown3 hg7 hgl
                have hB7 := below_of_grown3 hB hg7 hgw hB.size
                clear hcu hown hg7 hB
                generalize bigR (nextL bo p er 4 (sizedB 4)) = v at *
                obtain ⟨gs, old, rfl, hgs, hgsl, -, hcell, hfz⟩ := hown7.at hlt
                have hset := hown7.set k hlt v
                rw [set_rep acc 0 v k N HSL.out hlt] at hset
                have hgS := grownBy_setCell w7 ⟨gs, k, none⟩ (iV v)
                have hcu8 := hcu7.grown hgS (fun j e => by simp at e; omega)
                have hB8 := below_of_grown3 hB7 hgS (show w.heap.size ≤ gs by omega) hB7.size
                have HS := Lib.hid hset
                have HCU := Lib.hid hcu8
                have HB8 := Lib.hid hB8
                clear hset hcu8 hB8 hgS hown7 hcu7 hB7
                go_wp2
                go_roundw
                case rel => exact ⟨k + 1, by omega, by go_num, by rw [HST.out]; exact HCU.out, by rw [HST.out]; exact HS.out, HB8.out⟩
                case measure => simp [intOf]; omega
              · have hkN : k = N := by omega
                rw [hkN] at hcu hown ⊢
                clear hlt hkN hk
                rw [Nat.sub_self, List.replicate_zero, List.append_nil] at hown
                have hS : szIt bo (sp3 bo) 0 N = segS bo := by unfold segS; rw [HHE.out, HN2.out]
                rw [hS] at hcu hown
                have hrgS : ∀ x ∈ (segS bo).1, 0 ≤ x ∧ x < 4294967296 := by rw [← hS]; exact szIt_range _ _ _ _
                have hlenS : (segS bo).1.length = N := by rw [← hS]; exact szIt_len _ _ _ _
                have hT : segT bo = tkIt bo (segS bo).1 (segS bo).2.1 (segS bo).2.2 N := by unfold segT; rw [HN2.out]
                clear hS
                have HRG := Lib.hid hrgS
                have HLS := Lib.hid hlenS
                have HT := Lib.hid hT
                have hrd := hown.rd
                have hne := hown.blk
                have HRD : Hid (Rd wr iV ps (segS bo).1 ∧ ∀ b off, ps = some ⟨b, off, none⟩ → some b ≠ some g) := Lib.hid ⟨hrd, fun b off e => by
                  rcases hne with ⟨h1, _⟩ | ⟨q, h1, h2, _⟩
                  · rw [h1] at e; cases e
                  · rw [h1] at e; simp at e; simp; omega⟩
                have hszr := hB.size
                have hglr := hcu.lt3
                clear hrgS hlenS hT hrd hne hown
                generalize segS bo = sS at *
                obtain ⟨ms, p0, e0⟩ := sS
                simp only at hcu HRG HLS HT HRD
                obtain ⟨ws, hws⟩ : ∃ ws, ws = wr := ⟨_, rfl⟩
                subst hws
                go_wp2_with (at_make; refine wpList_mk (α := Value) (E := vV) (base := ws.heap.size) slParts rfl rfl _ _ rfl N rfl rfl rfl rfl (.slice none 0 0) rfl (by omega) (by unfold maxLen; omega) (Nat.le_refl _) ?_; intro po w7 hown7 hg7)
                have hB7a := below_of_grownBy hg7
                have hcu7 := hcu.below hB7a
                have hB7 := hB.trans (hB7a.mono hB.size)
                have hgs7 := grownBy_of_below (some g) hB7a
                clear hg7 hcu hB hB7a
                go_loopw [85] (fun xi wr => ∃ (k : Nat) (vs : List Value), k ≤ N ∧ xi = .int .i64 k ∧ CurOk wr g bo (tkIt bo ms p0 e0 k).2.1 (tkIt bo ms p0 e0 k).2.2 ∧ Own wr ws.heap.size 26 vV po N N (vs ++ List.replicate (N - k) (.slice none 0 0)) ∧ PartsV wr vs (tkIt bo ms p0 e0 k).1 ∧ ws.grownBy wr (some g) ∧ Below w.heap.size w wr) (fun xi _ => N - (intOf xi).toNat)
                case atStart => exact ⟨0, [], by omega, rfl, hcu7, by simpa using hown7, trivial, hgs7, hB7⟩
                case round =>
                  clear hcu7 hown7 hB7 hgs7
                  obtain ⟨k, vs, hk, rfl, hcu, hown, hpv, hgS, hB⟩ := hrel
                  by_cases hlt : k < N
                  · have hkm : k < ms.length := by rw [HLS.out]; exact hlt
                    have hst : tkIt bo ms p0 e0 (k + 1) = ((tkIt bo ms p0 e0 k).1 ++ [nextL bo (tkIt bo ms p0 e0 k).2.1 (tkIt bo ms p0 e0 k).2.2 (ms.getD k 0) true], nextAt bo.length (tkIt bo ms p0 e0 k).2.1 (tkIt bo ms p0 e0 k).2.2 (ms.getD k 0) true, nextEr bo.length (tkIt bo ms p0 e0 k).2.1 (tkIt bo ms p0 e0 k).2.2 (ms.getD k 0) true) := rfl
                    have hgd : ms.getD k 0 = ms[k] := by simp [List.getD, hkm]
                    rw [hgd] at hst
                    have hvl : vs.length = k := hpv.len.trans (tkIt_len _ _ _ _ _)
                    have hmr := HRG.out ms[k] (List.getElem_mem hkm)
                    have hrdk := (HRD.out.1).grown hgS HRD.out.2
                    obtain ⟨bq, oq, rfl, -, cq⟩ := hrdk.at hkm
                    unfold iV at cq
                    have HST := Lib.hid hst
                    have HVL := Lib.hid hvl
                    clear hst hvl hgd hrdk
                    generalize tkIt bo ms p0 e0 k = st at *
                    obtain ⟨acc, p, er⟩ := st
                    simp only at hcu hpv HST
                    generalize ms[k] = m at *
                    have hszr2 := hB.size
                    have hszw := hgS.size
                    go_wp2_with fail
                    refine (cTake_any g bo p er m wr hcu (by omega) (by omega)).mono ?_
                    rintro e w8 ⟨a8, n8, c8, rfl, hown8, hcu8, hg8⟩
                    have hownO := hown.grown3 hg8 (show g < ws.heap.size by omega)
                    have hk8 := keep_of_grown hg8 hcu.nobyte3
                    have hpv8 := PartsV.snoc (v := .slice a8 n8 c8) ⟨a8, n8, c8, rfl, hown8.len, hown8.rd⟩ (hpv.keep hk8)
                    have hgS8 := grownBy_trans hgS hg8
                    have hB8 := below_of_grown3 hB hg8 hgw hB.size
                    clear hown hpv hgS hB hcu hg8 hk8 cq hown8
                    obtain ⟨go, old, rfl, hgo, hgol, hold, hcell, hfz⟩ := hownO.at hlt
                    have holde : old = .slice none 0 0 := by
                      rw [List.getElem?_append_right (by rw [HVL.out]; omega), HVL.out, Nat.sub_self] at hold
                      obtain ⟨mm, hmm⟩ : ∃ mm, N - k = mm + 1 := ⟨N - k - 1, by omega⟩
                      rw [hmm, List.replicate_succ] at hold
                      simpa using hold.symm
                    subst holde
                    have hset := hownO.set k hlt (.slice a8 n8 c8)
                    rw [set_rep vs _ _ k N HVL.out hlt] at hset
                    have hgC := grownBy_setCell w8 ⟨go, k, none⟩ (Value.slice a8 n8 c8)
                    have hcu9 := hcu8.grown hgC (fun j e => by simp at e; omega)
                    have hpv9 := hpv8.keep (keep_setCell (v := Value.slice a8 n8 c8) rfl hcell (fun z => sl_nobyte _ _ _ z))
                    have hgS9 := grownBy_new3 hgS8 hgC (fun j e => by simp at e; omega)
                    have hB9 := below_of_grown3 hB8 hgC (show w.heap.size ≤ go by omega) hB8.size
                    replace hset : Own (w8.setCell ⟨go, k, none⟩ (Value.slice a8 n8 c8)) ws.heap.size 26 vV (some ⟨go, 0, none⟩) N N (vs ++ [Value.slice a8 n8 c8] ++ List.replicate (N - (k + 1)) (Value.slice none 0 0)) := hset
                    have HS := Lib.hid hset
                    have HCU := Lib.hid hcu9
                    have HPV := Lib.hid hpv9
                    have HGS := Lib.hid hgS9
                    have HB9 := Lib.hid hB9
                    unfold vV at hcell
                    clear hset hcu9 hpv9 hgS9 hB9 hgC hownO hcu8 hpv8 hgS8 hB8 hold
                    go_wp2
                    go_roundw
                    case rel => exact ⟨k + 1, vs ++ [.slice a8 n8 c8], by omega, by go_num, by rw [HST.out]; exact HCU.out, HS.out, by rw [HST.out]; exact HPV.out, HGS.out, HB9.out⟩
                    case measure => simp [intOf]; omega
                  · have hkN : k = N := by omega
                    rw [hkN] at hcu hown hpv ⊢
                    clear hlt hkN hk
                    rw [Nat.sub_self, List.replicate_zero, List.append_nil] at hown
                    rw [← HT.out] at hcu hpv
                    have hgE := HG.out
                    have hparts : Parts wr po N (segT bo).1 := ⟨vs, hown.len, by rw [← hpv.len]; exact hown.len, hown.rd, hpv⟩
                    have hob := hown.blk
                    have hpne : ∀ b off, po = some ⟨b, off, none⟩ → some b ≠ some g := fun b off e => by
                      rcases hob with ⟨h1, _⟩ | ⟨q, h1, h2, _⟩
                      · rw [h1] at e; cases e
                      · rw [h1] at e; simp at e; simp; omega
                    clear hown hpv hgS hob
                    generalize segT bo = tt at *
                    obtain ⟨outs, p, er⟩ := tt
                    simp only at hcu hparts hgE
                    go_wp2_with fail
                    refine (cEnd_any g bo p er wr hcu).mono ?_
                    unfold EndPost
                    rintro e w9 ⟨rfl, hcu9, hg9⟩
                    have hk9 := keep_of_grown hg9 hcu.nobyte3
                    have hB9 := below_of_grown3 hB hg9 hgw hB.size
                    obtain ⟨vs2, q1, q2, q3, q4⟩ := hparts
                    have hparts9 : Parts w9 po N outs := ⟨vs2, q1, q2, q3.grown hg9 hpne, q4.keep hk9⟩
                    by_cases hend : endEr bo.length p er = 0
                    · have HF := Lib.hid (HOK.out po N N w9 (hgE.trans hend) hN3 hparts9 hB9)
                      rw [hend]
                      clear hparts9 hcu9 hg9 hk9 hB9 hcu hgE hend
                      go_wp2
                      go_ret2
                      exact HF.out
                    · have HF := Lib.hid (HBAD.out _ w9 hgE hend hB9)
                      have hend2 : (endEr bo.length p er != 0) = true := bne_iff_ne.2 hend
                      clear hparts9 hcu9 hg9 hk9 hB9 hcu hgE hend
                      generalize endEr bo.length p er = ee at *
                      go_wp2
                      go_ret2
                      exact HF.out
          · have hne : ∃ e5, e5 = se3 bo := ⟨_, rfl⟩
            have HH : Hid (segBE bo = failE (se3 bo) 0 ∧ failE (se3 bo) 0 ≠ 0) := Lib.hid ⟨by rw [fail_keep he3]; exact head_short he3, by rw [fail_keep he3]; exact he3⟩
            have hcu6 : CurOk w5 g bo (sp3 bo) (failE (se3 bo) 0) := by rw [fail_keep he3]; exact hcu5
            have hB6 := hB5
            obtain ⟨w6, hw6⟩ : ∃ w6, w6 = w5 := ⟨_, rfl⟩
            rw [← hw6] at hcu6 hB6 ⊢
            clear HGD he3 hne hcu5 hB5 hw6
            generalize sv2 bo = v2 at *
            generalize sv3 bo = v3 at *
            have HF := Lib.hid (HBAD.out _ _ HH.out.1 HH.out.2 hB6)
            have hne2 : (failE (se3 bo) 0 != 0) = true := bne_iff_ne.2 HH.out.2
            clear HH hB6 HBAD HOK
            generalize failE (se3 bo) 0 = er6 at *
            go_wp2_with fail
            refine (cErr_any g bo (sp3 bo) er6 _ hcu6).mono ?_
            rintro e w' ⟨rfl, rfl⟩
            go_wp2_with fail
            refine (cErr_any g bo (sp3 bo) er6 _ hcu6).mono ?_
            rintro e w' ⟨rfl, rfl⟩
            go_wp2
            go_ret2
            exact HF.out
      · have hv2' : (sv2 bo == 1) = false := beq_eq_false_iff_ne.2 hv2
        have HH := Lib.hid (head_bad (.inr hv2))
        clear hv2
        generalize sv2 bo = v2 at *
        go_wp2_with fail
        refine (cFail_any g bo (sp3 bo) (se3 bo) 14 w5 hcu5).mono ?_
        rintro e w6 ⟨rfl, hcu6, hg6⟩
        have hB6 := below_of_grown3 hB5 hg6 hgw hB5.size
        clear hcu5 hg6 hB5
        by_cases hv3 : 255 < sv3 bo
        · have HNE := Lib.hid HH.out.2
          generalize sv3 bo = v3 at *
          go_wp2_with fail
          refine (cFail_any g bo (sp3 bo) (failE (se3 bo) 14) 4 w6 hcu6).mono ?_
          rw [fail_keep HNE.out]
          rintro e w7 ⟨rfl, hcu7, hg7⟩
          have hB7 := below_of_grown3 hB6 hg7 hgw hB6.size
          clear hcu6 hg7 hB6
          have HF := Lib.hid (HBAD.out _ _ HH.out.1 HH.out.2 hB7)
          have hne2 : (failE (se3 bo) 14 != 0) = true := bne_iff_ne.2 HH.out.2
          clear HH hB7 HBAD HOK
          generalize failE (se3 bo) 14 = er6 at *
          go_wp2_with fail
          refine (cErr_any g bo (sp3 bo) er6 _ hcu7).mono ?_
          rintro e w' ⟨rfl, rfl⟩
          go_wp2_with fail
          refine (cErr_any g bo (sp3 bo) er6 _ hcu7).mono ?_
          rintro e w' ⟨rfl, rfl⟩
          go_wp2
          go_ret2
          exact HF.out
        · generalize sv3 bo = v3 at *
          have HF := Lib.hid (HBAD.out _ _ HH.out.1 HH.out.2 hB6)
          have hne2 : (failE (se3 bo) 14 != 0) = true := bne_iff_ne.2 HH.out.2
          clear HH hB6 HBAD HOK
          generalize failE (se3 bo) 14 = er6 at *
          go_wp2_with fail
          refine (cErr_any g bo (sp3 bo) er6 _ hcu6).mono ?_
          rintro e w' ⟨rfl, rfl⟩
          go_wp2_with fail
          refine (cErr_any g bo (sp3 bo) er6 _ hcu6).mono ?_
          rintro e w' ⟨rfl, rfl⟩
          go_wp2
          go_ret2
          exact HF.out
    · have hsb : ((strOf (smag bo)).toList == [80, 75, 83, 76]) = false := beq_eq_false_iff_ne.2 (by rw [strOf_toList]; exact hmg)
      have hsb2 : ¬ (strOf (smag bo)).toList = [80, 75, 83, 76] := by rw [strOf_toList]; exact hmg
      have HH := Lib.hid (head_bad (.inl hmg))
      clear hmg
      generalize smag bo = mg at *
      go_wp2_with fail
      clear hcv
      refine (cBigGet_any g bo (sp1 bo) (se1 bo) 2 w3 hcu3 (by omega) (by omega)).mono ?_
      unfold NumPost
      rintro e w4 ⟨rfl, hcu4, hg4⟩
      replace hcu4 : CurOk w4 g bo (sp2 bo) (se2 bo) := hcu4
      have hB4 := below_of_grown3 hB3 hg4 hgw hB3.size
      clear hg4 hcu3 hB3
      have hr2 := sv2_range bo
      rw [show bigR (nextL bo (sp1 bo) (se1 bo) 2 (sizedB 2)) = sv2 bo from rfl]
      go_wp2_with fail
      refine (cBigGet_any g bo (sp2 bo) (se2 bo) 2 w4 hcu4 (by omega) (by omega)).mono ?_
      unfold NumPost
      rintro e w5 ⟨rfl, hcu5, hg5⟩
      replace hcu5 : CurOk w5 g bo (sp3 bo) (se3 bo) := hcu5
      have hB5 := below_of_grown3 hB4 hg5 hgw hB4.size
      clear hg5 hcu4 hB4
      have hr3 := sv3_range bo
      rw [show bigR (nextL bo (sp2 bo) (se2 bo) 2 (sizedB 2)) = sv3 bo from rfl]
      generalize sv2 bo = v2 at *
      go_wp2_with fail
      refine (cFail_any g bo (sp3 bo) (se3 bo) 14 w5 hcu5).mono ?_
      rintro e w6 ⟨rfl, hcu6, hg6⟩
      have hB6 := below_of_grown3 hB5 hg6 hgw hB5.size
      clear hcu5 hg6 hB5
      by_cases hv3 : 255 < sv3 bo
      · have HNE := Lib.hid HH.out.2
        generalize sv3 bo = v3 at *
        go_wp2_with fail
        refine (cFail_any g bo (sp3 bo) (failE (se3 bo) 14) 4 w6 hcu6).mono ?_
        rw [fail_keep HNE.out]
        rintro e w7 ⟨rfl, hcu7, hg7⟩
        have hB7 := below_of_grown3 hB6 hg7 hgw hB6.size
        clear hcu6 hg7 hB6
        have HF := Lib.hid (HBAD.out _ _ HH.out.1 HH.out.2 hB7)
        have hne2 : (failE (se3 bo) 14 != 0) = true := bne_iff_ne.2 HH.out.2
        clear HH hB7 HBAD HOK
        generalize failE (se3 bo) 14 = er6 at *
        go_wp2_with fail
        refine (cErr_any g bo (sp3 bo) er6 _ hcu7).mono ?_
        rintro e w' ⟨rfl, rfl⟩
        go_wp2_with fail
        refine (cErr_any g bo (sp3 bo) er6 _ hcu7).mono ?_
        rintro e w' ⟨rfl, rfl⟩
        go_wp2
        go_ret2
        exact HF.out
      · generalize sv3 bo = v3 at *
        have HF := Lib.hid (HBAD.out _ _ HH.out.1 HH.out.2 hB6)
        have hne2 : (failE (se3 bo) 14 != 0) = true := bne_iff_ne.2 HH.out.2
        clear HH hB6 HBAD HOK
        generalize failE (se3 bo) 14 = er6 at *
        go_wp2_with fail
        refine (cErr_any g bo (sp3 bo) er6 _ hcu6).mono ?_
        rintro e w' ⟨rfl, rfl⟩
        go_wp2_with fail
        refine (cErr_any g bo (sp3 bo) er6 _ hcu6).mono ?_
        rintro e w' ⟨rfl, rfl⟩
        go_wp2
        go_ret2
        exact HF.out
  · have HF := Lib.hid (segR_bad (HEO.out h4) h4 hb1)
    have h4' : (openEr l != 0) = true := bne_iff_ne.2 h4
    clear HEO HEB hown1 hr hl
    generalize openEr l = er at *
    go_wp2
    go_ret2
    exact HF.out
end Go.Proofs.Ytnmdgmjheopolaa
