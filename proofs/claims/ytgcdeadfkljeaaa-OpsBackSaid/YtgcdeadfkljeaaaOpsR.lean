/- Writing instructions: Put, form by form (R). -/
import Derived.Test.YtgcdeadfkljeaaaOpsM
namespace Go.Proofs.Ytgcdeadfkljeaaa
open Go.RowKit
set_option linter.unusedVariables false
set_option linter.unusedSimpArgs false

section
variable {st : StepK} {ka : Option Addr} {kn kc : Nat} {ta : Option Addr} {tn tc : Nat}
theorem wide_no {st : StepK} {f : Nat} (h1 : f ≠ 118) (h2 : f ≠ 105) : wideK st f = false := by unfold wideK; simp [h1, h2]
set_option maxRecDepth 100000 in
set_option maxHeartbeats 8000000 in
theorem put_else (f : Nat) (p : Option Addr) (n c : Nat) (L : List UInt8) (w : World) (h : StvOk w st ka kn kc ta tn tc) (hl : L.length = n ∧ n ≤ 10000000) (hr : Rd w bE p L) (hf : formI st.op = f) (hR : rightK st f = true) (hF : fitsK st f (n : Int) = true) (h8 : f < 256 ∧ f ≠ 0) (hd : f ≠ 98 ∧ f ≠ 115 ∧ f ≠ 99 ∧ f ≠ 100 ∧ f ≠ 112 ∧ f ≠ 118 ∧ f ≠ 105 ∧ f ≠ 106 ∧ f ≠ 119 ∧ f ≠ 102 ∧ f ≠ 109 ∧ f ≠ 97 ∧ f ≠ 116 ∧ f ≠ 108) : Calls Try.prog 22 #[.slice p n c, stV st ka kn kc ta tn tc] w (PutPost w L st) := by
  have mixed : Try.prog.follows .mixedOrders = true := by kernel_rfl
  have HK := Lib.hid h
  have HL := Lib.hid (And.intro hl hr)
  obtain ⟨o, ho⟩ : ∃ o, o = w.heap.size := ⟨_, rfl⟩
  have HBO : Hid (Blk (w.alloc (.cells (stC st (.slice ka kn kc) (.slice ta tn tc)) STO)) w.heap.size STO (stC st (.slice ka kn kc) (.slice ta tn tc)) ∧ Below w.heap.size w (w.alloc (.cells (stC st (.slice ka kn kc) (.slice ta tn tc)) STO))) := Lib.hid ⟨Blk.new _ _ _, below_alloc _ _⟩
  have q1 : (w.alloc (.cells (stC st (.slice ka kn kc) (.slice ta tn tc)) STO)).cell? ⟨w.heap.size, 1, none⟩ = some (.int .i64 st.op) := HBO.out.1.cell (i := 1) rfl
  have HFO := Lib.hid hf
  have HRT := Lib.hid (fun w' h => right_any (st := st) (ka := ka) (kn := kn) (kc := kc) (ta := ta) (tn := tn) (tc := tc) f w' (by omega) h)
  have HFT := Lib.hid (fun w' h => fits_any (st := st) (ka := ka) (kn := kn) (kc := kc) (ta := ta) (tn := tn) (tc := tc) f (n : Int) w' (by omega) h (by have := HL.out.1; omega) (by omega))
  rw [hR] at HRT
  rw [hF] at HFT
  have hw : wideK st f = false := wide_no (by omega) (by omega)
  have HPK : Hid (putK L st = (L ++ [UInt8.ofNat (st.op : Int).toNat], 0)) := Lib.hid (by
    unfold putK
    rw [hf, hl.1, if_neg (by omega), if_neg (by rw [hR]; decide), if_neg (by rw [hF]; decide)]
    simp [headK, bodyK, opcK, widK, hw, show ¬ f = 98 by omega, show ¬ f = 115 by omega, show ¬ f = 99 by omega, show ¬ f = 100 by omega, show ¬ f = 112 by omega, show ¬ f = 118 by omega, show ¬ f = 105 by omega, show ¬ f = 106 by omega, show ¬ f = 119 by omega, show ¬ f = 102 by omega, show ¬ f = 109 by omega, show ¬ f = 97 by omega, show ¬ f = 116 by omega, show ¬ f = 108 by omega])
  have HOP : Hid (0 ≤ (st.op : Int) ∧ (st.op : Int) < 256) := Lib.hid (op_rng (by omega))
  have gw : IntKind.u8.wrap (st.op : Int) = st.op := IntWalk.u8_in _ (by have := HOP.out; omega)
  have HWD := Lib.hid (fun w' => wide_any (st := st) (ka := ka) (kn := kn) (kc := kc) (ta := ta) (tn := tn) (tc := tc) f w' (by omega))
  rw [hw] at HWD
  have e98 : ((f : Int) == 98) = false := by simp; omega
  have e115 : ((f : Int) == 115) = false := by simp; omega
  have e99 : ((f : Int) == 99) = false := by simp; omega
  have e100 : ((f : Int) == 100) = false := by simp; omega
  have e112 : ((f : Int) == 112) = false := by simp; omega
  have e118 : ((f : Int) == 118) = false := by simp; omega
  have e105 : ((f : Int) == 105) = false := by simp; omega
  have e106 : ((f : Int) == 106) = false := by simp; omega
  have e119 : ((f : Int) == 119) = false := by simp; omega
  have e102 : ((f : Int) == 102) = false := by simp; omega
  have e109 : ((f : Int) == 109) = false := by simp; omega
  have e97 : ((f : Int) == 97) = false := by simp; omega
  have e116 : ((f : Int) == 116) = false := by simp; omega
  have e108 : ((f : Int) == 108) = false := by simp; omega
  have e0 : ((f : Int) == 0) = false := by simp; omega
  clear hd h8
  clear hf hR hF hw h hl hr
  go_enter Try.func22, Try.ntmps22
  go_wp2_with fail
  refine (form_any st.op _).mono ?_
  rintro e w2 ⟨rfl, hb2⟩
  have HB2 : Hid (Blk w2 o STO (stC st (.slice ka kn kc) (.slice ta tn tc)) ∧ Below w.heap.size w w2) := Lib.hid ⟨by rw [ho]; exact HBO.out.1.below hb2, HBO.out.2.trans (hb2.mono HBO.out.2.size)⟩
  rw [← ho]
  clear ho hb2 HBO q1
  rw [HFO.out]
  go_wp2_with (refine wpList_load_row rfl _ _ rfl _ rfl _ _ _ _ HB2.out.1 Try.underlying48 rfl size_sto8 ?_)
  refine (HRT.out w2 (HK.out.later HB2.out.2)).mono ?_
  rintro e w3 ⟨rfl, hb3⟩
  have HB3 := Lib.hid (And.intro (HB2.out.1.below hb3) (HB2.out.2.trans (hb3.mono HB2.out.2.size)))
  clear hb3 HB2
  go_wp2_with (refine wpList_load_row rfl _ _ rfl _ rfl _ _ _ _ HB3.out.1 Try.underlying48 rfl size_sto8 ?_)
  refine (HFT.out w3 (HK.out.later HB3.out.2)).mono ?_
  rintro e w4 ⟨rfl, hb4⟩
  have HB4 := Lib.hid (And.intro (HB3.out.1.below hb4) (HB3.out.2.trans (hb4.mono HB3.out.2.size)))
  clear hb4 HB3
  have HX0 : Hid (w4.cell? ⟨o, 1, none⟩ = some (.int .i64 st.op)) := Lib.hid (HB4.out.1.cell (i := 1) rfl)
  go_upto_region 8 with fail
  go_cut [8, 9, 10] (fun x8 x9 x10 wr => x9 = .int .i64 1 ∧ x10 = .int .i64 st.op ∧ ∃ g, x8 = .pointer (some ⟨g, 0, none⟩) ∧ Hid (KS w wr w.heap.size g o L (stC st (.slice ka kn kc) (.slice ta tn tc)) ∧ NeO wr g o))
  case first =>
    have cs0 := HX0.out
    go_region_held3 (fun w' => w'.cell? ⟨o, 1, none⟩ = some (.int .i64 st.op))
      (first | exact cs0 | exact cs1 | exact cs2 | go_keep)
      (first | (refine step_out w.heap.size (by rfl) _ _ (by rfl) (by rfl) (by first | exact heap_a0 _ _ | exact heap_a1 _ _ _ | exact heap_a2 _ _ _) (by rfl) HL.out.1.1 ((HL.out.2.below HB4.out.2).below (w := w4) (by repeat (first | exact Below.refl _ _ | refine Below.drew ?_ | refine Below.alloc ?_ (by simp <;> omega) _))) (by have := HL.out.1.2; omega) (by have := HB4.out.2.size; simp; omega) ?_; intro pO cO wO hbO hB0 hnb; have hbz : Below w4.heap.size w4 wO := (by refine Below.trans ?_ (hB0.mono (by simp <;> omega)); repeat (first | exact Below.refl _ _ | refine Below.drew ?_ | refine Below.alloc ?_ (by simp <;> omega) _)); have cs1 : wO.cell? ⟨o, 1, none⟩ = some (.int .i64 st.op) := (HB4.out.1.below hbz).cell (i := 1) rfl; first | (have hbx : Blk wO (w4.heap.size + 1) BSL #[.slice none 0 0] := Blk.below (heap_a2 w4 _ _) hB0; have cgx := hbx.cell (i := 0) rfl; have fgx := hbx.frozen 0; have cs2 : (wO.setCell ⟨w4.heap.size + 1, 0, none⟩ (.slice pO n cO)).cell? ⟨o, 1, none⟩ = some (.int .i64 st.op) := ((HB4.out.1.below hbz).setCell_ne (by have := HB4.out.1.lt; have := hbz.size; simp only; omega) _).cell (i := 1) rfl) | (have hbx : Blk wO w4.heap.size BSL #[.slice none 0 0] := Blk.below (heap_a1 w4 _ _) hB0; have cgx := hbx.cell (i := 0) rfl; have fgx := hbx.frozen 0; have cs2 : (wO.setCell ⟨w4.heap.size, 0, none⟩ (.slice pO n cO)).cell? ⟨o, 1, none⟩ = some (.int .i64 st.op) := ((HB4.out.1.below hbz).setCell_ne (by have := HB4.out.1.lt; have := hbz.size; simp only; omega) _).cell (i := 1) rfl) | (have cs2 : ((wO.alloc (.cells #[.slice none 0 0] BSL)).setCell ⟨wO.heap.size, 0, none⟩ (.slice pO n cO)).cell? ⟨o, 1, none⟩ = some (.int .i64 st.op) := (((HB4.out.1.below hbz).alloc _).setCell_ne (by have := HB4.out.1.lt; have := hbz.size; simp only; omega) _).cell (i := 1) rfl)) | fail)
    all_goals (try go_wp2)
    · go_meet
      exact ⟨rfl, rfl, _, rfl, Lib.hid (KS.ofNew HB4.out hbz hbO hnb)⟩
    · go_meet
      exact ⟨rfl, rfl, _, rfl, Lib.hid (KS.ofBox HB4.out hbz (by omega) hbx hbO hnb)⟩
    · go_meet
      exact ⟨rfl, rfl, _, rfl, Lib.hid (KS.ofBox HB4.out hbz (by omega) hbx hbO hnb)⟩
  case rest =>
    obtain ⟨rfl, rfl, g, rfl, HS⟩ := hcut
    clear HB4 HX0 HRT HFT
    go_wp2_with (refine wpList_load_row rfl _ _ rfl _ rfl _ _ _ _ HS.out.1.2.1 Try.underlying48 rfl size_sto8 ?_)
    refine (HWD.out wc).mono ?_
    rintro e w5 ⟨rfl, hb5⟩
    skip
    obtain ⟨p5, n5, c5, hk5⟩ := K4.ex (HS.out.1.below hb5) (HS.out.2.below hb5 (by obtain ⟨-, p, n, c, hb, -⟩ := HS.out.1.1; exact hb.lt))
    have HA1 := Lib.hid (hk5.alloc (.cells #[.int .u8 (st.op : Int)] U8))
    have q0 : w5.cell? ⟨g, 0, none⟩ = some (.slice p5 n5 c5) := hk5.2.2.1.cell rfl
    clear hb5 HS hk5
    go_wp2_with (at_builtin; refine wpList_catB2 (base := w.heap.size) (wz := (w5.alloc (.cells #[.int .u8 st.op] U8))) slByte rfl rfl _ _ rfl rfl HA1.out.2.2.2 (Below.refl _ _) rfl (k := [UInt8.ofNat (st.op : Int).toNat]) rfl (rd_new w5 _ _ _ _ (one_row HOP.out)) (fun _ _ => rfl) (by have h := HA1.out.2.2.2.len; have h2 := HL.out.1; (try simp only [List.length_append, List.length_cons, List.length_nil] at h); (try unfold maxLen); omega) (by have h := HA1.out.2.2.2.len; have h2 := HL.out.1; (try simp only [List.length_append, List.length_cons, List.length_nil] at h); (try unfold maxLen); omega) HA1.out.1.2.2.2.2.1 ?_; intro pp1 cp1 wp1 hbuf hB keep; have HP := K4.push HA1.out hbuf (by simp) hB keep; have qp1 := HP.2.1; have fp1 := HP.2.2; have HB1 := Lib.hid HP.1; clear hbuf hB keep; clear HP)
    go_ret2
    exact ⟨_, _, _, by rw [HPK.out] <;> rfl, by rw [HPK.out]; exact HB1.out.2.2.2.len, by rw [HPK.out]; exact HB1.out.2.2.2.rd, HB1.out.1.2.2.1⟩
end
end Go.Proofs.Ytgcdeadfkljeaaa
