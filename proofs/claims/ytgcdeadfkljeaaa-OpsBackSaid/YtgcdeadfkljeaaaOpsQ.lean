/- Writing instructions: Put, form by form (Q). -/
import Derived.Test.YtgcdeadfkljeaaaOpsM
namespace Go.Proofs.Ytgcdeadfkljeaaa
open Go.RowKit
set_option linter.unusedVariables false
set_option linter.unusedSimpArgs false

section
variable {st : StepK} {ka : Option Addr} {kn kc : Nat} {ta : Option Addr} {tn tc : Nat}
set_option maxRecDepth 100000 in
set_option maxHeartbeats 8000000 in
theorem put_99s (p : Option Addr) (n c : Nat) (L : List UInt8) (w : World) (h : StvOk w st ka kn kc ta tn tc) (hl : L.length = n ∧ n ≤ 10000000) (hr : Rd w bE p L) (hf : formI st.op = 99) (hR : rightK st 99 = true) (hF : fitsK st 99 (n : Int) = true) (hp : ¬ 255 < st.pool) : Calls Try.prog 22 #[.slice p n c, stV st ka kn kc ta tn tc] w (PutPost w L st) := by
  have mixed : Try.prog.follows .mixedOrders = true := by kernel_rfl
  have HK := Lib.hid h
  have HL := Lib.hid (And.intro hl hr)
  obtain ⟨o, ho⟩ : ∃ o, o = w.heap.size := ⟨_, rfl⟩
  have HBO : Hid (Blk (w.alloc (.cells (stC st (.slice ka kn kc) (.slice ta tn tc)) STO)) w.heap.size STO (stC st (.slice ka kn kc) (.slice ta tn tc)) ∧ Below w.heap.size w (w.alloc (.cells (stC st (.slice ka kn kc) (.slice ta tn tc)) STO))) := Lib.hid ⟨Blk.new _ _ _, below_alloc _ _⟩
  have q1 : (w.alloc (.cells (stC st (.slice ka kn kc) (.slice ta tn tc)) STO)).cell? ⟨w.heap.size, 1, none⟩ = some (.int .i64 st.op) := HBO.out.1.cell (i := 1) rfl
  have HFO := Lib.hid hf
  have HRT := Lib.hid (fun w' h => right_any (st := st) (ka := ka) (kn := kn) (kc := kc) (ta := ta) (tn := tn) (tc := tc) 99 w' (by decide) h)
  have HFT := Lib.hid (fun w' h => fits_any (st := st) (ka := ka) (kn := kn) (kc := kc) (ta := ta) (tn := tn) (tc := tc) 99 (n : Int) w' (by decide) h (by have := HL.out.1; omega) (by omega))
  rw [hR] at HRT
  rw [hF] at HFT
  have hw : wideK st 99 = false := rfl
  have HPK : Hid (putK L st = (L ++ [UInt8.ofNat (18 : Int).toNat] ++ putB (u64N (st.pool)) 1, 0)) := Lib.hid (by
    unfold putK
    rw [hf, hl.1, if_neg (by decide), if_neg (by rw [hR]; decide), if_neg (by rw [hF]; decide)]
    simp [headK, bodyK, opcK, widK, hw, hp])
  have HOP : Hid (0 ≤ (18 : Int) ∧ (18 : Int) < 256) := Lib.hid (by decide)
  have gw : IntKind.u8.wrap (18 : Int) = 18 := IntWalk.u8_in _ (by have := HOP.out; omega)
  have HWD := Lib.hid (fun w' => wide_any (st := st) (ka := ka) (kn := kn) (kc := kc) (ta := ta) (tn := tn) (tc := tc) 99 w' (by decide))
  rw [hw] at HWD
  have gp : decide (255 < st.pool) = false := decide_eq_false hp
  clear hp
  clear hf hR hF hw h hl hr
  go_enter Try.func22, Try.ntmps22
  go_wp2_with fail
  refine (form_any st.op _).mono ?_
  rintro e w2 ⟨rfl, hb2⟩
  have HB2 : Hid (Blk w2 o STO (stC st (.slice ka kn kc) (.slice ta tn tc)) ∧ Below w.heap.size w w2) := Lib.hid ⟨by rw [ho]; exact HBO.out.1.below hb2, HBO.out.2.trans (hb2.mono HBO.out.2.size)⟩
  rw [← ho]
  clear ho hb2 HBO q1
  rw [HFO.out]
  go_wp2_with (refine wpList_load_row rfl _ _ rfl _ rfl _ _ _ _ HB2.out.1 Try.underlying48 rfl size_sto8 ?_)
  refine (HRT.out w2 (HK.out.later HB2.out.2)).mono ?_
  rintro e w3 ⟨rfl, hb3⟩
  have HB3 := Lib.hid (And.intro (HB2.out.1.below hb3) (HB2.out.2.trans (hb3.mono HB2.out.2.size)))
  clear hb3 HB2
  go_wp2_with (refine wpList_load_row rfl _ _ rfl _ rfl _ _ _ _ HB3.out.1 Try.underlying48 rfl size_sto8 ?_)
  refine (HFT.out w3 (HK.out.later HB3.out.2)).mono ?_
  rintro e w4 ⟨rfl, hb4⟩
  have HB4 := Lib.hid (And.intro (HB3.out.1.below hb4) (HB3.out.2.trans (hb4.mono HB3.out.2.size)))
  clear hb4 HB3
  have HX0 : Hid (w4.cell? ⟨o, 1, none⟩ = some (.int .i64 st.op)) := Lib.hid (HB4.out.1.cell (i := 1) rfl)
  go_upto_region 8 with fail
  go_cut [8, 9, 10] (fun x8 x9 x10 wr => x9 = .int .i64 1 ∧ x10 = .int .i64 st.op ∧ ∃ g, x8 = .pointer (some ⟨g, 0, none⟩) ∧ Hid (KS w wr w.heap.size g o L (stC st (.slice ka kn kc) (.slice ta tn tc)) ∧ NeO wr g o))
  case first =>
    have cs0 := HX0.out
    go_region_held3 (fun w' => w'.cell? ⟨o, 1, none⟩ = some (.int .i64 st.op))
      (first | exact cs0 | exact cs1 | exact cs2 | go_keep)
      (first | (refine step_out w.heap.size (by rfl) _ _ (by rfl) (by rfl) (by first | exact heap_a0 _ _ | exact heap_a1 _ _ _ | exact heap_a2 _ _ _) (by rfl) HL.out.1.1 ((HL.out.2.below HB4.out.2).below (w := w4) (by repeat (first | exact Below.refl _ _ | refine Below.drew ?_ | refine Below.alloc ?_ (by simp <;> omega) _))) (by have := HL.out.1.2; omega) (by have := HB4.out.2.size; simp; omega) ?_; intro pO cO wO hbO hB0 hnb; have hbz : Below w4.heap.size w4 wO := (by refine Below.trans ?_ (hB0.mono (by simp <;> omega)); repeat (first | exact Below.refl _ _ | refine Below.drew ?_ | refine Below.alloc ?_ (by simp <;> omega) _)); have cs1 : wO.cell? ⟨o, 1, none⟩ = some (.int .i64 st.op) := (HB4.out.1.below hbz).cell (i := 1) rfl; first | (have hbx : Blk wO (w4.heap.size + 1) BSL #[.slice none 0 0] := Blk.below (heap_a2 w4 _ _) hB0; have cgx := hbx.cell (i := 0) rfl; have fgx := hbx.frozen 0; have cs2 : (wO.setCell ⟨w4.heap.size + 1, 0, none⟩ (.slice pO n cO)).cell? ⟨o, 1, none⟩ = some (.int .i64 st.op) := ((HB4.out.1.below hbz).setCell_ne (by have := HB4.out.1.lt; have := hbz.size; simp only; omega) _).cell (i := 1) rfl) | (have hbx : Blk wO w4.heap.size BSL #[.slice none 0 0] := Blk.below (heap_a1 w4 _ _) hB0; have cgx := hbx.cell (i := 0) rfl; have fgx := hbx.frozen 0; have cs2 : (wO.setCell ⟨w4.heap.size, 0, none⟩ (.slice pO n cO)).cell? ⟨o, 1, none⟩ = some (.int .i64 st.op) := ((HB4.out.1.below hbz).setCell_ne (by have := HB4.out.1.lt; have := hbz.size; simp only; omega) _).cell (i := 1) rfl) | (have cs2 : ((wO.alloc (.cells #[.slice none 0 0] BSL)).setCell ⟨wO.heap.size, 0, none⟩ (.slice pO n cO)).cell? ⟨o, 1, none⟩ = some (.int .i64 st.op) := (((HB4.out.1.below hbz).alloc _).setCell_ne (by have := HB4.out.1.lt; have := hbz.size; simp only; omega) _).cell (i := 1) rfl)) | fail)
    all_goals (try go_wp2)
    · go_meet
      exact ⟨rfl, rfl, _, rfl, Lib.hid (KS.ofNew HB4.out hbz hbO hnb)⟩
    · go_meet
      exact ⟨rfl, rfl, _, rfl, Lib.hid (KS.ofBox HB4.out hbz (by omega) hbx hbO hnb)⟩
    · go_meet
      exact ⟨rfl, rfl, _, rfl, Lib.hid (KS.ofBox HB4.out hbz (by omega) hbx hbO hnb)⟩
  case rest =>
    obtain ⟨rfl, rfl, g, rfl, HS⟩ := hcut
    clear HB4 HX0 HRT HFT
    go_wp2_with (refine wpList_load_row rfl _ _ rfl _ rfl _ _ _ _ HS.out.1.2.1 Try.underlying48 rfl size_sto8 ?_)
    refine (HWD.out wc).mono ?_
    rintro e w5 ⟨rfl, hb5⟩
    have qpool : w5.cell? ⟨o, 4, none⟩ = some (.int .i64 st.pool) := (HS.out.1.below hb5).2.1.cell (i := 4) rfl
    obtain ⟨p5, n5, c5, hk5⟩ := K4.ex (HS.out.1.below hb5) (HS.out.2.below hb5 (by obtain ⟨-, p, n, c, hb, -⟩ := HS.out.1.1; exact hb.lt))
    have HA1 := Lib.hid (hk5.alloc (.cells #[.int .u8 (18 : Int)] U8))
    have q0 : w5.cell? ⟨g, 0, none⟩ = some (.slice p5 n5 c5) := hk5.2.2.1.cell rfl
    clear hb5 HS hk5
    go_wp2_with (at_builtin; refine wpList_catB2 (base := w.heap.size) (wz := (w5.alloc (.cells #[.int .u8 18] U8))) slByte rfl rfl _ _ rfl rfl HA1.out.2.2.2 (Below.refl _ _) rfl (k := [UInt8.ofNat (18 : Int).toNat]) rfl (rd_new w5 _ _ _ _ (one_row HOP.out)) (fun _ _ => rfl) (by have h := HA1.out.2.2.2.len; have h2 := HL.out.1; (try simp only [List.length_append, List.length_cons, List.length_nil] at h); (try unfold maxLen); omega) (by have h := HA1.out.2.2.2.len; have h2 := HL.out.1; (try simp only [List.length_append, List.length_cons, List.length_nil] at h); (try unfold maxLen); omega) HA1.out.1.2.2.2.2.1 ?_; intro pp1 cp1 wp1 hbuf hB keep; have HP := K4.push HA1.out hbuf (by simp) hB keep; have qp1 := HP.2.1; have fp1 := HP.2.2; have HB1 := Lib.hid HP.1; clear hbuf hB keep; have qf14 : (wp1.setCell ⟨g, 0, none⟩ (.slice pp1 (n5 + 1) cp1)).cell? ⟨o, 4, none⟩ = some (.int .i64 st.pool) := HP.1.1.2.1.cell (i := 4) rfl; clear HP)
    obtain ⟨w7, hw7⟩ : ∃ w7, w7 = (wp1.setCell ⟨g, 0, none⟩ (.slice pp1 (n5 + 1) cp1)) := ⟨_, rfl⟩
    rw [← hw7] at HB1 ⊢
    have HS7 := Lib.hid HB1.out.1
    clear hw7 q0 HA1 HB1 qf14
    refine (put1_any g w.heap.size _ (st.pool) 1 (.inl rfl) w7 HS7.out.1 (by have := HL.out.1; simp only [List.length_append, List.length_cons, List.length_nil, putB_len1, putB_len2]; omega) HS7.out.2.2.2.2.1).mono ?_
    rintro e w8 ⟨rfl, hv8, hg8⟩
    have HS8 := Lib.hid (HS7.out.step hv8 hg8)
    clear hv8 hg8 HS7
    obtain ⟨p8, n8, c8, hk8⟩ := K4.ex HS8.out (HS8.out.neo (by simp <;> omega))
    have q8 : w8.cell? ⟨g, 0, none⟩ = some (.slice p8 n8 c8) := hk8.2.2.1.cell rfl
    have HF8 := Lib.hid hk8.2.2.2
    clear hk8
    go_wp2
    go_ret2
    exact ⟨_, _, _, by rw [HPK.out] <;> rfl, by rw [HPK.out]; exact HF8.out.len, by rw [HPK.out]; exact HF8.out.rd, HS8.out.2.2.1⟩
set_option maxRecDepth 100000 in
set_option maxHeartbeats 8000000 in
theorem put_99b (p : Option Addr) (n c : Nat) (L : List UInt8) (w : World) (h : StvOk w st ka kn kc ta tn tc) (hl : L.length = n ∧ n ≤ 10000000) (hr : Rd w bE p L) (hf : formI st.op = 99) (hR : rightK st 99 = true) (hF : fitsK st 99 (n : Int) = true) (hp : 255 < st.pool) : Calls Try.prog 22 #[.slice p n c, stV st ka kn kc ta tn tc] w (PutPost w L st) := by
  have mixed : Try.prog.follows .mixedOrders = true := by kernel_rfl
  have HK := Lib.hid h
  have HL := Lib.hid (And.intro hl hr)
  obtain ⟨o, ho⟩ : ∃ o, o = w.heap.size := ⟨_, rfl⟩
  have HBO : Hid (Blk (w.alloc (.cells (stC st (.slice ka kn kc) (.slice ta tn tc)) STO)) w.heap.size STO (stC st (.slice ka kn kc) (.slice ta tn tc)) ∧ Below w.heap.size w (w.alloc (.cells (stC st (.slice ka kn kc) (.slice ta tn tc)) STO))) := Lib.hid ⟨Blk.new _ _ _, below_alloc _ _⟩
  have q1 : (w.alloc (.cells (stC st (.slice ka kn kc) (.slice ta tn tc)) STO)).cell? ⟨w.heap.size, 1, none⟩ = some (.int .i64 st.op) := HBO.out.1.cell (i := 1) rfl
  have HFO := Lib.hid hf
  have HRT := Lib.hid (fun w' h => right_any (st := st) (ka := ka) (kn := kn) (kc := kc) (ta := ta) (tn := tn) (tc := tc) 99 w' (by decide) h)
  have HFT := Lib.hid (fun w' h => fits_any (st := st) (ka := ka) (kn := kn) (kc := kc) (ta := ta) (tn := tn) (tc := tc) 99 (n : Int) w' (by decide) h (by have := HL.out.1; omega) (by omega))
  rw [hR] at HRT
  rw [hF] at HFT
  have hw : wideK st 99 = false := rfl
  have HPK : Hid (putK L st = (L ++ [UInt8.ofNat (19 : Int).toNat] ++ putB (u64N (st.pool)) 2, 0)) := Lib.hid (by
    unfold putK
    rw [hf, hl.1, if_neg (by decide), if_neg (by rw [hR]; decide), if_neg (by rw [hF]; decide)]
    simp [headK, bodyK, opcK, widK, hw, hp])
  have HOP : Hid (0 ≤ (19 : Int) ∧ (19 : Int) < 256) := Lib.hid (by decide)
  have gw : IntKind.u8.wrap (19 : Int) = 19 := IntWalk.u8_in _ (by have := HOP.out; omega)
  have HWD := Lib.hid (fun w' => wide_any (st := st) (ka := ka) (kn := kn) (kc := kc) (ta := ta) (tn := tn) (tc := tc) 99 w' (by decide))
  rw [hw] at HWD
  have gp : decide (255 < st.pool) = true := decide_eq_true hp
  clear hp
  clear hf hR hF hw h hl hr
  go_enter Try.func22, Try.ntmps22
  go_wp2_with fail
  refine (form_any st.op _).mono ?_
  rintro e w2 ⟨rfl, hb2⟩
  have HB2 : Hid (Blk w2 o STO (stC st (.slice ka kn kc) (.slice ta tn tc)) ∧ Below w.heap.size w w2) := Lib.hid ⟨by rw [ho]; exact HBO.out.1.below hb2, HBO.out.2.trans (hb2.mono HBO.out.2.size)⟩
  rw [← ho]
  clear ho hb2 HBO q1
  rw [HFO.out]
  go_wp2_with (refine wpList_load_row rfl _ _ rfl _ rfl _ _ _ _ HB2.out.1 Try.underlying48 rfl size_sto8 ?_)
  refine (HRT.out w2 (HK.out.later HB2.out.2)).mono ?_
  rintro e w3 ⟨rfl, hb3⟩
  have HB3 := Lib.hid (And.intro (HB2.out.1.below hb3) (HB2.out.2.trans (hb3.mono HB2.out.2.size)))
  clear hb3 HB2
  go_wp2_with (refine wpList_load_row rfl _ _ rfl _ rfl _ _ _ _ HB3.out.1 Try.underlying48 rfl size_sto8 ?_)
  refine (HFT.out w3 (HK.out.later HB3.out.2)).mono ?_
  rintro e w4 ⟨rfl, hb4⟩
  have HB4 := Lib.hid (And.intro (HB3.out.1.below hb4) (HB3.out.2.trans (hb4.mono HB3.out.2.size)))
  clear hb4 HB3
  have HX0 : Hid (w4.cell? ⟨o, 1, none⟩ = some (.int .i64 st.op)) := Lib.hid (HB4.out.1.cell (i := 1) rfl)
  go_upto_region 8 with fail
  go_cut [8, 9, 10] (fun x8 x9 x10 wr => x9 = .int .i64 1 ∧ x10 = .int .i64 st.op ∧ ∃ g, x8 = .pointer (some ⟨g, 0, none⟩) ∧ Hid (KS w wr w.heap.size g o L (stC st (.slice ka kn kc) (.slice ta tn tc)) ∧ NeO wr g o))
  case first =>
    have cs0 := HX0.out
    go_region_held3 (fun w' => w'.cell? ⟨o, 1, none⟩ = some (.int .i64 st.op))
      (first | exact cs0 | exact cs1 | exact cs2 | go_keep)
      (first | (refine step_out w.heap.size (by rfl) _ _ (by rfl) (by rfl) (by first | exact heap_a0 _ _ | exact heap_a1 _ _ _ | exact heap_a2 _ _ _) (by rfl) HL.out.1.1 ((HL.out.2.below HB4.out.2).below (w := w4) (by repeat (first | exact Below.refl _ _ | refine Below.drew ?_ | refine Below.alloc ?_ (by simp <;> omega) _))) (by have := HL.out.1.2; omega) (by have := HB4.out.2.size; simp; omega) ?_; intro pO cO wO hbO hB0 hnb; have hbz : Below w4.heap.size w4 wO := (by refine Below.trans ?_ (hB0.mono (by simp <;> omega)); repeat (first | exact Below.refl _ _ | refine Below.drew ?_ | refine Below.alloc ?_ (by simp <;> omega) _)); have cs1 : wO.cell? ⟨o, 1, none⟩ = some (.int .i64 st.op) := (HB4.out.1.below hbz).cell (i := 1) rfl; first | (have hbx : Blk wO (w4.heap.size + 1) BSL #[.slice none 0 0] := Blk.below (heap_a2 w4 _ _) hB0; have cgx := hbx.cell (i := 0) rfl; have fgx := hbx.frozen 0; have cs2 : (wO.setCell ⟨w4.heap.size + 1, 0, none⟩ (.slice pO n cO)).cell? ⟨o, 1, none⟩ = some (.int .i64 st.op) := ((HB4.out.1.below hbz).setCell_ne (by have := HB4.out.1.lt; have := hbz.size; simp only; omega) _).cell (i := 1) rfl) | (have hbx : Blk wO w4.heap.size BSL #[.slice none 0 0] := Blk.below (heap_a1 w4 _ _) hB0; have cgx := hbx.cell (i := 0) rfl; have fgx := hbx.frozen 0; have cs2 : (wO.setCell ⟨w4.heap.size, 0, none⟩ (.slice pO n cO)).cell? ⟨o, 1, none⟩ = some (.int .i64 st.op) := ((HB4.out.1.below hbz).setCell_ne (by have := HB4.out.1.lt; have := hbz.size; simp only; omega) _).cell (i := 1) rfl) | (have cs2 : ((wO.alloc (.cells #[.slice none 0 0] BSL)).setCell ⟨wO.heap.size, 0, none⟩ (.slice pO n cO)).cell? ⟨o, 1, none⟩ = some (.int .i64 st.op) := (((HB4.out.1.below hbz).alloc _).setCell_ne (by have := HB4.out.1.lt; have := hbz.size; simp only; omega) _).cell (i := 1) rfl)) | fail)
    all_goals (try go_wp2)
    · go_meet
      exact ⟨rfl, rfl, _, rfl, Lib.hid (KS.ofNew HB4.out hbz hbO hnb)⟩
    · go_meet
      exact ⟨rfl, rfl, _, rfl, Lib.hid (KS.ofBox HB4.out hbz (by omega) hbx hbO hnb)⟩
    · go_meet
      exact ⟨rfl, rfl, _, rfl, Lib.hid (KS.ofBox HB4.out hbz (by omega) hbx hbO hnb)⟩
  case rest =>
    obtain ⟨rfl, rfl, g, rfl, HS⟩ := hcut
    clear HB4 HX0 HRT HFT
    go_wp2_with (refine wpList_load_row rfl _ _ rfl _ rfl _ _ _ _ HS.out.1.2.1 Try.underlying48 rfl size_sto8 ?_)
    refine (HWD.out wc).mono ?_
    rintro e w5 ⟨rfl, hb5⟩
    have qpool : w5.cell? ⟨o, 4, none⟩ = some (.int .i64 st.pool) := (HS.out.1.below hb5).2.1.cell (i := 4) rfl
    obtain ⟨p5, n5, c5, hk5⟩ := K4.ex (HS.out.1.below hb5) (HS.out.2.below hb5 (by obtain ⟨-, p, n, c, hb, -⟩ := HS.out.1.1; exact hb.lt))
    have HA1 := Lib.hid (hk5.alloc (.cells #[.int .u8 (19 : Int)] U8))
    have q0 : w5.cell? ⟨g, 0, none⟩ = some (.slice p5 n5 c5) := hk5.2.2.1.cell rfl
    clear hb5 HS hk5
    go_wp2_with (at_builtin; refine wpList_catB2 (base := w.heap.size) (wz := (w5.alloc (.cells #[.int .u8 19] U8))) slByte rfl rfl _ _ rfl rfl HA1.out.2.2.2 (Below.refl _ _) rfl (k := [UInt8.ofNat (19 : Int).toNat]) rfl (rd_new w5 _ _ _ _ (one_row HOP.out)) (fun _ _ => rfl) (by have h := HA1.out.2.2.2.len; have h2 := HL.out.1; (try simp only [List.length_append, List.length_cons, List.length_nil] at h); (try unfold maxLen); omega) (by have h := HA1.out.2.2.2.len; have h2 := HL.out.1; (try simp only [List.length_append, List.length_cons, List.length_nil] at h); (try unfold maxLen); omega) HA1.out.1.2.2.2.2.1 ?_; intro pp1 cp1 wp1 hbuf hB keep; have HP := K4.push HA1.out hbuf (by simp) hB keep; have qp1 := HP.2.1; have fp1 := HP.2.2; have HB1 := Lib.hid HP.1; clear hbuf hB keep; have qf14 : (wp1.setCell ⟨g, 0, none⟩ (.slice pp1 (n5 + 1) cp1)).cell? ⟨o, 4, none⟩ = some (.int .i64 st.pool) := HP.1.1.2.1.cell (i := 4) rfl; clear HP)
    obtain ⟨w7, hw7⟩ : ∃ w7, w7 = (wp1.setCell ⟨g, 0, none⟩ (.slice pp1 (n5 + 1) cp1)) := ⟨_, rfl⟩
    rw [← hw7] at HB1 ⊢
    have HS7 := Lib.hid HB1.out.1
    clear hw7 q0 HA1 HB1 qf14
    refine (put1_any g w.heap.size _ (st.pool) 2 (.inr (.inl rfl)) w7 HS7.out.1 (by have := HL.out.1; simp only [List.length_append, List.length_cons, List.length_nil, putB_len1, putB_len2]; omega) HS7.out.2.2.2.2.1).mono ?_
    rintro e w8 ⟨rfl, hv8, hg8⟩
    have HS8 := Lib.hid (HS7.out.step hv8 hg8)
    clear hv8 hg8 HS7
    obtain ⟨p8, n8, c8, hk8⟩ := K4.ex HS8.out (HS8.out.neo (by simp <;> omega))
    have q8 : w8.cell? ⟨g, 0, none⟩ = some (.slice p8 n8 c8) := hk8.2.2.1.cell rfl
    have HF8 := Lib.hid hk8.2.2.2
    clear hk8
    go_wp2
    go_ret2
    exact ⟨_, _, _, by rw [HPK.out] <;> rfl, by rw [HPK.out]; exact HF8.out.len, by rw [HPK.out]; exact HF8.out.rd, HS8.out.2.2.1⟩
set_option maxRecDepth 100000 in
set_option maxHeartbeats 8000000 in
theorem put_102 (p : Option Addr) (n c : Nat) (L : List UInt8) (w : World) (h : StvOk w st ka kn kc ta tn tc) (hl : L.length = n ∧ n ≤ 10000000) (hr : Rd w bE p L) (hf : formI st.op = 102) (hR : rightK st 102 = true) (hF : fitsK st 102 (n : Int) = true) : Calls Try.prog 22 #[.slice p n c, stV st ka kn kc ta tn tc] w (PutPost w L st) := by
  have mixed : Try.prog.follows .mixedOrders = true := by kernel_rfl
  have HK := Lib.hid h
  have HL := Lib.hid (And.intro hl hr)
  obtain ⟨o, ho⟩ : ∃ o, o = w.heap.size := ⟨_, rfl⟩
  have HBO : Hid (Blk (w.alloc (.cells (stC st (.slice ka kn kc) (.slice ta tn tc)) STO)) w.heap.size STO (stC st (.slice ka kn kc) (.slice ta tn tc)) ∧ Below w.heap.size w (w.alloc (.cells (stC st (.slice ka kn kc) (.slice ta tn tc)) STO))) := Lib.hid ⟨Blk.new _ _ _, below_alloc _ _⟩
  have q1 : (w.alloc (.cells (stC st (.slice ka kn kc) (.slice ta tn tc)) STO)).cell? ⟨w.heap.size, 1, none⟩ = some (.int .i64 st.op) := HBO.out.1.cell (i := 1) rfl
  have HFO := Lib.hid hf
  have HRT := Lib.hid (fun w' h => right_any (st := st) (ka := ka) (kn := kn) (kc := kc) (ta := ta) (tn := tn) (tc := tc) 102 w' (by decide) h)
  have HFT := Lib.hid (fun w' h => fits_any (st := st) (ka := ka) (kn := kn) (kc := kc) (ta := ta) (tn := tn) (tc := tc) 102 (n : Int) w' (by decide) h (by have := HL.out.1; omega) (by omega))
  rw [hR] at HRT
  rw [hF] at HFT
  have hw : wideK st 102 = false := rfl
  have HPK : Hid (putK L st = (L ++ [UInt8.ofNat (st.op : Int).toNat] ++ putB (u64N (st.pool)) 2 ++ putB (u64N (st.var * 256)) 2, 0)) := Lib.hid (by
    unfold putK
    rw [hf, hl.1, if_neg (by decide), if_neg (by rw [hR]; decide), if_neg (by rw [hF]; decide)]
    simp [headK, bodyK, opcK, widK, hw])
  have HOP : Hid (0 ≤ (st.op : Int) ∧ (st.op : Int) < 256) := Lib.hid (op_rng (by omega))
  have gw : IntKind.u8.wrap (st.op : Int) = st.op := IntWalk.u8_in _ (by have := HOP.out; omega)
  have HWD := Lib.hid (fun w' => wide_any (st := st) (ka := ka) (kn := kn) (kc := kc) (ta := ta) (tn := tn) (tc := tc) 102 w' (by decide))
  rw [hw] at HWD
  have hv : 1 ≤ st.var ∧ st.var ≤ 255 := by have h1 := hR; unfold rightK at h1; rw [if_pos (by decide)] at h1; simpa using h1
  clear hf hR hF hw h hl hr
  go_enter Try.func22, Try.ntmps22
  go_wp2_with fail
  refine (form_any st.op _).mono ?_
  rintro e w2 ⟨rfl, hb2⟩
  have HB2 : Hid (Blk w2 o STO (stC st (.slice ka kn kc) (.slice ta tn tc)) ∧ Below w.heap.size w w2) := Lib.hid ⟨by rw [ho]; exact HBO.out.1.below hb2, HBO.out.2.trans (hb2.mono HBO.out.2.size)⟩
  rw [← ho]
  clear ho hb2 HBO q1
  rw [HFO.out]
  go_wp2_with (refine wpList_load_row rfl _ _ rfl _ rfl _ _ _ _ HB2.out.1 Try.underlying48 rfl size_sto8 ?_)
  refine (HRT.out w2 (HK.out.later HB2.out.2)).mono ?_
  rintro e w3 ⟨rfl, hb3⟩
  have HB3 := Lib.hid (And.intro (HB2.out.1.below hb3) (HB2.out.2.trans (hb3.mono HB2.out.2.size)))
  clear hb3 HB2
  go_wp2_with (refine wpList_load_row rfl _ _ rfl _ rfl _ _ _ _ HB3.out.1 Try.underlying48 rfl size_sto8 ?_)
  refine (HFT.out w3 (HK.out.later HB3.out.2)).mono ?_
  rintro e w4 ⟨rfl, hb4⟩
  have HB4 := Lib.hid (And.intro (HB3.out.1.below hb4) (HB3.out.2.trans (hb4.mono HB3.out.2.size)))
  clear hb4 HB3
  have HX0 : Hid (w4.cell? ⟨o, 1, none⟩ = some (.int .i64 st.op)) := Lib.hid (HB4.out.1.cell (i := 1) rfl)
  go_upto_region 8 with fail
  go_cut [8, 9, 10] (fun x8 x9 x10 wr => x9 = .int .i64 1 ∧ x10 = .int .i64 st.op ∧ ∃ g, x8 = .pointer (some ⟨g, 0, none⟩) ∧ Hid (KS w wr w.heap.size g o L (stC st (.slice ka kn kc) (.slice ta tn tc)) ∧ NeO wr g o))
  case first =>
    have cs0 := HX0.out
    go_region_held3 (fun w' => w'.cell? ⟨o, 1, none⟩ = some (.int .i64 st.op))
      (first | exact cs0 | exact cs1 | exact cs2 | go_keep)
      (first | (refine step_out w.heap.size (by rfl) _ _ (by rfl) (by rfl) (by first | exact heap_a0 _ _ | exact heap_a1 _ _ _ | exact heap_a2 _ _ _) (by rfl) HL.out.1.1 ((HL.out.2.below HB4.out.2).below (w := w4) (by repeat (first | exact Below.refl _ _ | refine Below.drew ?_ | refine Below.alloc ?_ (by simp <;> omega) _))) (by have := HL.out.1.2; omega) (by have := HB4.out.2.size; simp; omega) ?_; intro pO cO wO hbO hB0 hnb; have hbz : Below w4.heap.size w4 wO := (by refine Below.trans ?_ (hB0.mono (by simp <;> omega)); repeat (first | exact Below.refl _ _ | refine Below.drew ?_ | refine Below.alloc ?_ (by simp <;> omega) _)); have cs1 : wO.cell? ⟨o, 1, none⟩ = some (.int .i64 st.op) := (HB4.out.1.below hbz).cell (i := 1) rfl; first | (have hbx : Blk wO (w4.heap.size + 1) BSL #[.slice none 0 0] := Blk.below (heap_a2 w4 _ _) hB0; have cgx := hbx.cell (i := 0) rfl; have fgx := hbx.frozen 0; have cs2 : (wO.setCell ⟨w4.heap.size + 1, 0, none⟩ (.slice pO n cO)).cell? ⟨o, 1, none⟩ = some (.int .i64 st.op) := ((HB4.out.1.below hbz).setCell_ne (by have := HB4.out.1.lt; have := hbz.size; simp only; omega) _).cell (i := 1) rfl) | (have hbx : Blk wO w4.heap.size BSL #[.slice none 0 0] := Blk.below (heap_a1 w4 _ _) hB0; have cgx := hbx.cell (i := 0) rfl; have fgx := hbx.frozen 0; have cs2 : (wO.setCell ⟨w4.heap.size, 0, none⟩ (.slice pO n cO)).cell? ⟨o, 1, none⟩ = some (.int .i64 st.op) := ((HB4.out.1.below hbz).setCell_ne (by have := HB4.out.1.lt; have := hbz.size; simp only; omega) _).cell (i := 1) rfl) | (have cs2 : ((wO.alloc (.cells #[.slice none 0 0] BSL)).setCell ⟨wO.heap.size, 0, none⟩ (.slice pO n cO)).cell? ⟨o, 1, none⟩ = some (.int .i64 st.op) := (((HB4.out.1.below hbz).alloc _).setCell_ne (by have := HB4.out.1.lt; have := hbz.size; simp only; omega) _).cell (i := 1) rfl)) | fail)
    all_goals (try go_wp2)
    · go_meet
      exact ⟨rfl, rfl, _, rfl, Lib.hid (KS.ofNew HB4.out hbz hbO hnb)⟩
    · go_meet
      exact ⟨rfl, rfl, _, rfl, Lib.hid (KS.ofBox HB4.out hbz (by omega) hbx hbO hnb)⟩
    · go_meet
      exact ⟨rfl, rfl, _, rfl, Lib.hid (KS.ofBox HB4.out hbz (by omega) hbx hbO hnb)⟩
  case rest =>
    obtain ⟨rfl, rfl, g, rfl, HS⟩ := hcut
    clear HB4 HX0 HRT HFT
    go_wp2_with (refine wpList_load_row rfl _ _ rfl _ rfl _ _ _ _ HS.out.1.2.1 Try.underlying48 rfl size_sto8 ?_)
    refine (HWD.out wc).mono ?_
    rintro e w5 ⟨rfl, hb5⟩
    skip
    obtain ⟨p5, n5, c5, hk5⟩ := K4.ex (HS.out.1.below hb5) (HS.out.2.below hb5 (by obtain ⟨-, p, n, c, hb, -⟩ := HS.out.1.1; exact hb.lt))
    have HA1 := Lib.hid (hk5.alloc (.cells #[.int .u8 (st.op : Int)] U8))
    have q0 : w5.cell? ⟨g, 0, none⟩ = some (.slice p5 n5 c5) := hk5.2.2.1.cell rfl
    clear hb5 HS hk5
    go_wp2_with (at_builtin; refine wpList_catB2 (base := w.heap.size) (wz := (w5.alloc (.cells #[.int .u8 st.op] U8))) slByte rfl rfl _ _ rfl rfl HA1.out.2.2.2 (Below.refl _ _) rfl (k := [UInt8.ofNat (st.op : Int).toNat]) rfl (rd_new w5 _ _ _ _ (one_row HOP.out)) (fun _ _ => rfl) (by have h := HA1.out.2.2.2.len; have h2 := HL.out.1; (try simp only [List.length_append, List.length_cons, List.length_nil] at h); (try unfold maxLen); omega) (by have h := HA1.out.2.2.2.len; have h2 := HL.out.1; (try simp only [List.length_append, List.length_cons, List.length_nil] at h); (try unfold maxLen); omega) HA1.out.1.2.2.2.2.1 ?_; intro pp1 cp1 wp1 hbuf hB keep; have HP := K4.push HA1.out hbuf (by simp) hB keep; have qp1 := HP.2.1; have fp1 := HP.2.2; have HB1 := Lib.hid HP.1; clear hbuf hB keep; have qf12 : (wp1.setCell ⟨g, 0, none⟩ (.slice pp1 (n5 + 1) cp1)).cell? ⟨o, 2, none⟩ = some (.int .i64 st.var) := HP.1.1.2.1.cell (i := 2) rfl; have qf14 : (wp1.setCell ⟨g, 0, none⟩ (.slice pp1 (n5 + 1) cp1)).cell? ⟨o, 4, none⟩ = some (.int .i64 st.pool) := HP.1.1.2.1.cell (i := 4) rfl; clear HP)
    obtain ⟨w7, hw7⟩ : ∃ w7, w7 = (wp1.setCell ⟨g, 0, none⟩ (.slice pp1 (n5 + 1) cp1)) := ⟨_, rfl⟩
    rw [← hw7] at HB1 ⊢
    have HS7 := Lib.hid HB1.out.1
    clear hw7 q0 HA1 HB1 qf12 qf14
    refine (put1_any g w.heap.size _ (st.pool) 2 (.inr (.inl rfl)) w7 HS7.out.1 (by have := HL.out.1; simp only [List.length_append, List.length_cons, List.length_nil, putB_len1, putB_len2]; omega) HS7.out.2.2.2.2.1).mono ?_
    rintro e w8 ⟨rfl, hv8, hg8⟩
    have HS8 := Lib.hid (HS7.out.step hv8 hg8)
    clear hv8 hg8 HS7
    have qn8 : w8.cell? ⟨o, 2, none⟩ = some (.int .i64 st.var) := HS8.out.2.1.cell (i := 2) rfl
    go_wp2_with fail
    clear qn8
    refine (put1_any g w.heap.size _ (st.var * 256) 2 (.inr (.inl rfl)) w8 HS8.out.1 (by have := HL.out.1; simp only [List.length_append, List.length_cons, List.length_nil, putB_len1, putB_len2]; omega) HS8.out.2.2.2.2.1).mono ?_
    rintro e w9 ⟨rfl, hv8, hg8⟩
    have HS9 := Lib.hid (HS8.out.step hv8 hg8)
    clear hv8 hg8 HS8
    obtain ⟨p8, n8, c8, hk8⟩ := K4.ex HS9.out (HS9.out.neo (by simp <;> omega))
    have q8 : w9.cell? ⟨g, 0, none⟩ = some (.slice p8 n8 c8) := hk8.2.2.1.cell rfl
    have HF8 := Lib.hid hk8.2.2.2
    clear hk8
    go_wp2
    go_ret2
    exact ⟨_, _, _, by rw [HPK.out] <;> rfl, by rw [HPK.out]; exact HF8.out.len, by rw [HPK.out]; exact HF8.out.rd, HS9.out.2.2.1⟩
end
end Go.Proofs.Ytgcdeadfkljeaaa
