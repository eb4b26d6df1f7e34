/- Writing instructions: Put, form by form (116, 108). -/
import Derived.Test.YtgcdeadfkljeaaaOpsT
namespace Go.Proofs.Ytgcdeadfkljeaaa
open Go.RowKit
set_option linter.unusedVariables false
set_option linter.unusedSimpArgs false

section
variable {st : StepK} {ka : Option Addr} {kn kc : Nat} {ta : Option Addr} {tn tc : Nat}
theorem putB_len4 (v : Nat) : (putB v (4 : Nat)).length = 4 := by unfold putB; rw [if_pos (by decide)]; simp [littleL_length]
set_option maxRecDepth 100000 in
set_option maxHeartbeats 8000000 in
theorem put_108 (p : Option Addr) (n c : Nat) (L : List UInt8) (w : World) (h : StvOk w st ka kn kc ta tn tc) (hl : L.length = n ∧ n ≤ 1000000) (hr : Rd w bE p L) (hf : formI st.op = 108) (hR : rightK st 108 = true) (hF : fitsK st 108 (n : Int) = true) (hkt : kn = tn) : Calls Try.prog 22 #[.slice p n c, stV st ka kn kc ta tn tc] w (PutPost w L st) := by
  have mixed : Try.prog.follows .mixedOrders = true := by kernel_rfl
  have HK := Lib.hid h
  have HL := Lib.hid (And.intro hl hr)
  obtain ⟨o, ho⟩ : ∃ o, o = w.heap.size := ⟨_, rfl⟩
  have HBO : Hid (Blk (w.alloc (.cells (stC st (.slice ka kn kc) (.slice ta tn tc)) STO)) w.heap.size STO (stC st (.slice ka kn kc) (.slice ta tn tc)) ∧ Below w.heap.size w (w.alloc (.cells (stC st (.slice ka kn kc) (.slice ta tn tc)) STO))) := Lib.hid ⟨Blk.new _ _ _, below_alloc _ _⟩
  have q1 : (w.alloc (.cells (stC st (.slice ka kn kc) (.slice ta tn tc)) STO)).cell? ⟨w.heap.size, 1, none⟩ = some (.int .i64 st.op) := HBO.out.1.cell (i := 1) rfl
  have HFO := Lib.hid hf
  have HRT := Lib.hid (fun w' h => right_any (st := st) (ka := ka) (kn := kn) (kc := kc) (ta := ta) (tn := tn) (tc := tc) 108 w' (by decide) h)
  have HFT := Lib.hid (fun w' h => fits_any (st := st) (ka := ka) (kn := kn) (kc := kc) (ta := ta) (tn := tn) (tc := tc) 108 (n : Int) w' (by decide) h (by have := HL.out.1; omega) (by omega))
  rw [hR] at HRT
  rw [hF] at HFT
  have hw : wideK st 108 = false := rfl
  have HPK : Hid (putK L st = (L ++ [UInt8.ofNat st.op.toNat] ++ List.replicate (nghK n) 0 ++ putB (u64N (st.goal - (n : Int))) 4 ++ keysL 108 (n : Int) st.keys st.tgts, 0)) := Lib.hid (by
    unfold putK
    rw [hf, hl.1, if_neg (by decide), if_neg (by rw [hR]; decide), if_neg (by rw [hF]; decide)]
    simp [headK, bodyK, opcK, widK, hw, p4])
  have HOP : Hid (0 ≤ (st.op : Int) ∧ (st.op : Int) < 256) := Lib.hid (op_rng (by omega))
  have gw : IntKind.u8.wrap (st.op : Int) = st.op := IntWalk.u8_in _ (by have := HOP.out; omega)
  have HWD := Lib.hid (fun w' => wide_any (st := st) (ka := ka) (kn := kn) (kc := kc) (ta := ta) (tn := tn) (tc := tc) 108 w' (by decide))
  rw [hw] at HWD
  have gs : IntKind.i64.wrap (st.goal - (n : Int)) = st.goal - (n : Int) := IntWalk.i64_in _ (by have := h.gr; omega)
  have HKT := Lib.hid hkt
  clear hkt
  clear hf hR hF hw h hl hr
  go_enter Try.func22, Try.ntmps22
  go_wp2_with fail
  refine (form_any st.op _).mono ?_
  rintro e w2 ⟨rfl, hb2⟩
  have HB2 : Hid (Blk w2 o STO (stC st (.slice ka kn kc) (.slice ta tn tc)) ∧ Below w.heap.size w w2) := Lib.hid ⟨by rw [ho]; exact HBO.out.1.below hb2, HBO.out.2.trans (hb2.mono HBO.out.2.size)⟩
  rw [← ho]
  clear ho hb2 HBO q1
  rw [HFO.out]
  go_wp2_with (refine wpList_load_row rfl _ _ rfl _ rfl _ _ _ _ HB2.out.1 Try.underlying48 rfl size_sto8 ?_)
  refine (HRT.out w2 (HK.out.later HB2.out.2)).mono ?_
  rintro e w3 ⟨rfl, hb3⟩
  have HB3 := Lib.hid (And.intro (HB2.out.1.below hb3) (HB2.out.2.trans (hb3.mono HB2.out.2.size)))
  clear hb3 HB2
  go_wp2_with (refine wpList_load_row rfl _ _ rfl _ rfl _ _ _ _ HB3.out.1 Try.underlying48 rfl size_sto8 ?_)
  refine (HFT.out w3 (HK.out.later HB3.out.2)).mono ?_
  rintro e w4 ⟨rfl, hb4⟩
  have HB4 := Lib.hid (And.intro (HB3.out.1.below hb4) (HB3.out.2.trans (hb4.mono HB3.out.2.size)))
  clear hb4 HB3
  have HX0 : Hid (w4.cell? ⟨o, 1, none⟩ = some (.int .i64 st.op)) := Lib.hid (HB4.out.1.cell (i := 1) rfl)
  go_upto_region 8 with fail
  go_cut [8, 9, 10] (fun x8 x9 x10 wr => x9 = .int .i64 1 ∧ x10 = .int .i64 st.op ∧ ∃ g, x8 = .pointer (some ⟨g, 0, none⟩) ∧ Hid (KS w wr w.heap.size g o L (stC st (.slice ka kn kc) (.slice ta tn tc)) ∧ NeO wr g o))
  case first =>
    have cs0 := HX0.out
    go_region_held3 (fun w' => w'.cell? ⟨o, 1, none⟩ = some (.int .i64 st.op))
      (first | exact cs0 | exact cs1 | exact cs2 | go_keep)
      (first | (refine step_out w.heap.size (by rfl) _ _ (by rfl) (by rfl) (by first | exact heap_a0 _ _ | exact heap_a1 _ _ _ | exact heap_a2 _ _ _) (by rfl) HL.out.1.1 ((HL.out.2.below HB4.out.2).below (w := w4) (by repeat (first | exact Below.refl _ _ | refine Below.drew ?_ | refine Below.alloc ?_ (by simp <;> omega) _))) (by have := HL.out.1.2; omega) (by have := HB4.out.2.size; simp; omega) ?_; intro pO cO wO hbO hB0 hnb; have hbz : Below w4.heap.size w4 wO := (by refine Below.trans ?_ (hB0.mono (by simp <;> omega)); repeat (first | exact Below.refl _ _ | refine Below.drew ?_ | refine Below.alloc ?_ (by simp <;> omega) _)); have cs1 : wO.cell? ⟨o, 1, none⟩ = some (.int .i64 st.op) := (HB4.out.1.below hbz).cell (i := 1) rfl; first | (have hbx : Blk wO (w4.heap.size + 1) BSL #[.slice none 0 0] := Blk.below (heap_a2 w4 _ _) hB0; have cgx := hbx.cell (i := 0) rfl; have fgx := hbx.frozen 0; have cs2 : (wO.setCell ⟨w4.heap.size + 1, 0, none⟩ (.slice pO n cO)).cell? ⟨o, 1, none⟩ = some (.int .i64 st.op) := ((HB4.out.1.below hbz).setCell_ne (by have := HB4.out.1.lt; have := hbz.size; simp only; omega) _).cell (i := 1) rfl) | (have hbx : Blk wO w4.heap.size BSL #[.slice none 0 0] := Blk.below (heap_a1 w4 _ _) hB0; have cgx := hbx.cell (i := 0) rfl; have fgx := hbx.frozen 0; have cs2 : (wO.setCell ⟨w4.heap.size, 0, none⟩ (.slice pO n cO)).cell? ⟨o, 1, none⟩ = some (.int .i64 st.op) := ((HB4.out.1.below hbz).setCell_ne (by have := HB4.out.1.lt; have := hbz.size; simp only; omega) _).cell (i := 1) rfl) | (have cs2 : ((wO.alloc (.cells #[.slice none 0 0] BSL)).setCell ⟨wO.heap.size, 0, none⟩ (.slice pO n cO)).cell? ⟨o, 1, none⟩ = some (.int .i64 st.op) := (((HB4.out.1.below hbz).alloc _).setCell_ne (by have := HB4.out.1.lt; have := hbz.size; simp only; omega) _).cell (i := 1) rfl)) | fail)
    all_goals (try go_wp2)
    · go_meet
      exact ⟨rfl, rfl, _, rfl, Lib.hid (KS.ofNew HB4.out hbz hbO hnb)⟩
    · go_meet
      exact ⟨rfl, rfl, _, rfl, Lib.hid (KS.ofBox HB4.out hbz (by omega) hbx hbO hnb)⟩
    · go_meet
      exact ⟨rfl, rfl, _, rfl, Lib.hid (KS.ofBox HB4.out hbz (by omega) hbx hbO hnb)⟩
  case rest =>
    obtain ⟨rfl, rfl, g, rfl, HS⟩ := hcut
    clear HB4 HX0 HRT HFT
    go_wp2_with (refine wpList_load_row rfl _ _ rfl _ rfl _ _ _ _ HS.out.1.2.1 Try.underlying48 rfl size_sto8 ?_)
    refine (HWD.out wc).mono ?_
    rintro e w5 ⟨rfl, hb5⟩
    skip
    obtain ⟨p5, n5, c5, hk5⟩ := K4.ex (HS.out.1.below hb5) (HS.out.2.below hb5 (by obtain ⟨-, p, n, c, hb, -⟩ := HS.out.1.1; exact hb.lt))
    have HA1 := Lib.hid (hk5.alloc (.cells #[.int .u8 (st.op : Int)] U8))
    have q0 : w5.cell? ⟨g, 0, none⟩ = some (.slice p5 n5 c5) := hk5.2.2.1.cell rfl
    clear hb5 HS hk5
    go_wp2_with (at_builtin; refine wpList_catB2 (base := w.heap.size) (wz := (w5.alloc (.cells #[.int .u8 st.op] U8))) slByte rfl rfl _ _ rfl rfl HA1.out.2.2.2 (Below.refl _ _) rfl (k := [UInt8.ofNat (st.op : Int).toNat]) rfl (rd_new w5 _ _ _ _ (one_row HOP.out)) (fun _ _ => rfl) (by have h := HA1.out.2.2.2.len; have h2 := HL.out.1; (try simp only [List.length_append, List.length_cons, List.length_nil] at h); (try unfold maxLen); omega) (by have h := HA1.out.2.2.2.len; have h2 := HL.out.1; (try simp only [List.length_append, List.length_cons, List.length_nil] at h); (try unfold maxLen); omega) HA1.out.1.2.2.2.2.1 ?_; intro pp1 cp1 wp1 hbuf hB keep; have HP := K4.push HA1.out hbuf (by simp) hB keep; have qp1 := HP.2.1; have fp1 := HP.2.2; have HB1 := Lib.hid HP.1; clear hbuf hB keep; have qf15 : (wp1.setCell ⟨g, 0, none⟩ (.slice pp1 (n5 + 1) cp1)).cell? ⟨o, 5, none⟩ = some (.int .i64 st.goal) := HP.1.1.2.1.cell (i := 5) rfl; clear HP)
    have gna : (n : Int) ≤ 1000000000 := by have := HL.out.1; omega
    obtain ⟨w7, hw7⟩ : ∃ w7, w7 = wp1.setCell ⟨g, 0, none⟩ (.slice pp1 (n5 + 1) cp1) := ⟨_, rfl⟩
    rw [← hw7] at HB1 ⊢
    clear hw7 q0 HA1 qf15 qp1 fp1
    have HX7 : Hid (w7.cell? ⟨g, 0, none⟩ = some (.slice pp1 (n5 + 1) cp1)) := Lib.hid (HB1.out.2.2.1.cell rfl)
    refine wp_region_growT 3 (by kernel_rfl) (by kernel_rfl) (by rfl) (by kernel_rfl) ?_
    refine gw_valB (fun v _ => v = .slice pp1 (n5 + 1) cp1) (mono_eq _) ?_ ?_
    · intro a' w' hb' hk
      refine ⟨wanted_none rfl, _, ?_, rfl⟩
      have q0 := (hb'.cell (World.block_lt_of_cell? w7.drew _ HX7.out)).trans HX7.out
      simp [Oper.looksAt, Op.operands, Call.operands, KnownAt, List.lookup, consD] at hk
      simp [execOp, Act.eval, hk, q0, go_sem]
      all_goals rfl
    apply gw_val
    · intro a' w' hk
      refine ⟨wanted_none rfl, ?_⟩
      simp [Oper.looksAt, Op.operands, Call.operands, KnownAt, List.lookup, consD] at hk
      simp [execOp, Act.eval, hk, go_sem]
      all_goals rfl
    refine gw_call 53 #[.int .i64 (n : Int)] (fun v _ => v = .int .i64 ((nghK n : Nat) : Int)) (mono_eq _) (fun a' w' hk => ?_) (fun w' hb => (noughts_any n w' (by have := HL.out.1; omega)).mono ?_) ?_
    · refine ⟨wanted_none rfl, ?_⟩
      simp [Oper.looksAt, Op.operands, Call.operands, KnownAt, List.lookup, consD] at hk
      simp [execOp, Act.eval, hk, go_sem]
      all_goals rfl
    · rintro e w'' ⟨rfl, rfl⟩
      exact ⟨_, rfl, rfl, Below.refl _ _⟩
    intro vs w8 hb8 hall _
    simp only [AllS, consD] at hall
    simp only [consD, putAllS, Act.put]
    obtain ⟨e147, e146, e145, -⟩ := hall
    rw [e147, e146, e145]
    clear e147 e146 e145
    simp only [List.drop_succ_cons, List.drop_zero, List.setIfInBounds_toArray, List.set_cons_succ, List.set_cons_zero]
    have hbq : Below w7.heap.size w7 w8 := ((Below.refl w7.heap.size w7).drew).trans hb8
    have HB8 : Hid (K4 w w8 g o (L ++ [UInt8.ofNat st.op.toNat]) (stC st (.slice ka kn kc) (.slice ta tn tc)) pp1 (n5 + 1) cp1) := Lib.hid ⟨HB1.out.1.below hbq, NeO.below HB1.out.2.1 hbq HB1.out.2.2.1.lt, HB1.out.2.2.1.below hbq, HB1.out.2.2.2.below hbq⟩
    have hngh : nghK n ≤ 3 := by unfold nghK; omega
    clear hb8 hbq HB1 HX7
    refine wpList_zerosB (B := w.heap.size) (wz := w8) rfl _ _ Try.underlying3 rfl rfl HB8.out.2.2.2 (Below.refl _ _) (nghK n) rfl (by have h := HB8.out.2.2.2.len; rw [List.length_append, List.length_singleton] at h; have := HL.out.1; omega) HB8.out.1.2.2.2.2.1 ?_
    intro p9 c9 w9 hbuf hB keep
    have HP := K4.pushN HB8.out hbuf (by simp <;> omega) hB keep
    have q9 := HP.2.1
    have f9 := HP.2.2
    have HB9 := Lib.hid HP.1
    have q95 : (w9.setCell ⟨g, 0, none⟩ (.slice p9 (n5 + 1 + nghK n) c9)).cell? ⟨o, 5, none⟩ = some (.int .i64 st.goal) := HP.1.1.2.1.cell (i := 5) rfl
    clear hbuf hB keep HP HB8
    go_wp2_with fail
    obtain ⟨wa, hwa⟩ : ∃ wa, wa = w9.setCell ⟨g, 0, none⟩ (.slice p9 (n5 + 1 + nghK n) c9) := ⟨_, rfl⟩
    rw [← hwa] at HB9 ⊢
    clear hwa q9 f9 q95
    have HSa := Lib.hid HB9.out.1
    clear HB9
    refine (put1_any g w.heap.size _ (st.goal - (n : Int)) 4 (.inr (.inr rfl)) wa HSa.out.1 (by have := HL.out.1; simp only [List.length_append, List.length_cons, List.length_nil, List.length_replicate]; omega) HSa.out.2.2.2.2.1).mono ?_
    rintro e wb ⟨rfl, hv8, hg8⟩
    have HSb := Lib.hid (HSa.out.step hv8 hg8)
    clear hv8 hg8 HSa
    obtain ⟨p8, n8, c8, hk8⟩ := K4.ex HSb.out (HSb.out.neo (by simp <;> omega))
    have HKB := Lib.hid hk8
    have q8 : wb.cell? ⟨g, 0, none⟩ = some (.slice p8 n8 c8) := hk8.2.2.1.cell rfl
    clear hk8 HSb
    go_wp2_with (refine wpList_load_row rfl _ _ rfl _ rfl _ _ _ _ HKB.out.1.2.1 Try.underlying48 rfl size_sto8 ?_)
    refine (keys_108 w.heap.size p8 n8 c8 _ (n : Int) wb (HK.out.later HKB.out.1.2.2.1) HKT.out HKB.out.1.2.2.2.2.1 HKB.out.2.2.2 ⟨by simp <;> omega, by have := HL.out.1; simp only [List.length_append, List.length_cons, List.length_nil, List.length_replicate, putB_len4]; omega⟩ (by have := HL.out.1; omega)).mono ?_
    rintro e wc2 ⟨pd, nd, cd, rfl, hbd, hBd⟩
    have hbx := HKB.out.2.2.1.below hBd
    have qx : wc2.cell? ⟨g, 0, none⟩ = some (.slice p8 n8 c8) := hbx.cell rfl
    have fx := hbx.frozen 0
    have HFB : Hid (Buf (wc2.setCell ⟨g, 0, none⟩ (.slice pd nd cd)) w.heap.size U8 bE pd nd cd _) := Lib.hid (hbd.kept (rd_ne_box hbd.rd (by simp <;> omega) hbx) (grownBy_setCell wc2 _ _))
    have HFW : Hid (Below w.heap.size w (wc2.setCell ⟨g, 0, none⟩ (.slice pd nd cd))) := Lib.hid ((HKB.out.1.2.2.1.trans (hBd.mono HKB.out.1.2.2.1.size)).setCell HKB.out.1.2.2.2.1 _)
    clear hbx hbd hBd q8
    go_wp2
    go_ret2
    exact ⟨_, _, _, by rw [HPK.out] <;> rfl, by rw [HPK.out]; exact HFB.out.len, by rw [HPK.out]; exact HFB.out.rd, HFW.out⟩
set_option maxRecDepth 100000 in
set_option maxHeartbeats 8000000 in
theorem put_116 (p : Option Addr) (n c : Nat) (L : List UInt8) (w : World) (h : StvOk w st ka kn kc ta tn tc) (hl : L.length = n ∧ n ≤ 1000000) (hr : Rd w bE p L) (hf : formI st.op = 116) (hR : rightK st 116 = true) (hF : fitsK st 116 (n : Int) = true) (hkt : kn = tn) (h0 : st.keys ≠ []) : Calls Try.prog 22 #[.slice p n c, stV st ka kn kc ta tn tc] w (PutPost w L st) := by
  have mixed : Try.prog.follows .mixedOrders = true := by kernel_rfl
  have HK := Lib.hid h
  have HL := Lib.hid (And.intro hl hr)
  obtain ⟨o, ho⟩ : ∃ o, o = w.heap.size := ⟨_, rfl⟩
  have HBO : Hid (Blk (w.alloc (.cells (stC st (.slice ka kn kc) (.slice ta tn tc)) STO)) w.heap.size STO (stC st (.slice ka kn kc) (.slice ta tn tc)) ∧ Below w.heap.size w (w.alloc (.cells (stC st (.slice ka kn kc) (.slice ta tn tc)) STO))) := Lib.hid ⟨Blk.new _ _ _, below_alloc _ _⟩
  have q1 : (w.alloc (.cells (stC st (.slice ka kn kc) (.slice ta tn tc)) STO)).cell? ⟨w.heap.size, 1, none⟩ = some (.int .i64 st.op) := HBO.out.1.cell (i := 1) rfl
  have HFO := Lib.hid hf
  have HRT := Lib.hid (fun w' h => right_any (st := st) (ka := ka) (kn := kn) (kc := kc) (ta := ta) (tn := tn) (tc := tc) 116 w' (by decide) h)
  have HFT := Lib.hid (fun w' h => fits_any (st := st) (ka := ka) (kn := kn) (kc := kc) (ta := ta) (tn := tn) (tc := tc) 116 (n : Int) w' (by decide) h (by have := HL.out.1; omega) (by omega))
  rw [hR] at HRT
  rw [hF] at HFT
  have hw : wideK st 116 = false := rfl
  have HPK : Hid (putK L st = (L ++ [UInt8.ofNat st.op.toNat] ++ List.replicate (nghK n) 0 ++ putB (u64N (st.goal - (n : Int))) 4 ++ keysL 116 (n : Int) st.keys st.tgts, 0)) := Lib.hid (by
    unfold putK
    rw [hf, hl.1, if_neg (by decide), if_neg (by rw [hR]; decide), if_neg (by rw [hF]; decide)]
    simp [headK, bodyK, opcK, widK, hw, p4])
  have HOP : Hid (0 ≤ (st.op : Int) ∧ (st.op : Int) < 256) := Lib.hid (op_rng (by omega))
  have gw : IntKind.u8.wrap (st.op : Int) = st.op := IntWalk.u8_in _ (by have := HOP.out; omega)
  have HWD := Lib.hid (fun w' => wide_any (st := st) (ka := ka) (kn := kn) (kc := kc) (ta := ta) (tn := tn) (tc := tc) 116 w' (by decide))
  rw [hw] at HWD
  have gs : IntKind.i64.wrap (st.goal - (n : Int)) = st.goal - (n : Int) := IntWalk.i64_in _ (by have := h.gr; omega)
  have HKT := Lib.hid hkt
  clear hkt
  have HZ := Lib.hid h0
  clear h0
  clear hf hR hF hw h hl hr
  go_enter Try.func22, Try.ntmps22
  go_wp2_with fail
  refine (form_any st.op _).mono ?_
  rintro e w2 ⟨rfl, hb2⟩
  have HB2 : Hid (Blk w2 o STO (stC st (.slice ka kn kc) (.slice ta tn tc)) ∧ Below w.heap.size w w2) := Lib.hid ⟨by rw [ho]; exact HBO.out.1.below hb2, HBO.out.2.trans (hb2.mono HBO.out.2.size)⟩
  rw [← ho]
  clear ho hb2 HBO q1
  rw [HFO.out]
  go_wp2_with (refine wpList_load_row rfl _ _ rfl _ rfl _ _ _ _ HB2.out.1 Try.underlying48 rfl size_sto8 ?_)
  refine (HRT.out w2 (HK.out.later HB2.out.2)).mono ?_
  rintro e w3 ⟨rfl, hb3⟩
  have HB3 := Lib.hid (And.intro (HB2.out.1.below hb3) (HB2.out.2.trans (hb3.mono HB2.out.2.size)))
  clear hb3 HB2
  go_wp2_with (refine wpList_load_row rfl _ _ rfl _ rfl _ _ _ _ HB3.out.1 Try.underlying48 rfl size_sto8 ?_)
  refine (HFT.out w3 (HK.out.later HB3.out.2)).mono ?_
  rintro e w4 ⟨rfl, hb4⟩
  have HB4 := Lib.hid (And.intro (HB3.out.1.below hb4) (HB3.out.2.trans (hb4.mono HB3.out.2.size)))
  clear hb4 HB3
  have HX0 : Hid (w4.cell? ⟨o, 1, none⟩ = some (.int .i64 st.op)) := Lib.hid (HB4.out.1.cell (i := 1) rfl)
  go_upto_region 8 with fail
  go_cut [8, 9, 10] (fun x8 x9 x10 wr => x9 = .int .i64 1 ∧ x10 = .int .i64 st.op ∧ ∃ g, x8 = .pointer (some ⟨g, 0, none⟩) ∧ Hid (KS w wr w.heap.size g o L (stC st (.slice ka kn kc) (.slice ta tn tc)) ∧ NeO wr g o))
  case first =>
    have cs0 := HX0.out
    go_region_held3 (fun w' => w'.cell? ⟨o, 1, none⟩ = some (.int .i64 st.op))
      (first | exact cs0 | exact cs1 | exact cs2 | go_keep)
      (first | (refine step_out w.heap.size (by rfl) _ _ (by rfl) (by rfl) (by first | exact heap_a0 _ _ | exact heap_a1 _ _ _ | exact heap_a2 _ _ _) (by rfl) HL.out.1.1 ((HL.out.2.below HB4.out.2).below (w := w4) (by repeat (first | exact Below.refl _ _ | refine Below.drew ?_ | refine Below.alloc ?_ (by simp <;> omega) _))) (by have := HL.out.1.2; omega) (by have := HB4.out.2.size; simp; omega) ?_; intro pO cO wO hbO hB0 hnb; have hbz : Below w4.heap.size w4 wO := (by refine Below.trans ?_ (hB0.mono (by simp <;> omega)); repeat (first | exact Below.refl _ _ | refine Below.drew ?_ | refine Below.alloc ?_ (by simp <;> omega) _)); have cs1 : wO.cell? ⟨o, 1, none⟩ = some (.int .i64 st.op) := (HB4.out.1.below hbz).cell (i := 1) rfl; first | (have hbx : Blk wO (w4.heap.size + 1) BSL #[.slice none 0 0] := Blk.below (heap_a2 w4 _ _) hB0; have cgx := hbx.cell (i := 0) rfl; have fgx := hbx.frozen 0; have cs2 : (wO.setCell ⟨w4.heap.size + 1, 0, none⟩ (.slice pO n cO)).cell? ⟨o, 1, none⟩ = some (.int .i64 st.op) := ((HB4.out.1.below hbz).setCell_ne (by have := HB4.out.1.lt; have := hbz.size; simp only; omega) _).cell (i := 1) rfl) | (have hbx : Blk wO w4.heap.size BSL #[.slice none 0 0] := Blk.below (heap_a1 w4 _ _) hB0; have cgx := hbx.cell (i := 0) rfl; have fgx := hbx.frozen 0; have cs2 : (wO.setCell ⟨w4.heap.size, 0, none⟩ (.slice pO n cO)).cell? ⟨o, 1, none⟩ = some (.int .i64 st.op) := ((HB4.out.1.below hbz).setCell_ne (by have := HB4.out.1.lt; have := hbz.size; simp only; omega) _).cell (i := 1) rfl) | (have cs2 : ((wO.alloc (.cells #[.slice none 0 0] BSL)).setCell ⟨wO.heap.size, 0, none⟩ (.slice pO n cO)).cell? ⟨o, 1, none⟩ = some (.int .i64 st.op) := (((HB4.out.1.below hbz).alloc _).setCell_ne (by have := HB4.out.1.lt; have := hbz.size; simp only; omega) _).cell (i := 1) rfl)) | fail)
    all_goals (try go_wp2)
    · go_meet
      exact ⟨rfl, rfl, _, rfl, Lib.hid (KS.ofNew HB4.out hbz hbO hnb)⟩
    · go_meet
      exact ⟨rfl, rfl, _, rfl, Lib.hid (KS.ofBox HB4.out hbz (by omega) hbx hbO hnb)⟩
    · go_meet
      exact ⟨rfl, rfl, _, rfl, Lib.hid (KS.ofBox HB4.out hbz (by omega) hbx hbO hnb)⟩
  case rest =>
    obtain ⟨rfl, rfl, g, rfl, HS⟩ := hcut
    clear HB4 HX0 HRT HFT
    go_wp2_with (refine wpList_load_row rfl _ _ rfl _ rfl _ _ _ _ HS.out.1.2.1 Try.underlying48 rfl size_sto8 ?_)
    refine (HWD.out wc).mono ?_
    rintro e w5 ⟨rfl, hb5⟩
    skip
    obtain ⟨p5, n5, c5, hk5⟩ := K4.ex (HS.out.1.below hb5) (HS.out.2.below hb5 (by obtain ⟨-, p, n, c, hb, -⟩ := HS.out.1.1; exact hb.lt))
    have HA1 := Lib.hid (hk5.alloc (.cells #[.int .u8 (st.op : Int)] U8))
    have q0 : w5.cell? ⟨g, 0, none⟩ = some (.slice p5 n5 c5) := hk5.2.2.1.cell rfl
    clear hb5 HS hk5
    go_wp2_with (at_builtin; refine wpList_catB2 (base := w.heap.size) (wz := (w5.alloc (.cells #[.int .u8 st.op] U8))) slByte rfl rfl _ _ rfl rfl HA1.out.2.2.2 (Below.refl _ _) rfl (k := [UInt8.ofNat (st.op : Int).toNat]) rfl (rd_new w5 _ _ _ _ (one_row HOP.out)) (fun _ _ => rfl) (by have h := HA1.out.2.2.2.len; have h2 := HL.out.1; (try simp only [List.length_append, List.length_cons, List.length_nil] at h); (try unfold maxLen); omega) (by have h := HA1.out.2.2.2.len; have h2 := HL.out.1; (try simp only [List.length_append, List.length_cons, List.length_nil] at h); (try unfold maxLen); omega) HA1.out.1.2.2.2.2.1 ?_; intro pp1 cp1 wp1 hbuf hB keep; have HP := K4.push HA1.out hbuf (by simp) hB keep; have qp1 := HP.2.1; have fp1 := HP.2.2; have HB1 := Lib.hid HP.1; clear hbuf hB keep; have qf15 : (wp1.setCell ⟨g, 0, none⟩ (.slice pp1 (n5 + 1) cp1)).cell? ⟨o, 5, none⟩ = some (.int .i64 st.goal) := HP.1.1.2.1.cell (i := 5) rfl; clear HP)
    have gna : (n : Int) ≤ 1000000000 := by have := HL.out.1; omega
    obtain ⟨w7, hw7⟩ : ∃ w7, w7 = wp1.setCell ⟨g, 0, none⟩ (.slice pp1 (n5 + 1) cp1) := ⟨_, rfl⟩
    rw [← hw7] at HB1 ⊢
    clear hw7 q0 HA1 qf15 qp1 fp1
    have HX7 : Hid (w7.cell? ⟨g, 0, none⟩ = some (.slice pp1 (n5 + 1) cp1)) := Lib.hid (HB1.out.2.2.1.cell rfl)
    refine wp_region_growT 3 (by kernel_rfl) (by kernel_rfl) (by rfl) (by kernel_rfl) ?_
    refine gw_valB (fun v _ => v = .slice pp1 (n5 + 1) cp1) (mono_eq _) ?_ ?_
    · intro a' w' hb' hk
      refine ⟨wanted_none rfl, _, ?_, rfl⟩
      have q0 := (hb'.cell (World.block_lt_of_cell? w7.drew _ HX7.out)).trans HX7.out
      simp [Oper.looksAt, Op.operands, Call.operands, KnownAt, List.lookup, consD] at hk
      simp [execOp, Act.eval, hk, q0, go_sem]
      all_goals rfl
    apply gw_val
    · intro a' w' hk
      refine ⟨wanted_none rfl, ?_⟩
      simp [Oper.looksAt, Op.operands, Call.operands, KnownAt, List.lookup, consD] at hk
      simp [execOp, Act.eval, hk, go_sem]
      all_goals rfl
    refine gw_call 53 #[.int .i64 (n : Int)] (fun v _ => v = .int .i64 ((nghK n : Nat) : Int)) (mono_eq _) (fun a' w' hk => ?_) (fun w' hb => (noughts_any n w' (by have := HL.out.1; omega)).mono ?_) ?_
    · refine ⟨wanted_none rfl, ?_⟩
      simp [Oper.looksAt, Op.operands, Call.operands, KnownAt, List.lookup, consD] at hk
      simp [execOp, Act.eval, hk, go_sem]
      all_goals rfl
    · rintro e w'' ⟨rfl, rfl⟩
      exact ⟨_, rfl, rfl, Below.refl _ _⟩
    intro vs w8 hb8 hall _
    simp only [AllS, consD] at hall
    simp only [consD, putAllS, Act.put]
    obtain ⟨e147, e146, e145, -⟩ := hall
    rw [e147, e146, e145]
    clear e147 e146 e145
    simp only [List.drop_succ_cons, List.drop_zero, List.setIfInBounds_toArray, List.set_cons_succ, List.set_cons_zero]
    have hbq : Below w7.heap.size w7 w8 := ((Below.refl w7.heap.size w7).drew).trans hb8
    have HB8 : Hid (K4 w w8 g o (L ++ [UInt8.ofNat st.op.toNat]) (stC st (.slice ka kn kc) (.slice ta tn tc)) pp1 (n5 + 1) cp1) := Lib.hid ⟨HB1.out.1.below hbq, NeO.below HB1.out.2.1 hbq HB1.out.2.2.1.lt, HB1.out.2.2.1.below hbq, HB1.out.2.2.2.below hbq⟩
    have hngh : nghK n ≤ 3 := by unfold nghK; omega
    clear hb8 hbq HB1 HX7
    refine wpList_zerosB (B := w.heap.size) (wz := w8) rfl _ _ Try.underlying3 rfl rfl HB8.out.2.2.2 (Below.refl _ _) (nghK n) rfl (by have h := HB8.out.2.2.2.len; rw [List.length_append, List.length_singleton] at h; have := HL.out.1; omega) HB8.out.1.2.2.2.2.1 ?_
    intro p9 c9 w9 hbuf hB keep
    have HP := K4.pushN HB8.out hbuf (by simp <;> omega) hB keep
    have q9 := HP.2.1
    have f9 := HP.2.2
    have HB9 := Lib.hid HP.1
    have q95 : (w9.setCell ⟨g, 0, none⟩ (.slice p9 (n5 + 1 + nghK n) c9)).cell? ⟨o, 5, none⟩ = some (.int .i64 st.goal) := HP.1.1.2.1.cell (i := 5) rfl
    clear hbuf hB keep HP HB8
    go_wp2_with fail
    obtain ⟨wa, hwa⟩ : ∃ wa, wa = w9.setCell ⟨g, 0, none⟩ (.slice p9 (n5 + 1 + nghK n) c9) := ⟨_, rfl⟩
    rw [← hwa] at HB9 ⊢
    clear hwa q9 f9 q95
    have HSa := Lib.hid HB9.out.1
    clear HB9
    refine (put1_any g w.heap.size _ (st.goal - (n : Int)) 4 (.inr (.inr rfl)) wa HSa.out.1 (by have := HL.out.1; simp only [List.length_append, List.length_cons, List.length_nil, List.length_replicate]; omega) HSa.out.2.2.2.2.1).mono ?_
    rintro e wb ⟨rfl, hv8, hg8⟩
    have HSb := Lib.hid (HSa.out.step hv8 hg8)
    clear hv8 hg8 HSa
    obtain ⟨p8, n8, c8, hk8⟩ := K4.ex HSb.out (HSb.out.neo (by simp <;> omega))
    have HKB := Lib.hid hk8
    have q8 : wb.cell? ⟨g, 0, none⟩ = some (.slice p8 n8 c8) := hk8.2.2.1.cell rfl
    clear hk8 HSb
    go_wp2_with (refine wpList_load_row rfl _ _ rfl _ rfl _ _ _ _ HKB.out.1.2.1 Try.underlying48 rfl size_sto8 ?_)
    refine (keys_116 w.heap.size p8 n8 c8 _ (n : Int) wb (HK.out.later HKB.out.1.2.2.1) HKT.out HKB.out.1.2.2.2.2.1 HKB.out.2.2.2 ⟨by simp <;> omega, by have := HL.out.1; simp only [List.length_append, List.length_cons, List.length_nil, List.length_replicate, putB_len4]; omega⟩ (by have := HL.out.1; omega) HZ.out).mono ?_
    rintro e wc2 ⟨pd, nd, cd, rfl, hbd, hBd⟩
    have hbx := HKB.out.2.2.1.below hBd
    have qx : wc2.cell? ⟨g, 0, none⟩ = some (.slice p8 n8 c8) := hbx.cell rfl
    have fx := hbx.frozen 0
    have HFB : Hid (Buf (wc2.setCell ⟨g, 0, none⟩ (.slice pd nd cd)) w.heap.size U8 bE pd nd cd _) := Lib.hid (hbd.kept (rd_ne_box hbd.rd (by simp <;> omega) hbx) (grownBy_setCell wc2 _ _))
    have HFW : Hid (Below w.heap.size w (wc2.setCell ⟨g, 0, none⟩ (.slice pd nd cd))) := Lib.hid ((HKB.out.1.2.2.1.trans (hBd.mono HKB.out.1.2.2.1.size)).setCell HKB.out.1.2.2.2.1 _)
    clear hbx hbd hBd q8
    go_wp2
    go_ret2
    exact ⟨_, _, _, by rw [HPK.out] <;> rfl, by rw [HPK.out]; exact HFB.out.len, by rw [HPK.out]; exact HFB.out.rd, HFW.out⟩
end
end Go.Proofs.Ytgcdeadfkljeaaa
