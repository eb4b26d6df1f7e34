/- inflate.state: dynamic. -/
import Derived.Test.YtgcdeadfkljeaaaInfH
import Derived.Test.YtgcdeadfkljeaaaGrowI
import Derived.Test.YtgcdeadfkljeaaaSl
namespace Go.Proofs.Ytgcdeadfkljeaaa
open Go.RowKit
set_option linter.unusedVariables false
set_option linter.unusedSimpArgs false

theorem ISt.other {w w' : World} {A B gs gr g : Nat} {L : List UInt8} {most : Int} {s : IS} {T : TypeId} {cs : Array Value} (h : ISt w A B gs gr L most s) (hb : Blk w g T cs) (h1 : STT ≠ T) (h2 : U8T ≠ T) (hB : B ≤ g) (hg : w.grownBy w' (some g)) : ISt w' A B gs gr L most s := by
  have hk : KeepT [T] w w' := KeepT.one hb (by simp) hg
  obtain ⟨q, m, d, g1, g2⟩ := h.ex
  have hle := h.le
  exact ⟨⟨q, m, d, hk.blk g1 (by simpa using h1), hk.ownR g2 (by simpa using h2)⟩, h.rd.grown hg (fun k hk => by have := Option.some.inj hk; omega), h.le.1, h.le.2.1, h.le.2.2.1, h.le.2.2.2.1, h.le.2.2.2.2.1, Nat.le_trans h.le.2.2.2.2.2 hg.size⟩
def listF (l : List Int) (j : Nat) : Value := .int .i64 (l.getD j 0)
theorem listF_set (l : List Int) (i : Nat) (v : Int) (hi : i < l.length) (k : Nat) : (if k = i then Value.int .i64 v else listF l k) = listF (l.set i v) k := by
  unfold listF
  rw [List.getD_eq_getElem?_getD, List.getD_eq_getElem?_getD, List.getElem?_set]
  by_cases h : k = i
  · subst h; rw [if_pos rfl, if_pos rfl, if_pos hi]; rfl
  · rw [if_neg h, if_neg (fun e => h e.symm)]
theorem listF_rd {w : World} {g m : Nat} {T : TypeId} {l : List Int} (h : Arr w g T m (listF l)) (hl : l.length = m) : Rd w nE (some ⟨g, 0, none⟩) l := by
  refine .inr ⟨g, 0, rfl, fun j x hj => ?_⟩
  have hjl := (List.getElem?_eq_some_iff.1 hj).1
  have := h.cell (k := j) (by omega)
  rw [Nat.zero_add, this]
  unfold listF
  rw [List.getD_eq_getElem?_getD, hj]; rfl
abbrev Z19 : Array Value := #[.int .i64 0, .int .i64 0, .int .i64 0, .int .i64 0, .int .i64 0, .int .i64 0, .int .i64 0, .int .i64 0, .int .i64 0, .int .i64 0, .int .i64 0, .int .i64 0, .int .i64 0, .int .i64 0, .int .i64 0, .int .i64 0, .int .i64 0, .int .i64 0, .int .i64 0]
theorem arr_zero {w : World} {g : Nat} (h : Blk w g T19 Z19) : Arr w g T19 19 (listF (List.replicate 19 0)) := h
theorem arr_ord {w : World} {g : Nat} (h : Blk w g T19 ordC) : Arr w g T19 19 (listF orderL) := h
theorem order_lt (i : Nat) (h : i < 19) : 0 ≤ orderL.getD i 0 ∧ orderL.getD i 0 < 19 := by
  have : ∀ k : Fin 19, 0 ≤ orderL.getD k.val 0 ∧ orderL.getD k.val 0 < 19 := by decide
  exact this ⟨i, h⟩
/-- What a drawn region keeps that calls code twice. -/
structure IDy (A B gs gr : Nat) (L : List UInt8) (most : Int) (w0 : World) (p : Option Addr) (m c B2 : Nat) (all : List Int) (s3 s4 s5 : IS) (F : Nat → Bool) (w : World) : Prop where
  chg : Chg A w0 w
  own : Own w B2 3 nE p m c all
  a : F 4 = false → ISt w A B gs gr L most s3
  b : F 4 = true → F 9 = false → ISt w A B gs gr L most s4
  c : F 9 = true → ISt w A B gs gr L most s5
  d : F 9 = true → F 4 = true
theorem IDy.set {A B gs gr : Nat} {L : List UInt8} {most : Int} {w0 : World} {p : Option Addr} {m c B2 : Nat} {all : List Int} {s3 s4 s5 : IS} {F : Nat → Bool} {w : World} (h : IDy A B gs gr L most w0 p m c B2 all s3 s4 s5 F w) {k : Nat} (h4 : 4 ≠ k) (h9 : 9 ≠ k) : IDy A B gs gr L most w0 p m c B2 all s3 s4 s5 (setL F k) w :=
  ⟨h.chg, h.own, by rw [setL_ne h4]; exact h.a, by rw [setL_ne h4, setL_ne h9]; exact h.b, by rw [setL_ne h9]; exact h.c, by rw [setL_ne h9, setL_ne h4]; exact h.d⟩
def CodG (l : List Int) : Spec := fun v w => (kindS l = 0 ∧ v = .pointer none) ∨ (kindS l ≠ 0 ∧ ∃ gc, v = .pointer (some ⟨gc, 0, none⟩) ∧ CodeOk w gc l)
theorem mono_cod (A : Nat) (l : List Int) : MonoS (Chg A) (CodG l) := by
  rintro v w w' (h | ⟨h1, gc, h2, h3⟩) hk
  · exact .inl h
  · exact .inr ⟨h1, gc, h2, h3.keepT hk.keep⟩
set_option maxRecDepth 100000 in
set_option maxHeartbeats 16000000 in
theorem iDyn_any {A B gs gr : Nat} {L : List UInt8} {most : Int} {s : IS} (w : World) (h : ISt w A B gs gr L most s) :
  Calls Try.prog 61 #[.pointer (some ⟨gs, 0, none⟩)] w (DynPost A B gs gr L most w (dynK L s)) := by
  have mixed : Try.prog.follows .mixedOrders = true := by kernel_rfl
  have H := Lib.hid h
  obtain ⟨tot, htot⟩ : ∃ t, t = dynK L s := ⟨_, rfl⟩
  rw [← htot]
  have HT := Lib.hid htot
  unfold dynK at HT
  have HV1 : Hid ((bitsK L 5 s).1 < 32) := Lib.hid (bitsK_lt L 5 (by decide) s)
  have HB1 := Lib.hid (iBits_any 5 w H.out (by decide))
  unfold StPost at HB1
  clear htot h
  generalize bitsK L 5 s = b1 at *
  obtain ⟨va, s1⟩ := b1
  simp only at HB1 HV1 HT
  obtain ⟨sg, hsg⟩ : ∃ sg : Nat, Hid (sg = va + 257) := ⟨_, Lib.hid rfl⟩
  have gsg : IntKind.i64.wrap ((va : Int) + 257) = (sg : Int) := by rw [IntWalk.i64_in _ (by have := HV1.out; omega)]; have := hsg.out; omega
  have hsgb : 257 ≤ sg ∧ sg ≤ 288 := by have := HV1.out; have := hsg.out; omega
  go_enter Try.func61, Try.ntmps61
  go_wp2_with fail
  refine HB1.out.mono ?_
  rintro e w1 ⟨rfl, h1, k1⟩
  have H1 : Hid (ISt w1 A B gs gr L most s1 ∧ Chg A w w1) := Lib.hid ⟨h1, k1⟩
  clear h1 k1 HB1
  have HV2 : Hid ((bitsK L 5 s1).1 < 32) := Lib.hid (bitsK_lt L 5 (by decide) s1)
  have HB2 := Lib.hid (iBits_any 5 w1 H1.out.1 (by decide))
  unfold StPost at HB2
  generalize bitsK L 5 s1 = b2 at *
  obtain ⟨vb, s2⟩ := b2
  simp only at HB2 HV2 HT
  obtain ⟨fr, hfr⟩ : ∃ fr : Nat, Hid (fr = vb + 1) := ⟨_, Lib.hid rfl⟩
  have gfr : IntKind.i64.wrap ((vb : Int) + 1) = (fr : Int) := by rw [IntWalk.i64_in _ (by have := HV2.out; omega)]; have := hfr.out; omega
  have hfrb : 1 ≤ fr ∧ fr ≤ 32 := by have := HV2.out; have := hfr.out; omega
  go_wp2_with fail
  refine HB2.out.mono ?_
  rintro e w2 ⟨rfl, h2, k2⟩
  have H2 : Hid (ISt w2 A B gs gr L most s2 ∧ Chg A w w2) := Lib.hid ⟨h2, H1.out.2.trans k2⟩
  clear h2 k2 HB2 H1
  have HV3 : Hid ((bitsK L 4 s2).1 < 16) := Lib.hid (bitsK_lt L 4 (by decide) s2)
  have HB3 := Lib.hid (iBits_any 4 w2 H2.out.1 (by decide))
  unfold StPost at HB3
  generalize bitsK L 4 s2 = b3 at *
  obtain ⟨vc, s3⟩ := b3
  simp only at HB3 HV3 HT
  obtain ⟨my, hmy⟩ : ∃ my : Nat, Hid (my = vc + 4) := ⟨_, Lib.hid rfl⟩
  have gmy : IntKind.i64.wrap ((vc : Int) + 4) = (my : Int) := by rw [IntWalk.i64_in _ (by have := HV3.out; omega)]; have := hmy.out; omega
  have hmyb : 4 ≤ my ∧ my ≤ 19 := by have := HV3.out; have := hmy.out; omega
  go_wp2_with fail
  refine HB3.out.mono ?_
  rintro e w3 ⟨rfl, h3, k3⟩
  have H3 : Hid (ISt w3 A B gs gr L most s3 ∧ Chg A w w3) := Lib.hid ⟨h3, H2.out.2.trans k3⟩
  clear h3 k3 HB3 H2
  rw [← hsg.out, ← hfr.out, ← hmy.out] at HT
  clear hsg hfr hmy HV1 HV2 HV3
  obtain ⟨q, n, c, c0, c1, c2, c3, f3, -⟩ := H3.out.1.cells
  clear c0 c1 c2 f3
  by_cases he : s3.e = 0
  · rw [he] at c3
    by_cases hmany : sg > 286 ∨ fr > 30
    · have HT2 : Hid (tot = (([], []), failS 4 s3)) := Lib.hid (by rw [HT.out]; simp only [if_pos (And.intro he hmany), if_pos (failS_ne (x := 4) (by decide) s3)])
      have HNE := Lib.hid (failS_ne (x := 4) (by decide) s3)
      clear HT
      have step : ∀ w4, StPost A B gs gr L most w3 (.returned (.bool ((failS 4 s3).e != 0))) (failS 4 s3) (.returned (.bool ((failS 4 s3).e != 0))) w4 → DynPost A B gs gr L most w tot (.returned (.tuple #[.pointer none, .pointer none])) w4 := by
        rintro w4 ⟨-, h4, k4⟩
        rw [HT2.out]
        exact ⟨h4, H3.out.2.trans k4, none, none, rfl, fun h => absurd h HNE.out⟩
      have HSTEP := Lib.hid step
      clear step
      by_cases hm1 : sg > 286
      · have c4 : (286 : Int) < (sg : Int) := by omega
        go_wp2_with fail
        refine (iFail_any 4 w3 H3.out.1).mono ?_
        rintro e w4 ⟨rfl, h4, k4⟩
        obtain ⟨q, n, c, -, -, -, d3, -, -⟩ := h4.cells
        have heb : ((failS 4 s3).e != 0) = true := by simpa using HNE.out
        have HF := Lib.hid (HSTEP.out w4 ⟨rfl, h4, k4⟩)
        clear h4 k4 c3
        go_wp2_with fail
        go_ret2
        exact HF.out
      · have c4 : ¬ (286 : Int) < (sg : Int) := by omega
        have c5 : (30 : Int) < (fr : Int) := by omega
        go_wp2_with fail
        refine (iFail_any 4 w3 H3.out.1).mono ?_
        rintro e w4 ⟨rfl, h4, k4⟩
        obtain ⟨q, n, c, -, -, -, d3, -, -⟩ := h4.cells
        have heb : ((failS 4 s3).e != 0) = true := by simpa using HNE.out
        have HF := Lib.hid (HSTEP.out w4 ⟨rfl, h4, k4⟩)
        clear h4 k4 c3
        go_wp2_with fail
        go_ret2
        exact HF.out
    · simp only [if_neg (fun h : s3.e = 0 ∧ (sg > 286 ∨ fr > 30) => hmany h.2), if_neg (show ¬ s3.e ≠ 0 by simpa using he)] at HT
      have c4 : ¬ (286 : Int) < (sg : Int) := by omega
      have c5 : ¬ (30 : Int) < (fr : Int) := by omega
      have hb4 := below_alloc w3 (.cells Z19 T19)
      have H4 : Hid (ISt (w3.alloc (.cells Z19 T19)) A B gs gr L most s3 ∧ Chg A w (w3.alloc (.cells Z19 T19)) ∧ Blk (w3.alloc (.cells Z19 T19)) w3.heap.size T19 Z19 ∧ w.heap.size ≤ w3.heap.size) := Lib.hid ⟨H3.out.1.below hb4, H3.out.2.trans (Chg.of_below hb4 H3.out.1.base), Blk.new _ _ _, H3.out.2.bel.size⟩
      clear hb4 H3
      go_wp2_with fail
      obtain ⟨w4, hw4⟩ : ∃ w4, w4 = w3.alloc (.cells Z19 T19) := ⟨_, rfl⟩
      obtain ⟨g7, hg7⟩ : ∃ g, g = w3.heap.size := ⟨_, rfl⟩
      rw [← hw4, ← hg7] at H4 ⊢
      clear hw4 hg7 c3
      refine (iOrder_any w4).mono ?_
      rintro e w5 ⟨rfl, hb5⟩
      have hb6 := below_alloc w5 (.cells Z19 T19)
      have H6 : Hid (ISt (w5.alloc (.cells Z19 T19)) A B gs gr L most s3 ∧ Chg A w (w5.alloc (.cells Z19 T19)) ∧ Blk (w5.alloc (.cells Z19 T19)) g7 T19 Z19 ∧ w.heap.size ≤ g7 ∧ Blk (w5.alloc (.cells Z19 T19)) w5.heap.size T19 Z19 ∧ g7 < w5.heap.size) := Lib.hid ⟨(H4.out.1.below hb5).below hb6, (H4.out.2.1.trans (Chg.of_below hb5 H4.out.1.base)).trans (Chg.of_below hb6 (H4.out.1.below hb5).base), (H4.out.2.2.1.below hb5).below hb6, H4.out.2.2.2, Blk.new _ _ _, Nat.lt_of_lt_of_le H4.out.2.2.1.lt hb5.size⟩
      clear hb5 hb6 H4
      have gso : ((my : Int)).toNat = my := Int.toNat_natCast my
      have gm1 : (my : Int) ≤ 19 := by omega
      have gm2 : my ≤ 19 := by omega
      have gm3 : (0 : Int) ≤ (my : Int) := by omega
      go_wp2_with (first | (refine wpList_storeBlk (cs' := ordC) rfl _ _ rfl rfl rfl H6.out.2.2.2.2.1 rfl size_19 ord_ones ?_; intro d0 dg))
      obtain ⟨w7, hw7⟩ : ∃ w7, w7 = (w5.alloc (.cells Z19 T19)).setRow w5.heap.size ordC := ⟨_, rfl⟩
      obtain ⟨g8, hg8⟩ : ∃ g, g = w5.heap.size := ⟨_, rfl⟩
      rw [← hw7] at d0 dg
      rw [← hg8] at d0 dg H6
      have H7 : Hid (ISt w7 A B gs gr L most s3 ∧ Chg A w w7 ∧ Arr w7 g7 T19 19 (listF (hdrK L 0 s3).1) ∧ Arr w7 g8 T19 19 (listF orderL)) := Lib.hid ⟨H6.out.1.other H6.out.2.2.2.2.1 (by decide) (by decide) (by have h1 := H.out.le.2.2.2.2.2; have := H6.out; omega) dg, H6.out.2.1.young dg H.out.base (fun k hk => by have h1 := Option.some.inj hk; have := H6.out; omega), arr_zero (H6.out.2.2.1.grown dg (fun e => by have h1 := Option.some.inj e; have := H6.out.2.2.2.2.2; omega)), arr_ord d0⟩
      have HG : Hid (w.heap.size ≤ g7 ∧ w.heap.size ≤ g8 ∧ g7 ≠ g8 ∧ B ≤ g7) := Lib.hid (by have h1 := H.out.le.2.2.2.2.2; have := H6.out.2.2.2; omega)
      rw [← hw7, ← hg8]
      clear hw7 hg8 d0 dg H6
      go_loopw [46] (fun x46 wr => ∃ i : Nat, i ≤ my ∧ x46 = .int .i64 (i : Int) ∧ Hid (ISt wr A B gs gr L most (hdrK L i s3).2 ∧ Chg A w wr ∧ Arr wr g7 T19 19 (listF (hdrK L i s3).1) ∧ Arr wr g8 T19 19 (listF orderL))) (fun x46 _ => my - (intOf x46).toNat)
      case atStart => exact ⟨0, Nat.zero_le _, rfl, H7⟩
      case round =>
        clear H7
        obtain ⟨i, hi, rfl, hW⟩ := hrel
        by_cases hin : i < my
        · have kc := hW.out.2.2.2.cell (k := i) (by omega)
          have hor := order_lt i (by omega)
          have HSUC : Hid (hdrK L (i + 1) s3 = ((hdrK L i s3).1.set (orderL.getD i 0).toNat (((bitsK L 3 (hdrK L i s3).2).1 : Nat) : Int), (bitsK L 3 (hdrK L i s3).2).2)) := Lib.hid rfl
          have hlen := hdrK_len L s3 i
          unfold listF at kc
          generalize hdrK L i s3 = hd at *
          obtain ⟨hl, sh⟩ := hd
          simp only at HSUC hlen hW
          obtain ⟨od, hod⟩ : ∃ od : Nat, orderL.getD i 0 = (od : Int) := ⟨(orderL.getD i 0).toNat, by omega⟩
          rw [hod] at kc HSUC hor
          simp only [Int.toNat_natCast] at HSUC
          clear hod
          have ho1 : (od : Int) < 19 := hor.2
          have ho2 : od < 19 := by omega
          have gi1 : (i : Int) < (my : Int) := by omega
          have HB := Lib.hid (iBits_any 3 wr hW.out.1 (by decide))
          unfold StPost at HB
          generalize bitsK L 3 sh = bb at *
          obtain ⟨vv, sv⟩ := bb
          simp only at HB HSUC
          go_wp2_with fail
          refine HB.out.mono ?_
          rintro e w8 ⟨rfl, h8, k8⟩
          have H8 : Hid (ISt w8 A B gs gr L most sv ∧ Chg A w w8 ∧ Arr w8 g7 T19 19 (listF hl) ∧ Arr w8 g8 T19 19 (listF orderL)) := Lib.hid ⟨h8, hW.out.2.1.trans k8, k8.keep.blk hW.out.2.2.1 (by decide), k8.keep.blk hW.out.2.2.2 (by decide)⟩
          have kc7 := H8.out.2.2.1.cell (k := od) ho2
          have kf7 := H8.out.2.2.1.frozen od
          have hg9 := grownBy_setCell w8 ⟨g7, od, none⟩ (.int .i64 (vv : Int))
          have H9 : Hid (ISt (w8.setCell ⟨g7, od, none⟩ (.int .i64 (vv : Int))) A B gs gr L most (hdrK L (i + 1) s3).2 ∧ Chg A w (w8.setCell ⟨g7, od, none⟩ (.int .i64 (vv : Int))) ∧ Arr (w8.setCell ⟨g7, od, none⟩ (.int .i64 (vv : Int))) g7 T19 19 (listF (hdrK L (i + 1) s3).1) ∧ Arr (w8.setCell ⟨g7, od, none⟩ (.int .i64 (vv : Int))) g8 T19 19 (listF orderL)) := Lib.hid (by
            rw [HSUC.out]
            exact ⟨H8.out.1.other H8.out.2.2.1 (by decide) (by decide) HG.out.2.2.2 hg9, H8.out.2.1.young hg9 H.out.base (fun k hk => by have h1 := Option.some.inj hk; have := HG.out.1; simp only at h1; omega), (H8.out.2.2.1.set od (.int .i64 (vv : Int))).congr (fun k hk => listF_set hl od (vv : Int) (by omega) k), H8.out.2.2.2.other (by have := HG.out.2.2.1; simp; omega) _⟩)
          clear h8 k8 hg9 hW HB kc
          go_wp2_with fail
          go_roundw
          case rel => exact ⟨i + 1, by omega, by go_num, H9⟩
          case measure => simp [intOf] <;> omega
        · have him : i = my := by omega
          subst him
          have hlen := hdrK_len L s3 i
          generalize hdrK L i s3 = hd at *
          obtain ⟨hl, sh⟩ := hd
          simp only at HT hlen hW
          obtain ⟨q, n, c, c0, c1, c2, c3, f3, -⟩ := hW.out.1.cells
          clear c0 c1 c2 f3
          -- TAIL
          by_cases hse : sh.e = 0
          · simp only [if_neg (show ¬ sh.e ≠ 0 by simpa using hse)] at HT
            rw [hse] at c3
            have HC := Lib.hid (iCode_any (some ⟨g7, 0, none⟩) 19 19 hl wr hW.out.1 hlen (by decide) (listF_rd hW.out.2.2.1 hlen))
            go_wp2_with fail
            refine HC.out.mono ?_
            rintro e w8 ⟨h8, k8, h9⟩
            rcases h9 with ⟨hk0, rfl⟩ | ⟨hk0, gc, rfl, hcode⟩
            · have hce : codeK hl sh = failS 12 sh := by unfold codeK; rw [if_pos hk0]
              have HNE := Lib.hid (failS_ne (x := 12) (by decide) sh)
              rw [hce] at h8
              have HT2 : Hid (tot = (([], []), failS 12 sh)) := Lib.hid (by rw [HT.out]; simp only [hce, if_pos HNE.out])
              have H8 : Hid (ISt w8 A B gs gr L most (failS 12 sh) ∧ Chg A w w8) := Lib.hid ⟨h8, hW.out.2.1.trans k8⟩
              obtain ⟨q, n, c, -, -, -, d3, -, -⟩ := h8.cells
              have heb : ((failS 12 sh).e != 0) = true := by simpa using HNE.out
              clear h8 k8 hW HC HT hce c3 hk0
              generalize failS 12 sh = s9 at *
              go_wp2_with fail
              go_ret2
              rw [HT2.out]
              exact ⟨H8.out.1, H8.out.2, none, none, rfl, fun h => absurd h HNE.out⟩
            · have hce : codeK hl sh = sh := by unfold codeK; rw [if_neg hk0]
              rw [hce] at h8
              simp only [hce, if_neg (show ¬ sh.e ≠ 0 by simpa using hse)] at HT
              have H8 : Hid (ISt w8 A B gs gr L most sh ∧ Chg A w w8 ∧ CodeOk w8 gc hl ∧ w.heap.size ≤ w8.heap.size) := Lib.hid ⟨h8, hW.out.2.1.trans k8, hcode, (hW.out.2.1.trans k8).bel.size⟩
              obtain ⟨q, n, c, -, -, -, d3, -, -⟩ := h8.cells
              rw [hse] at d3
              have gsum : IntKind.i64.wrap ((sg : Int) + (fr : Int)) = ((sg + fr : Nat) : Int) := by rw [IntWalk.i64_in _ (by omega)]; omega
              have HL := Lib.hid (iLens_any gc hl (sg + fr) w8 H8.out.1 H8.out.2.2.1 (by omega))
              have HLL := Lib.hid (lensK_len (L := L) (l := hl) (n := sg + fr) (sg + fr + 1) [] sh (by simp) (by simp))
              clear h8 k8 hW HC hce c3 hk0 hcode
              unfold LensPost at HL
              generalize lensK L hl (sg + fr) (sg + fr + 1) [] sh = lr at *
              obtain ⟨all, s4⟩ := lr
              simp only at HL HLL HT
              go_wp2_with fail
              refine HL.out.mono ?_
              rintro e w9 ⟨p, m, c, rfl, hown9, h9, k9⟩
              have H9 : Hid (ISt w9 A B gs gr L most s4 ∧ Chg A w w9 ∧ Own w9 w8.heap.size 3 nE p m c all) := Lib.hid ⟨h9, H8.out.2.1.trans k9, hown9⟩
              obtain ⟨q, n', c', -, -, -, e3, -, -⟩ := h9.cells
              have hml := hown9.len
              have hmc := hown9.le_cap
              have hmx := hown9.cap_max
              unfold maxLen at hmx
              clear hown9 h9 k9 HL d3 H8
              by_cases h4e : s4.e = 0
              · have HAL := Lib.hid (HLL.out h4e)
                have hms : m = sg + fr := by rw [← hml]; exact HAL.out
                subst hms
                rw [h4e] at e3
                have h256 : 256 < all.length := by rw [HAL.out]; omega
                obtain ⟨bp, off, rfl, -, hcell⟩ := H9.out.2.2.rd.at h256
                have hgd : all.getD 256 0 = all[256] := by rw [List.getD_eq_getElem?_getD, List.getElem?_eq_getElem h256]; rfl
                rw [← hgd] at hcell
                replace hcell : w9.cell? ⟨bp, off + 256, none⟩ = some (.int .i64 (all.getD 256 0)) := hcell
                clear hgd h256
                have gm1 : (256 : Int) < ((sg + fr : Nat) : Int) := by omega
                have gm2 : 256 < sg + fr := by omega
                by_cases hz : all.getD 256 0 = 0
                · rw [hz] at hcell
                  have HNE := Lib.hid (failS_ne (x := 12) (by decide) s4)
                  have HT2 : Hid (tot = (([], []), failS 12 s4)) := Lib.hid (by rw [HT.out]; simp only [if_pos (And.intro h4e hz), if_pos HNE.out])
                  clear HT hz
                  go_wp2_with fail
                  refine (iFail_any 12 w9 H9.out.1).mono ?_
                  rintro e w10 ⟨rfl, h10, k10⟩
                  have HF : Hid (ISt w10 A B gs gr L most (failS 12 s4) ∧ Chg A w w10) := Lib.hid ⟨h10, H9.out.2.1.trans k10⟩
                  obtain ⟨q, n', c', -, -, -, d3, -, -⟩ := h10.cells
                  have heb : ((failS 12 s4).e != 0) = true := by simpa using HNE.out
                  clear h10 k10 H9 hcell e3
                  generalize failS 12 s4 = s9 at *
                  go_wp2_with fail
                  go_ret2
                  rw [HT2.out]
                  exact ⟨HF.out.1, HF.out.2, none, none, rfl, fun h => absurd h HNE.out⟩
                · have HT2 : Hid (tot = ((all.take sg, all.drop sg), codeK (all.drop sg) (codeK (all.take sg) s4))) := Lib.hid (by rw [HT.out]; simp only [if_neg (fun h : s4.e = 0 ∧ all.getD 256 0 = 0 => hz h.2), if_neg (show ¬ s4.e ≠ 0 by simpa using h4e)])
                  have gz : (all.getD 256 0 == 0) = false := by simpa using hz
                  have HZ := Lib.hid hz
                  generalize all.getD 256 0 = zv at *
                  clear HT hz
                  have HCT : Hid (∀ (la : List Int) (s' : IS), s'.e = 0 → (codeK la s').e = 0 → kindS la ≠ 0) := Lib.hid (by
                    intro la s' h1 h2 h3
                    unfold codeK at h2
                    rw [if_pos h3] at h2
                    exact absurd h2 (failS_ne (by decide) _))
                  go_wp2_with fail
                  clear hcell e3 gz
                  obtain ⟨PP, hPP⟩ : ∃ PP, slP (some ⟨bp, off, none⟩) c sg = PP := ⟨_, rfl⟩
                  have HPP := Lib.hid hPP
                  have gsl := fun w => run_slice_l1 slIntE (some ⟨bp, off, none⟩) (sg + fr) c sg (by omega) (sg : Int) rfl w
                  rw [hPP, show sg + fr - sg = fr by omega] at gsl
                  clear hPP
                  have gh1 : (0 : Int) ≤ (sg : Int) := by omega
                  have gh2 : (sg : Int) ≤ (c : Int) := by omega
                  have gh3 : sg ≤ c := by omega
                  have gh4 : ((sg : Int)).toNat = sg := Int.toNat_natCast sg
                  have hbd := below_drewN w9 w9.heap.size 1
                  refine wp_region_growI (Chg A) (IDy A B gs gr L most w (some ⟨bp, off, none⟩) (sg + fr) c w8.heap.size all s4 (codeK (all.take sg) s4) (codeK (all.drop sg) (codeK (all.take sg) s4))) mixed (by kernel_rfl) (by rfl) ⟨H9.out.2.1.trans (Chg.of_below hbd H9.out.1.base), H9.out.2.2.below hbd, fun _ => H9.out.1.below hbd, by simp, by simp, by simp⟩ ?_
                  apply gi_val _ (fun w => Chg.refl A w) (fun F w' _ h => h.set (show (4 : Nat) ≠ 0 by decide) (show (9 : Nat) ≠ 0 by decide))
                  · intro a' w' F hF haf hi hk
                    refine ⟨wanted_none rfl, ?_⟩
                    try simp [Oper.looksAt, Op.operands, Call.operands, KnownAt, List.lookup, consD] at hk
                    simp [execOp, Act.eval, hk, go_sem]
                    all_goals rfl
                  apply gi_val _ (fun w => Chg.refl A w) (fun F w' _ h => h.set (show (4 : Nat) ≠ 1 by decide) (show (9 : Nat) ≠ 1 by decide))
                  · intro a' w' F hF haf hi hk
                    refine ⟨wanted_none rfl, ?_⟩
                    try simp [Oper.looksAt, Op.operands, Call.operands, KnownAt, List.lookup, consD] at hk
                    simp [execOp, Act.eval, hk, go_sem]
                    all_goals rfl
                  apply gi_val _ (fun w => Chg.refl A w) (fun F w' _ h => h.set (show (4 : Nat) ≠ 2 by decide) (show (9 : Nat) ≠ 2 by decide))
                  · intro a' w' F hF haf hi hk
                    refine ⟨wanted_none rfl, ?_⟩
                    try simp [Oper.looksAt, Op.operands, Call.operands, KnownAt, List.lookup, consD] at hk
                    simp [execOp, Act.eval, hk, go_sem]
                    all_goals rfl
                  apply gi_val _ (fun w => Chg.refl A w) (fun F w' _ h => h.set (show (4 : Nat) ≠ 3 by decide) (show (9 : Nat) ≠ 3 by decide))
                  · intro a' w' F hF haf hi hk
                    refine ⟨wanted_none rfl, ?_⟩
                    try simp [Oper.looksAt, Op.operands, Call.operands, KnownAt, List.lookup, consD] at hk
                    simp [execOp, Act.eval, hk, go_sem, gh1, gh2, gh3, gh4]
                    all_goals rfl
                  refine gi_call 91 #[.pointer (some ⟨gs, 0, none⟩), .slice (some ⟨bp, off, none⟩) sg c] (CodG (all.take sg)) (mono_cod A (all.take sg)) ?_ ?_ ?_
                  · intro a' w' hk
                    refine ⟨wanted_none rfl, ?_⟩
                    try simp [Oper.looksAt, Op.operands, Call.operands, KnownAt, List.lookup, consD] at hk
                    simp [execOp, Act.eval, hk, go_sem]
                    all_goals rfl
                  · intro w' F hF haf hi
                    have hIS := hi.a hF
                    refine (iCode_any _ _ _ (all.take sg) w' hIS (by rw [List.length_take, HAL.out]; omega) (by omega) (hi.own.rd.take sg)).mono ?_
                    rintro e w'' ⟨h1, k1, h2⟩
                    have hv : ∃ v, e = .returned v ∧ CodG (all.take sg) v w'' := by
                      rcases h2 with ⟨h3, h4⟩ | ⟨h3, gc', h4, h5⟩
                      · exact ⟨_, h4, .inl ⟨h3, rfl⟩⟩
                      · exact ⟨_, h4, .inr ⟨h3, gc', rfl, h5⟩⟩
                    obtain ⟨v, hv1, hv2⟩ := hv
                    refine ⟨v, hv1, hv2, k1, ⟨hi.chg.trans k1, k1.keep.ownR hi.own (by decide), ?_, ?_, ?_, ?_⟩⟩
                    · rw [setL_same]; simp
                    · intro _ _; exact h1
                    · rw [setL_ne (show (9 : Nat) ≠ 4 by decide)]; intro h9; exact absurd (hi.d h9) (by rw [hF]; simp)
                    · rw [setL_ne (show (9 : Nat) ≠ 4 by decide)]; intro h9; exact absurd (hi.d h9) (by rw [hF]; simp)
                  apply gi_val _ (fun w => Chg.refl A w) (fun F w' _ h => h.set (show (4 : Nat) ≠ 5 by decide) (show (9 : Nat) ≠ 5 by decide))
                  · intro a' w' F hF haf hi hk
                    refine ⟨wanted_none rfl, ?_⟩
                    try simp [Oper.looksAt, Op.operands, Call.operands, KnownAt, List.lookup, consD] at hk
                    simp [execOp, Act.eval, hk, go_sem]
                    all_goals rfl
                  apply gi_val _ (fun w => Chg.refl A w) (fun F w' _ h => h.set (show (4 : Nat) ≠ 6 by decide) (show (9 : Nat) ≠ 6 by decide))
                  · intro a' w' F hF haf hi hk
                    refine ⟨wanted_none rfl, ?_⟩
                    try simp [Oper.looksAt, Op.operands, Call.operands, KnownAt, List.lookup, consD] at hk
                    simp [execOp, Act.eval, hk, go_sem]
                    all_goals rfl
                  apply gi_val _ (fun w => Chg.refl A w) (fun F w' _ h => h.set (show (4 : Nat) ≠ 7 by decide) (show (9 : Nat) ≠ 7 by decide))
                  · intro a' w' F hF haf hi hk
                    refine ⟨wanted_none rfl, ?_⟩
                    try simp [Oper.looksAt, Op.operands, Call.operands, KnownAt, List.lookup, consD] at hk
                    simp [execOp, Act.eval, hk, go_sem]
                    all_goals rfl
                  apply gi_val _ (fun w => Chg.refl A w) (fun F w' _ h => h.set (show (4 : Nat) ≠ 8 by decide) (show (9 : Nat) ≠ 8 by decide))
                  · intro a' w' F hF haf hi hk
                    refine ⟨wanted_none rfl, ?_⟩
                    try simp [Oper.looksAt, Op.operands, Call.operands, KnownAt, List.lookup, consD] at hk
                    simp [execOp, Act.eval, hk, go_sem, gsl]
                    all_goals rfl
                  refine gi_call 91 #[.pointer (some ⟨gs, 0, none⟩), .slice PP fr (c - sg)] (CodG (all.drop sg)) (mono_cod A (all.drop sg)) ?_ ?_ ?_
                  · intro a' w' hk
                    refine ⟨wanted_none rfl, ?_⟩
                    try simp [Oper.looksAt, Op.operands, Call.operands, KnownAt, List.lookup, consD] at hk
                    simp [execOp, Act.eval, hk, go_sem]
                    all_goals rfl
                  · intro w' F hF haf hi
                    have hIS := hi.b (haf ⟨4, .chain⟩ (by simp) (by decide)) hF
                    refine (iCode_any _ _ _ (all.drop sg) w' hIS (by rw [List.length_drop, HAL.out]; omega) (by omega) (by have := hi.own.rd.slP sg c (by rw [HAL.out]; exact hmc); rw [HPP.out] at this; exact this)).mono ?_
                    rintro e w'' ⟨h1, k1, h2⟩
                    have hv : ∃ v, e = .returned v ∧ CodG (all.drop sg) v w'' := by
                      rcases h2 with ⟨h3, h4⟩ | ⟨h3, gc', h4, h5⟩
                      · exact ⟨_, h4, .inl ⟨h3, rfl⟩⟩
                      · exact ⟨_, h4, .inr ⟨h3, gc', rfl, h5⟩⟩
                    obtain ⟨v, hv1, hv2⟩ := hv
                    refine ⟨v, hv1, hv2, k1, ⟨hi.chg.trans k1, k1.keep.ownR hi.own (by decide), ?_, ?_, ?_, ?_⟩⟩
                    · rw [setL_ne (show (4 : Nat) ≠ 9 by decide)]; intro h4; rw [haf ⟨4, .chain⟩ (by simp) (by decide)] at h4; cases h4
                    · rw [setL_same]; simp
                    · intro _; exact h1
                    · intro _; rw [setL_ne (show (4 : Nat) ≠ 9 by decide)]; exact haf ⟨4, .chain⟩ (by simp) (by decide)
                  refine gi_valX (CodG (all.take sg)) (mono_cod A (all.take sg)) (fun w => Chg.refl A w) (fun F w' _ h => h.set (show (4 : Nat) ≠ 10 by decide) (show (9 : Nat) ≠ 10 by decide)) ?_ ?_
                  · intro a' w' F hF haf hi hk
                    refine ⟨wanted_none rfl, _, ?_, known_of (hk 96 (by decide)) rfl⟩
                    simp [execOp, Act.eval, go_sem]
                  refine gi_valX (CodG (all.drop sg)) (mono_cod A (all.drop sg)) (fun w => Chg.refl A w) (fun F w' _ h => h.set (show (4 : Nat) ≠ 11 by decide) (show (9 : Nat) ≠ 11 by decide)) ?_ ?_
                  · intro a' w' F hF haf hi hk
                    refine ⟨wanted_none rfl, _, ?_, known_of (hk 101 (by decide)) rfl⟩
                    simp [execOp, Act.eval, go_sem]
                  intro vs w' F hF hI hall
                  simp only [AllS, consD] at hall
                  simp only [consD, putAllS, Act.put]
                  obtain ⟨h3, h2, -⟩ := hall
                  have hI5 := hI.c (hF 9 (by decide))
                  have HF : Hid (ISt w' A B gs gr L most (codeK (all.drop sg) (codeK (all.take sg) s4)) ∧ Chg A w w') := Lib.hid ⟨hI5, hI.chg⟩
                  obtain ⟨v1, hv1⟩ : ∃ v1, vs 2 = .pointer v1 := by
                    rcases h2 with ⟨_, h⟩ | ⟨_, g', h, _⟩ <;> exact ⟨_, h⟩
                  obtain ⟨v2, hv2⟩ : ∃ v2, vs 3 = .pointer v2 := by
                    rcases h3 with ⟨_, h⟩ | ⟨_, g', h, _⟩ <;> exact ⟨_, h⟩
                  have HP : Hid (DynPost A B gs gr L most w tot (.returned (.tuple #[vs 2, vs 3])) w') := Lib.hid (by
                    rw [HT2.out, hv1, hv2]
                    refine ⟨HF.out.1, HF.out.2, v1, v2, rfl, fun he5 => ?_⟩
                    have hz4 : (codeK (all.take sg) s4).e = 0 := by
                      by_cases h : (codeK (all.take sg) s4).e = 0
                      · exact h
                      · exfalso
                        revert he5
                        show ¬ (codeK (all.drop sg) (codeK (all.take sg) s4)).e = 0
                        generalize codeK (all.take sg) s4 = s5 at *
                        unfold codeK
                        split
                        · unfold failS; rw [if_neg h]; exact h
                        · exact h
                    have hka := HCT.out _ _ h4e hz4
                    have hkb := HCT.out _ _ hz4 he5
                    rcases h2 with ⟨h, _⟩ | ⟨_, ga, ha1, ha2⟩
                    · exact absurd h hka
                    · rcases h3 with ⟨h, _⟩ | ⟨_, gb, hb1, hb2⟩
                      · exact absurd h hkb
                      · rw [hv1] at ha1; rw [hv2] at hb1
                        exact ⟨ga, gb, by simpa using ha1, by simpa using hb1, ha2, hb2⟩)
                  clear h3 h2 hI hI5 hv1 hv2
                  simp only [List.setIfInBounds_toArray, List.set_cons_succ, List.set_cons_zero]
                  go_wp2_with fail
                  go_ret2
                  exact HP.out
              · have HT2 : Hid (tot = (([], []), s4)) := Lib.hid (by rw [HT.out]; simp only [if_neg (fun h : s4.e = 0 ∧ all.getD 256 0 = 0 => h4e h.1), if_pos (show s4.e ≠ 0 from h4e)])
                have heb : (s4.e == 0) = false := by simpa using h4e
                have heb2 : (s4.e != 0) = true := by simpa using h4e
                go_wp2_with fail
                go_ret2
                rw [HT2.out]
                exact ⟨H9.out.1, H9.out.2.1, none, none, rfl, fun h => absurd h h4e⟩
          · have HT2 : Hid (tot = (([], []), sh)) := Lib.hid (by rw [HT.out]; simp only [if_pos (show sh.e ≠ 0 from hse)])
            have heb : (sh.e != 0) = true := by simpa using hse
            go_wp2_with fail
            go_ret2
            rw [HT2.out]
            exact ⟨hW.out.1, hW.out.2.1, none, none, rfl, fun h => absurd h hse⟩
          -- NOTAIL
  · have HT2 : Hid (tot = (([], []), s3)) := Lib.hid (by rw [HT.out]; simp only [if_neg (fun h : s3.e = 0 ∧ (sg > 286 ∨ fr > 30) => he h.1), if_pos (show s3.e ≠ 0 from he)])
    have heb : (s3.e == 0) = false := by simpa using he
    have heb2 : (s3.e != 0) = true := by simpa using he
    go_wp2_with fail
    go_ret2
    rw [HT2.out]
    exact ⟨H3.out.1, H3.out.2, none, none, rfl, fun h => absurd h he⟩
end Go.Proofs.Ytgcdeadfkljeaaa
