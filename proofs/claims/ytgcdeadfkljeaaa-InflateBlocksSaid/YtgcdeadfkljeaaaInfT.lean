/- The document's State: dynamic. -/
import Derived.Test.YtgcdeadfkljeaaaInfR
namespace Go.Proofs.Ytgcdeadfkljeaaa
open Go.RowKit
set_option linter.unusedVariables false
set_option linter.unusedSimpArgs false

/-- What the document's dynamic leaves. -/
noncomputable def dynJ (L : List UInt8) (s : IS) : (List Int × List Int) × IS :=
  let a := bitsK L 5 s
  let b := bitsK L 5 a.2
  let c := bitsK L 4 b.2
  if a.1 + 257 > 286 ∨ b.1 + 1 > 30 then (([], []), failS 4 c.2) else
  let h := hdrK L (c.1 + 4) c.2
  if kindS h.1 = 0 then (([], []), failS 12 h.2) else
  let r := lensK L h.1 (a.1 + 257 + (b.1 + 1)) (a.1 + 257 + (b.1 + 1) + 1) [] h.2
  if r.2.e ≠ 0 then (([], []), r.2) else ((r.1.take (a.1 + 257), r.1.drop (a.1 + 257)), r.2)
def JDyn (A B gs gr : Nat) (L : List UInt8) (most : Int) (w : World) (r : (List Int × List Int) × IS) (e : Ending) (w' : World) : Prop :=
  JSt w' A B gs gr L most r.2 ∧ Chj A w w' ∧ ∃ p1 n1 c1 p2 n2 c2, e = .returned (.tuple #[.slice p1 n1 c1, .slice p2 n2 c2]) ∧ (r.2.e = 0 → (r.1.1.length = n1 ∧ 257 ≤ n1 ∧ n1 ≤ 60000 ∧ Rd w' nE p1 r.1.1) ∧ (r.1.2.length = n2 ∧ n2 ≤ 60000 ∧ Rd w' nE p2 r.1.2))
theorem arr_ordI {w : World} {g : Nat} (h : Blk w g INT ordC) : Arr w g INT 19 (listF orderL) := h
def SJx (A g7 : Nat) (w w' : World) : Prop := Below A w w' ∧ ∀ (q : Nat) (cs : Array Value) (fr : Nat × Nat), q ≠ g7 → w.heap[q]? = some (.cells cs INT fr) → w'.heap[q]? = some (.cells cs INT fr)
theorem SJx.refl (A g7 : Nat) (w : World) : SJx A g7 w w := ⟨Below.refl _ _, fun _ _ _ _ h => h⟩
theorem SJx.chj {A g7 : Nat} {w w' : World} (h : Chj A w w') : SJx A g7 w w' := ⟨h.bel, fun q cs fr _ hq => h.keep q cs INT fr (by decide) hq⟩
def OrdG (g7 : Nat) : Spec := fun v w => ∃ k, v = .slice (some ⟨k, 0, none⟩) 19 19 ∧ k ≠ g7 ∧ Blk w k INT ordC
def IdxG (g7 i : Nat) : Spec := fun v w => ∃ k, v = .pointer (some ⟨k, i, none⟩) ∧ k ≠ g7 ∧ Blk w k INT ordC
theorem mono_ord (A g7 : Nat) : MonoS (SJx A g7) (OrdG g7) := by
  rintro v w w' ⟨k, h1, h2, h3⟩ hs
  exact ⟨k, h1, h2, hs.2 k _ _ h2 h3⟩
theorem mono_idx (A g7 i : Nat) : MonoS (SJx A g7) (IdxG g7 i) := by
  rintro v w w' ⟨k, h1, h2, h3⟩ hs
  exact ⟨k, h1, h2, hs.2 k _ _ h2 h3⟩
structure IDj (A B gs gr : Nat) (L : List UInt8) (most : Int) (w0 : World) (B7 g7 : Nat) (hl : List Int) (od : Nat) (vv : Int) (sh sv : IS) (F : Nat → Bool) (w : World) : Prop where
  chg : Chj A w0 w
  a : F 6 = false → JSt w A B gs gr L most sh
  b : F 6 = true → JSt w A B gs gr L most sv
  c : F 8 = false → Own w B7 INT nE (some ⟨g7, 0, none⟩) 19 19 hl
  d : F 8 = true → Own w B7 INT nE (some ⟨g7, 0, none⟩) 19 19 (hl.set od vv)
theorem IDj.set {A B gs gr : Nat} {L : List UInt8} {most : Int} {w0 : World} {B7 g7 : Nat} {hl : List Int} {od : Nat} {vv : Int} {sh sv : IS} {F : Nat → Bool} {w : World} (h : IDj A B gs gr L most w0 B7 g7 hl od vv sh sv F w) {k : Nat} (h6 : 6 ≠ k) (h8 : 8 ≠ k) : IDj A B gs gr L most w0 B7 g7 hl od vv sh sv (setL F k) w :=
  ⟨h.chg, by rw [setL_ne h6]; exact h.a, by rw [setL_ne h6]; exact h.b, by rw [setL_ne h8]; exact h.c, by rw [setL_ne h8]; exact h.d⟩
theorem IDj.below {A B gs gr : Nat} {L : List UInt8} {most : Int} {w0 : World} {B7 g7 : Nat} {hl : List Int} {od : Nat} {vv : Int} {sh sv : IS} {F : Nat → Bool} {w w' : World} (h : IDj A B gs gr L most w0 B7 g7 hl od vv sh sv F w) (hb : Below w.heap.size w w') (hA : A ≤ w.heap.size) : IDj A B gs gr L most w0 B7 g7 hl od vv sh sv F w' :=
  ⟨h.chg.trans (Chj.of_below hb hA), fun x => (h.a x).below hb, fun x => (h.b x).below hb, fun x => (h.c x).below hb, fun x => (h.d x).below hb⟩
set_option maxRecDepth 100000 in
set_option maxHeartbeats 16000000 in
theorem jDyn_any {A B gs gr : Nat} {L : List UInt8} {most : Int} {s : IS} (w : World) (h : JSt w A B gs gr L most s) :
  Calls Try.prog 33 #[.pointer (some ⟨gs, 0, none⟩)] w (JDyn A B gs gr L most w (dynJ L s)) := by
  have mixed : Try.prog.follows .mixedOrders = true := by kernel_rfl
  have H := Lib.hid h
  obtain ⟨tot, htot⟩ : ∃ t, t = dynJ L s := ⟨_, rfl⟩
  rw [← htot]
  have HT := Lib.hid htot
  unfold dynJ at HT
  clear htot h
  go_enter Try.func33, Try.ntmps33
  have H0 : Hid (JSt w A B gs gr L most s ∧ Chj A w w) := Lib.hid ⟨H.out, Chj.refl _ _⟩
  have HV1 : Hid ((bitsK L 5 s).1 < 32) := Lib.hid (bitsK_lt L 5 (by decide) s)
  have HB1 := Lib.hid (jGet_any 5 w H0.out.1 (by decide))
  unfold SjPost at HB1
  generalize bitsK L 5 s = b1 at *
  obtain ⟨va, s1⟩ := b1
  simp only at HB1 HV1 HT
  obtain ⟨sg, hsg⟩ : ∃ k : Nat, Hid (k = va + 257) := ⟨_, Lib.hid rfl⟩
  have gsg : IntKind.i64.wrap ((va : Int) + 257) = (sg : Int) := by rw [IntWalk.i64_in _ (by have := HV1.out; omega)]; have := hsg.out; omega
  have hsgb : 257 ≤ sg ∧ sg ≤ 288 := by have := HV1.out; have := hsg.out; omega
  go_wp2_with fail
  refine HB1.out.mono ?_
  rintro e w1 ⟨rfl, h1, k1⟩
  have H1 : Hid (JSt w1 A B gs gr L most s1 ∧ Chj A w w1) := Lib.hid ⟨h1, H0.out.2.trans k1⟩
  clear h1 k1 HB1 H0
  have HV2 : Hid ((bitsK L 5 s1).1 < 32) := Lib.hid (bitsK_lt L 5 (by decide) s1)
  have HB2 := Lib.hid (jGet_any 5 w1 H1.out.1 (by decide))
  unfold SjPost at HB2
  generalize bitsK L 5 s1 = b2 at *
  obtain ⟨vb, s2⟩ := b2
  simp only at HB2 HV2 HT
  obtain ⟨fr, hfr⟩ : ∃ k : Nat, Hid (k = vb + 1) := ⟨_, Lib.hid rfl⟩
  have gfr : IntKind.i64.wrap ((vb : Int) + 1) = (fr : Int) := by rw [IntWalk.i64_in _ (by have := HV2.out; omega)]; have := hfr.out; omega
  have hfrb : 1 ≤ fr ∧ fr ≤ 32 := by have := HV2.out; have := hfr.out; omega
  go_wp2_with fail
  refine HB2.out.mono ?_
  rintro e w2 ⟨rfl, h2, k2⟩
  have H2 : Hid (JSt w2 A B gs gr L most s2 ∧ Chj A w w2) := Lib.hid ⟨h2, H1.out.2.trans k2⟩
  clear h2 k2 HB2 H1
  have HV3 : Hid ((bitsK L 4 s2).1 < 16) := Lib.hid (bitsK_lt L 4 (by decide) s2)
  have HB3 := Lib.hid (jGet_any 4 w2 H2.out.1 (by decide))
  unfold SjPost at HB3
  generalize bitsK L 4 s2 = b3 at *
  obtain ⟨vc, s3⟩ := b3
  simp only at HB3 HV3 HT
  obtain ⟨my, hmy⟩ : ∃ k : Nat, Hid (k = vc + 4) := ⟨_, Lib.hid rfl⟩
  have gmy : IntKind.i64.wrap ((vc : Int) + 4) = (my : Int) := by rw [IntWalk.i64_in _ (by have := HV3.out; omega)]; have := hmy.out; omega
  have hmyb : 4 ≤ my ∧ my ≤ 19 := by have := HV3.out; have := hmy.out; omega
  go_wp2_with fail
  refine HB3.out.mono ?_
  rintro e w3 ⟨rfl, h3, k3⟩
  have H3 : Hid (JSt w3 A B gs gr L most s3 ∧ Chj A w w3) := Lib.hid ⟨h3, H2.out.2.trans k3⟩
  clear h3 k3 HB3 H2
  rw [← hsg.out, ← hfr.out, ← hmy.out] at HT
  clear hsg hfr hmy HV1 HV2 HV3
  by_cases hmany : sg > 286 ∨ fr > 30
  · have HT2 : Hid (tot = (([], []), failS 4 s3)) := Lib.hid (by rw [HT.out]; simp only [if_pos hmany])
    have HNE := Lib.hid (failS_ne (x := 4) (by decide) s3)
    clear HT
    by_cases hm1 : sg > 286
    · have c4 : (286 : Int) < (sg : Int) := by omega
      go_wp2_with fail
      refine (jFail_any 4 w3 H3.out.1).mono ?_
      rintro e w4 ⟨rfl, h4, k4⟩
      have H4 := Lib.hid (And.intro h4 (H3.out.2.trans k4))
      clear h4 k4
      go_wp2_with fail
      go_ret2
      rw [HT2.out]
      exact ⟨H4.out.1, H4.out.2, none, 0, 0, none, 0, 0, rfl, fun h => absurd h HNE.out⟩
    · have c4 : ¬ (286 : Int) < (sg : Int) := by omega
      have c5 : (30 : Int) < (fr : Int) := by omega
      go_wp2_with fail
      refine (jFail_any 4 w3 H3.out.1).mono ?_
      rintro e w4 ⟨rfl, h4, k4⟩
      have H4 := Lib.hid (And.intro h4 (H3.out.2.trans k4))
      clear h4 k4
      go_wp2_with fail
      go_ret2
      rw [HT2.out]
      exact ⟨H4.out.1, H4.out.2, none, 0, 0, none, 0, 0, rfl, fun h => absurd h HNE.out⟩
  · simp only [if_neg hmany] at HT
    have c4 : ¬ (286 : Int) < (sg : Int) := by omega
    have c5 : ¬ (30 : Int) < (fr : Int) := by omega
    go_wp2_with (at_make; refine wpList_mk (E := nE) (base := w3.heap.size) slIntE rfl rfl _ _ rfl 19 rfl rfl rfl rfl (0 : Int) rfl (by omega) (by unfold maxLen; omega) (Nat.le_refl _) ?_; intro p4 w4 hown4 hg4)
    obtain ⟨g7, y7, rfl, hg7b, hg7l, -, -, -⟩ := hown4.at (i := 0) (by decide)
    have hb4 := below_of_grownBy hg4
    have HG : Hid (w.heap.size ≤ w3.heap.size ∧ B ≤ w3.heap.size ∧ w3.heap.size ≤ g7) := Lib.hid ⟨H3.out.2.bel.size, H3.out.1.le.2.2.2.2.2, hg7b⟩
    have H4 : Hid (JSt w4 A B gs gr L most (hdrK L 0 s3).2 ∧ Chj A w w4 ∧ Own w4 w3.heap.size INT nE (some ⟨g7, 0, none⟩) 19 19 (hdrK L 0 s3).1) := Lib.hid ⟨H3.out.1.below hb4, H3.out.2.trans (Chj.of_below hb4 H3.out.1.base), hown4⟩
    clear hown4 hg4 hb4 H3 hg7b hg7l
    generalize w3.heap.size = B7 at *
    go_loopw [8] (fun x8 wr => ∃ i : Nat, i ≤ my ∧ x8 = .int .i64 (i : Int) ∧ Hid (JSt wr A B gs gr L most (hdrK L i s3).2 ∧ Chj A w wr ∧ Own wr B7 INT nE (some ⟨g7, 0, none⟩) 19 19 (hdrK L i s3).1)) (fun x8 _ => my - (intOf x8).toNat)
    case atStart => exact ⟨0, Nat.zero_le _, rfl, H4⟩
    case round =>
      clear H4
      obtain ⟨i, hi, rfl, hW⟩ := hrel
      by_cases hin : i < my
      · have hor := order_lt i (by omega)
        have HSUC : Hid (hdrK L (i + 1) s3 = ((hdrK L i s3).1.set (orderL.getD i 0).toNat (((bitsK L 3 (hdrK L i s3).2).1 : Nat) : Int), (bitsK L 3 (hdrK L i s3).2).2)) := Lib.hid rfl
        have hlen := hdrK_len L s3 i
        generalize hdrK L i s3 = hd at *
        obtain ⟨hl, sh⟩ := hd
        simp only at HSUC hlen hW
        obtain ⟨od, hod⟩ : ∃ od : Nat, orderL.getD i 0 = (od : Int) := ⟨(orderL.getD i 0).toNat, by omega⟩
        rw [hod] at HSUC hor
        simp only [Int.toNat_natCast] at HSUC
        have HOD := Lib.hid hod
        clear hod
        have ho1 : (od : Int) < 19 := hor.2
        have ho2 : od < 19 := by omega
        have gi1 : (i : Int) < (my : Int) := by omega
        have gi2 : (i : Int) < 19 := by omega
        have gi3 : i < 19 := by omega
        have HB := Lib.hid (fun (w' : World) (hj : JSt w' A B gs gr L most sh) => jGet_any 3 w' hj (by decide))
        unfold SjPost at HB
        generalize bitsK L 3 sh = bb at *
        obtain ⟨vv, sv⟩ := bb
        simp only at HB HSUC
        have HIS : Hid (JSt wr.drew A B gs gr L most sh ∧ Chj A w wr.drew ∧ Own wr.drew B7 INT nE (some ⟨g7, 0, none⟩) 19 19 hl) := Lib.hid (by
          have hbd := below_drewN wr wr.heap.size 1
          exact ⟨hW.out.1.below hbd, hW.out.2.1.trans (Chj.of_below hbd hW.out.1.base), hW.out.2.2.below hbd⟩)
        have hAB : A ≤ w.heap.size := H.out.base
        clear hW
        go_wp2_with fail
        refine wp_region_growI (SJx A g7) (IDj A B gs gr L most w B7 g7 hl od (vv : Int) sh sv) mixed (by kernel_rfl) (by rfl) ⟨HIS.out.2.1, fun _ => HIS.out.1, by simp, fun _ => HIS.out.2.2, by simp⟩ ?_
        apply gi_val _ (fun w => SJx.refl A g7 w) (fun F w' _ h => h.set (show (6 : Nat) ≠ 0 by decide) (show (8 : Nat) ≠ 0 by decide))
        · intro a' w' F hF haf hi hk
          refine ⟨wanted_none rfl, ?_⟩
          try simp [Oper.looksAt, Op.operands, Call.operands, KnownAt, List.lookup, consD] at hk
          simp [execOp, Act.eval, hk, go_sem]
          all_goals rfl
        refine gi_call 18 #[] (OrdG g7) (mono_ord A g7) ?_ ?_ ?_
        · intro a' w' hk
          refine ⟨wanted_none rfl, ?_⟩
          simp [execOp, Act.eval, go_sem]
          all_goals rfl
        · intro w' F hF haf hi
          refine (rOrder_any w').mono ?_
          rintro e w'' ⟨k, rfl, hb, hk, hbel⟩
          have hA' : A ≤ w'.heap.size := Nat.le_trans hAB hi.chg.bel.size
          have hg7 : g7 < w'.heap.size := by
            cases h8 : F 8 with
            | false => exact ((hi.c h8).1.lt g7 rfl).2
            | true => exact ((hi.d h8).1.lt g7 rfl).2
          exact ⟨_, rfl, ⟨k, rfl, by omega, hb⟩, SJx.chj (Chj.of_below hbel hA'), (hi.below hbel hA').set (by decide) (by decide)⟩
        apply gi_val _ (fun w => SJx.refl A g7 w) (fun F w' _ h => h.set (show (6 : Nat) ≠ 2 by decide) (show (8 : Nat) ≠ 2 by decide))
        · intro a' w' F hF haf hi hk
          refine ⟨wanted_none rfl, ?_⟩
          try simp [Oper.looksAt, Op.operands, Call.operands, KnownAt, List.lookup, consD] at hk
          simp [execOp, Act.eval, hk, go_sem]
          all_goals rfl
        refine gi_valX (IdxG g7 i) (mono_idx A g7 i) (fun w => SJx.refl A g7 w) (fun F w' _ h => h.set (show (6 : Nat) ≠ 3 by decide) (show (8 : Nat) ≠ 3 by decide)) ?_ ?_
        · intro a' w' F hF haf hi hk
          have hk36 := hk 36 (by decide)
          have hk37 := hk 37 (by decide)
          simp only [KnownAt, List.lookup, consD] at hk36 hk37
          obtain ⟨k, hv, hne, hb⟩ := hk36
          have hv' : a'.tmps[36]?.getD undef = .slice (some ⟨k, 0, none⟩) 19 19 := by simpa using hv
          have hw' : a'.tmps[37]?.getD undef = .int .i64 (i : Int) := by simpa using hk37
          refine ⟨wanted_none rfl, .pointer (some ⟨k, i, none⟩), ?_, k, rfl, hne, hb⟩
          simp [execOp, Act.eval, hv', hw', go_sem, gi2, gi3]
          all_goals first | rfl | omega
        apply gi_val (.int .i64 (od : Int)) (fun w => SJx.refl A g7 w) (fun F w' _ h => h.set (show (6 : Nat) ≠ 4 by decide) (show (8 : Nat) ≠ 4 by decide))
        · intro a' w' F hF haf hi hk
          refine ⟨wanted_none rfl, ?_⟩
          have hk38 := hk 38 (by decide)
          simp only [KnownAt, List.lookup, consD] at hk38
          obtain ⟨k, hv, hne, hb⟩ := hk38
          have hv' : a'.tmps[38]?.getD undef = .pointer (some ⟨k, i, none⟩) := by simpa using hv
          have hcell := (arr_ordI hb).cell (k := i) gi3
          unfold listF at hcell
          rw [HOD.out] at hcell
          simp [execOp, Act.eval, hv', go_sem, hcell]
          all_goals rfl
        apply gi_val _ (fun w => SJx.refl A g7 w) (fun F w' _ h => h.set (show (6 : Nat) ≠ 5 by decide) (show (8 : Nat) ≠ 5 by decide))
        · intro a' w' F hF haf hi hk
          refine ⟨wanted_none rfl, ?_⟩
          try simp [Oper.looksAt, Op.operands, Call.operands, KnownAt, List.lookup, consD] at hk
          simp [execOp, Act.eval, hk, go_sem]
          all_goals rfl
        refine gi_call 29 #[.pointer (some ⟨gs, 0, none⟩), .int .i64 3] (fun v _ => v = .int .i64 (vv : Int)) (monoS_eq _) ?_ ?_ ?_
        · intro a' w' hk
          refine ⟨wanted_none rfl, ?_⟩
          try simp [Oper.looksAt, Op.operands, Call.operands, KnownAt, List.lookup, consD] at hk
          simp [execOp, Act.eval, hk, go_sem]
          all_goals rfl
        · intro w' F hF haf hi
          refine (HB.out w' (hi.a hF)).mono ?_
          rintro e w'' ⟨rfl, h1, k1⟩
          refine ⟨_, rfl, rfl, SJx.chj k1, ⟨hi.chg.trans k1, ?_, ?_, ?_, ?_⟩⟩
          · rw [setL_same]; simp
          · intro _; exact h1
          · rw [setL_ne (show (8 : Nat) ≠ 6 by decide)]; intro h8; exact k1.keep.ownR (hi.c h8) (by decide)
          · rw [setL_ne (show (8 : Nat) ≠ 6 by decide)]; intro h8; exact k1.keep.ownR (hi.d h8) (by decide)
        apply gi_val (.pointer (some ⟨g7, od, none⟩)) (fun w => SJx.refl A g7 w) (fun F w' _ h => h.set (show (6 : Nat) ≠ 7 by decide) (show (8 : Nat) ≠ 7 by decide))
        · intro a' w' F hF haf hi hk
          refine ⟨wanted_none rfl, ?_⟩
          try simp [Oper.looksAt, Op.operands, Call.operands, KnownAt, List.lookup, consD] at hk
          simp [execOp, Act.eval, hk, go_sem, ho1, ho2]
          all_goals rfl
        refine ⟨fun _ _ => True, fun _ _ _ _ _ => trivial, fun a' w' F hF haf hi hk => ?_, ?_⟩
        · rw [if_pos (wanted_none rfl)]
          simp [Oper.looksAt, Op.operands, Call.operands, KnownAt, List.lookup, consD] at hk
          have h6 : F 6 = true := haf ⟨6, .data⟩ (by simp) (by decide)
          have hj := hi.b h6
          have ho := hi.c hF
          obtain ⟨g', y', hgg, -, -, -, hcell, hfz⟩ := ho.at (i := od) ho2
          cases hgg
          have hgb := grownBy_setCell w' ⟨g7, od, none⟩ (.int .i64 (vv : Int))
          have hgs : w.heap.size ≤ g7 := Nat.le_trans HG.out.1 HG.out.2.2
          have hI2 : IDj A B gs gr L most w B7 g7 hl od (vv : Int) sh sv (setL F 8) (w'.setCell ⟨g7, od, none⟩ (.int .i64 (vv : Int))) := by
            refine ⟨hi.chg.young hgb hAB (fun k hk => by have := Option.some.inj hk; simp only at this; omega), ?_, ?_, ?_, ?_⟩
            · rw [setL_ne (show (6 : Nat) ≠ 8 by decide), h6]; simp
            · intro _; exact hj.keepInt ho HG.out.2.1 hgb
            · rw [setL_same]; simp
            · intro _; exact ho.set od ho2 (vv : Int)
          have hS2 : SJx A g7 w' (w'.setCell ⟨g7, od, none⟩ (.int .i64 (vv : Int))) := by
            refine ⟨(Below.refl _ _).grown hgb (Nat.le_trans hAB hi.chg.bel.size) (fun k hk => by have := Option.some.inj hk; simp only at this; omega), fun q cs fr hq hqq => ?_⟩
            exact (hgb.block q (Array.getElem?_eq_some_iff.1 hqq).1 (fun e => hq (by have := Option.some.inj e; simpa using this))).trans hqq
          unfold Oper.wp
          simp [execOp, Act.eval, hk, go_sem, hcell, hfz, Oper.upon, Result.andThen]
          exact ⟨hS2, hI2⟩
        intro vs w' F hF hI hall
        simp only [AllS, consD] at hall
        simp only [consD, putAllS, Act.put]
        have HW2 : Hid (JSt w' A B gs gr L most (hdrK L (i + 1) s3).2 ∧ Chj A w w' ∧ Own w' B7 INT nE (some ⟨g7, 0, none⟩) 19 19 (hdrK L (i + 1) s3).1) := Lib.hid (by
          rw [HSUC.out]
          exact ⟨hI.b (hF 6 (by decide)), hI.chg, hI.d (hF 8 (by decide))⟩)
        clear hI hall hF
        simp only [List.setIfInBounds_toArray, List.set_cons_succ, List.set_cons_zero]
        go_wp2_with fail
        go_roundw
        case rel => exact ⟨i + 1, by omega, by go_num, HW2⟩
        case measure => simp [intOf] <;> omega
      · have him : i = my := by omega
        subst him
        have hlen := hdrK_len L s3 i
        generalize hdrK L i s3 = hd at *
        obtain ⟨hl, sh⟩ := hd
        simp only at HT hlen hW
        go_wp2_with fail
        refine (rwords_any (some ⟨g7, 0, none⟩) 19 19 hl wr hlen (by decide) hW.out.2.2.rd).mono ?_
        rintro e w8 ⟨hb8, hor⟩
        have H8 : Hid (JSt w8 A B gs gr L most sh ∧ Chj A w w8) := Lib.hid ⟨hW.out.1.below hb8, hW.out.2.1.trans (Chj.of_below hb8 hW.out.1.base)⟩
        clear hb8 hW
        rcases hor with ⟨hk0, rfl⟩ | ⟨hk0, p8, rfl, ho8⟩
        · have HT2 : Hid (tot = (([], []), failS 12 sh)) := Lib.hid (by rw [HT.out]; simp only [if_pos hk0])
          have HNE := Lib.hid (failS_ne (x := 12) (by decide) sh)
          clear hk0 HT
          go_wp2_with fail
          refine (jFail_any 12 w8 H8.out.1).mono ?_
          rintro e w9 ⟨rfl, h9, k9⟩
          have H9 := Lib.hid (And.intro h9 (H8.out.2.trans k9))
          clear h9 k9
          go_wp2_with fail
          go_ret2
          rw [HT2.out]
          exact ⟨H9.out.1, H9.out.2, none, 0, 0, none, 0, 0, rfl, fun h => absurd h HNE.out⟩
        · have gsum : IntKind.i64.wrap ((sg : Int) + (fr : Int)) = ((sg + fr : Nat) : Int) := by rw [IntWalk.i64_in _ (by omega)]; omega
          simp only [if_neg hk0] at HT
          have HL := Lib.hid (jLens_any p8 19 19 hl (sg + fr) w8 H8.out.1 (fun _ => ⟨hlen, by decide, hk0, _, ho8⟩) (by omega))
          have HLL := Lib.hid (lensK_len (L := L) (l := hl) (n := sg + fr) (sg + fr + 1) [] sh (by simp) (by simp))
          clear hk0 ho8
          unfold JLens at HL
          generalize lensK L hl (sg + fr) (sg + fr + 1) [] sh = lr at *
          obtain ⟨all, s4⟩ := lr
          simp only at HL HLL HT
          go_wp2_with fail
          refine HL.out.mono ?_
          rintro e w9 ⟨p, m, c, rfl, h9, k9, hown9⟩
          have H9 : Hid (JSt w9 A B gs gr L most s4 ∧ Chj A w w9) := Lib.hid ⟨h9, H8.out.2.trans k9⟩
          obtain ⟨q, n', c', -, -, -, e3, -, -⟩ := h9.cells
          clear h9 k9 HL
          by_cases h4e : s4.e = 0
          · have hown := hown9 h4e
            have HAL := Lib.hid (HLL.out h4e)
            have hml := hown.len
            have hms : m = sg + fr := by rw [← hml]; exact HAL.out
            subst hms
            have hmc := hown.le_cap
            have hmx := hown.cap_max
            unfold maxLen at hmx
            rw [h4e] at e3
            have HT2 : Hid (tot = ((all.take sg, all.drop sg), s4)) := Lib.hid (by rw [HT.out]; simp only [if_neg (show ¬ s4.e ≠ 0 by simpa using h4e)])
            have HOW := Lib.hid hown
            clear hown hown9 HT h4e hml
            obtain ⟨PP, hPP⟩ : ∃ PP, slP p c sg = PP := ⟨_, rfl⟩
            have HPP := Lib.hid hPP
            have gsl := fun w => run_slice_l1 slIntE p (sg + fr) c sg (by omega) (sg : Int) rfl w
            rw [hPP, show sg + fr - sg = fr by omega] at gsl
            clear hPP
            have gh1 : (0 : Int) ≤ (sg : Int) := by omega
            have gh2 : (sg : Int) ≤ (c : Int) := by omega
            have gh3 : sg ≤ c := by omega
            have gh4 : ((sg : Int)).toNat = sg := Int.toNat_natCast sg
            go_wp2_with fail
            go_quiet (fail)
            obtain ⟨wz, hwz⟩ : ∃ x, w9.drewN nq = x := ⟨_, rfl⟩
            have hbd : Below w9.heap.size w9 wz := by rw [← hwz]; exact below_drewN _ _ _
            rw [hwz]
            clear hwz
            go_wp2_with fail
            go_ret2
            rw [HT2.out]
            have hrd := HOW.out.rd.below hbd
            refine ⟨H9.out.1.below hbd, H9.out.2.trans (Chj.of_below hbd H9.out.1.base), _, _, _, _, _, _, rfl, fun _ => ⟨⟨by rw [List.length_take, HAL.out]; omega, by omega, by omega, hrd.take sg⟩, by rw [List.length_drop, HAL.out]; omega, by omega, ?_⟩⟩
            have := hrd.slP sg c (by rw [HAL.out]; exact hmc)
            rw [HPP.out] at this
            exact this
          · have HT2 : Hid (tot = (([], []), s4)) := Lib.hid (by rw [HT.out]; simp only [if_pos (show s4.e ≠ 0 from h4e)])
            have heb2 : (s4.e != 0) = true := by simpa using h4e
            have HNE := Lib.hid h4e
            clear h4e hown9
            go_wp2_with fail
            go_ret2
            rw [HT2.out]
            exact ⟨H9.out.1, H9.out.2, none, 0, 0, none, 0, 0, rfl, fun h => absurd h HNE.out⟩
end Go.Proofs.Ytgcdeadfkljeaaa
