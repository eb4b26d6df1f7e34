/- An argument that is a slice of blocks, opened. -/
import Derived.Test.YtgcdeadfkljeaaaOpen
import Derived.Test.YtgcdeadfkljeaaaInfBa
import Derived.Test.YtgcdeadfkljeaaaInfU
namespace Go.Proofs.Ytgcdeadfkljeaaa
open Go.ChangeShapes Go.WideShapes Go.ChangeAt Go.RowKit Go.Deep
set_option linter.unusedVariables false
set_option linter.unusedSimpArgs false
/-- A slice of blocks that is read. -/
structure BlksOk (w : World) (a : Option Addr) (n c : Nat) (F : Nat → PV) : Prop where
  cap : n ≤ c ∧ c ≤ maxLen
  rows : RdN w a n 8 (fun i j => (F i).cs.getD j undef)
  ok : ∀ i, i < n → PvOk w (F i)
section
variable {H : Type} {enc : TypeId × Value → H} {w : World} {d : DataW H} {ps : List MemPlace}
theorem open_fints {t e : TypeId} {k : IntKind} {v : Value} {y : DataW H × List MemPlace} {f : Nat} (ht : Try.prog.underlying t = some (.slice e)) (he : Try.prog.underlying e = some (.int k)) (hc : Try.prog.cellsOf e = 1)
    (h : DataW.trod enc Try.prog w 0 (fun _ => true) true f t [v] = some y) : ∃ s : SlV Int, v = s.v ∧ SlOk w (fun x => Value.int k x) s ∧ ∀ x ∈ s.l, (Lit.int k x).wf = true := by
  have hv : ∃ a n c, v = .slice a n c := by
    rcases open_slice1 ht hc h with ⟨h1, _⟩ | ⟨x', l', c', _, _, _, _, _, h1, _⟩
    · simp at h1; exact ⟨_, _, _, h1⟩
    · simp at h1; exact ⟨_, _, _, h1⟩
  obtain ⟨a, n, c, rfl⟩ := hv
  obtain ⟨l, h1, h2, h3, h4, h5⟩ := openIntsL (enc := enc) (w := w) (P := Try.prog) (d := y.1) (ps := y.2) ht he hc (a := a) (n := n) (c := c) ⟨f, by simpa [Value.cells] using h⟩
  exact ⟨⟨a, n, c, l⟩, rfl, ⟨h1, ⟨h2, h3⟩, h4⟩, h5⟩
theorem open_fbytes {t e : TypeId} {v : Value} {y : DataW H × List MemPlace} {f : Nat} (ht : Try.prog.underlying t = some (.slice e)) (he : Try.prog.underlying e = some (.int .u8)) (hc : Try.prog.cellsOf e = 1)
    (h : DataW.trod enc Try.prog w 0 (fun _ => true) true f t [v] = some y) : ∃ s : SlV UInt8, v = s.v ∧ SlOk w bE s := by
  have hv : ∃ a n c, v = .slice a n c := by
    rcases open_slice1 ht hc h with ⟨h1, _⟩ | ⟨x', l', c', _, _, _, _, _, h1, _⟩
    · simp at h1; exact ⟨_, _, _, h1⟩
    · simp at h1; exact ⟨_, _, _, h1⟩
  obtain ⟨a, n, c, rfl⟩ := hv
  obtain ⟨l, h1, h2, h3, h4⟩ := openBytesL (enc := enc) (w := w) (P := Try.prog) (d := y.1) (ps := y.2) ht he hc (a := a) (n := n) (c := c) ⟨f, by simpa [Value.cells] using h⟩
  exact ⟨⟨a, n, c, l⟩, rfl, ⟨h1, ⟨h2, h3⟩, h4⟩⟩
theorem openBlks {t : TypeId} {a : Option Addr} {n c : Nat} (ht : Try.prog.underlying t = some (.slice PRT)) (h : DataW.Trod enc Try.prog w 0 (fun _ => true) true t (.slice a n c) d ps) : ∃ F : Nat → PV, BlksOk w a n c F := by
  have c8 : Try.prog.cellsOf 5 = 1 := by kernel_rfl
  have c64 : Try.prog.cellsOf 3 = 1 := by kernel_rfl
  have c32 : Try.prog.cellsOf 75 = 1 := by kernel_rfl
  obtain ⟨F0, hnc, hcm, hr, hf⟩ := openRows ht Try.underlying33 (by kernel_rfl) (by kernel_rfl) (by decide) h
  replace hr : RdN w a n 8 F0 := hr
  have hrow : ∀ i, i < n → ∃ p : PV, (∀ j, j < 8 → F0 i j = p.cs.getD j undef) ∧ PvOk w p := by
    intro i hi
    obtain ⟨y0, k0, t0⟩ := hf i 0 _ hi rfl
    obtain ⟨y1, k1, t1⟩ := hf i 1 _ hi rfl
    obtain ⟨y2, k2, t2⟩ := hf i 2 _ hi rfl
    obtain ⟨y3, k3, t3⟩ := hf i 3 _ hi rfl
    obtain ⟨y4, k4, t4⟩ := hf i 4 _ hi rfl
    obtain ⟨y5, k5, t5⟩ := hf i 5 _ hi rfl
    obtain ⟨y6, k6, t6⟩ := hf i 6 _ hi rfl
    obtain ⟨y7, k7, t7⟩ := hf i 7 _ hi rfl
    obtain ⟨x0, e0, z0⟩ := open_fint Try.underlying5 t0
    obtain ⟨x1, e1⟩ := open_fbool Try.underlying4 t1
    obtain ⟨x2, e2, g2⟩ := open_fbytes Try.underlying22 Try.underlying5 c8 t2
    obtain ⟨x3, e3, g3, r3⟩ := open_fints Try.underlying30 Try.underlying3 c64 t3
    obtain ⟨x4, e4, g4, r4⟩ := open_fints Try.underlying31 Try.underlying75 c32 t4
    obtain ⟨x5, e5, z5⟩ := open_fint Try.underlying3 t5
    obtain ⟨x6, e6, g6, -⟩ := open_fints Try.underlying30 Try.underlying3 c64 t6
    obtain ⟨x7, e7, g7, -⟩ := open_fints Try.underlying30 Try.underlying3 c64 t7
    refine ⟨⟨x0, x1, x2, x3, x4, x5, x6, x7⟩, ?_, ⟨wf_u8R z0, wf_i64R z5, g2, g3, fun x hx => wf_i64R (r3 x hx), g4, fun x hx => wf_u32R (r4 x hx), g6, g7⟩⟩
    intro j hj
    match j, hj with
    | 0, _ => exact e0
    | 1, _ => exact e1
    | 2, _ => exact e2
    | 3, _ => exact e3
    | 4, _ => exact e4
    | 5, _ => exact e5
    | 6, _ => exact e6
    | 7, _ => exact e7
  refine ⟨fun i => if hi : i < n then Classical.choose (hrow i hi) else ⟨0, false, ⟨none, 0, 0, []⟩, ⟨none, 0, 0, []⟩, ⟨none, 0, 0, []⟩, 0, ⟨none, 0, 0, []⟩, ⟨none, 0, 0, []⟩⟩, ⟨hnc, hcm⟩, ?_, ?_⟩
  · rcases hr with h0 | ⟨b, off, ha, hc⟩
    · exact .inl h0
    · refine .inr ⟨b, off, ha, fun i j hi hj => ?_⟩
      rw [hc i j hi hj]
      simp only [dif_pos hi]
      exact congrArg some ((Classical.choose_spec (hrow i hi)).1 j hj)
  · intro i hi
    simp only [dif_pos hi]
    exact (Classical.choose_spec (hrow i hi)).2
end
end Go.Proofs.Ytgcdeadfkljeaaa
/- InflateBlocks, walked. -/
namespace Go.Proofs.Ytgcdeadfkljeaaa
open Go.RowKit
set_option linter.unusedVariables false
set_option linter.unusedSimpArgs false

theorem BlksOk.at {w : World} {a : Option Addr} {n c : Nat} {F : Nat → PV} (h : BlksOk w a n c F) {w' : World} (hb : Below w.heap.size w w') {i : Nat} (hi : i < n) : PvOk w' (F i) ∧ ∃ b off, a = some ⟨b, off, none⟩ ∧
    w'.cell? ⟨b, off + i * 8, none⟩ = some (.int .u8 (F i).kd) ∧ w'.cell? ⟨b, off + i * 8 + 1, none⟩ = some (.bool (F i).ls) ∧ w'.cell? ⟨b, off + i * 8 + 2, none⟩ = some (F i).row.v ∧ w'.cell? ⟨b, off + i * 8 + 3, none⟩ = some (F i).sg.v ∧
    w'.cell? ⟨b, off + i * 8 + 4, none⟩ = some (F i).mo.v ∧ w'.cell? ⟨b, off + i * 8 + 5, none⟩ = some (.int .i64 (F i).sp) ∧ w'.cell? ⟨b, off + i * 8 + 6, none⟩ = some (F i).le.v ∧ w'.cell? ⟨b, off + i * 8 + 7, none⟩ = some (F i).fa.v := by
  refine ⟨(h.ok i hi).below hb, ?_⟩
  obtain ⟨b, off, ha, hc⟩ := (h.rows.below hb).at hi
  have g : ∀ j, j < 8 → w'.cell? ⟨b, off + i * 8 + j, none⟩ = some ((F i).cs.getD j undef) := fun j hj => by
    have := hc j hj
    rwa [← Nat.add_assoc] at this
  exact ⟨b, off, ha, g 0 (by decide), g 1 (by decide), g 2 (by decide), g 3 (by decide), g 4 (by decide), g 5 (by decide), g 6 (by decide), g 7 (by decide)⟩
set_option maxRecDepth 100000 in
set_option maxHeartbeats 16000000 in
theorem walkInflateBlocks (a : Option Addr) (n c : Nat) (F : Nat → PV) (most : Int) (w : World) (h : BlksOk w a n c F) (hmr : -9223372036854775808 ≤ most ∧ most ≤ 9223372036854775807) :
  Calls Try.prog 4 #[.slice a n c, .int .i64 most] w fun e w' => e = .returned (.bool true) ∧ Below w.heap.size w w' := by
  have mixed : Try.prog.follows .mixedOrders = true := by kernel_rfl
  have H := Lib.hid h
  have hcap := h.cap
  unfold maxLen at hcap
  clear h
  go_enter Try.func4, Try.ntmps4
  go_wp2_with fail
  refine (fixed06_any w).mono ?_
  rintro e w1 ⟨rfl, hb1⟩
  have HB1 := Lib.hid hb1
  clear hb1
  by_cases h1 : 4 < n
  · have c1 : decide ((4 : Int) < (n : Int)) = true := decide_eq_true (by omega)
    go_wp2_with fail
    go_ret
    exact ⟨rfl, HB1.out⟩
  have c1 : decide ((4 : Int) < (n : Int)) = false := decide_eq_false (by omega)
  by_cases h2 : 5000 < most
  · have c2 : decide (5000 < most) = true := decide_eq_true h2
    go_wp2_with fail
    go_ret
    exact ⟨rfl, HB1.out⟩
  have c2 : decide (5000 < most) = false := decide_eq_false h2
  go_wp2
  clear c1 c2
  go_loopw [5, 26] (fun x5 x26 wr => ∃ (i k : Nat) (q : Option Addr) (d : Nat) (L : List Bool), i ≤ n ∧ k ≤ 30000 * i ∧ x5 = .slice q k d ∧ x26 = .int .i64 i ∧ Own wr w.heap.size BLT Value.bool q k d L ∧ Below w.heap.size w wr) (fun _ x26 _ => n - (intOf x26).toNat)
  case atStart => exact ⟨0, 0, none, 0, [], by omega, by omega, rfl, rfl, Own.nil, HB1.out⟩
  case round =>
    clear HB1
    obtain ⟨i, k, q, d, L, hi, hk, rfl, rfl, hO, hB⟩ := hrel
    have hsz := hB.size
    by_cases hin : i < n
    · obtain ⟨hP, b, off, rfl, q0, q1, q2, q3, q4, q5, q6, q7⟩ := H.out.at hB hin
      have HP := Lib.hid hP
      have HO := Lib.hid (And.intro hO hB)
      generalize F i = P at *
      obtain ⟨kd, ls, ⟨pr, nr, cr, lr⟩, ⟨ps, ns, cs, lsg⟩, ⟨pm, nm, cm, lm⟩, sp, ⟨pl, nl, cl, ll⟩, ⟨pf, nf, cf, lf⟩⟩ := P
      replace q0 : wr.cell? ⟨b, off + i * 8, none⟩ = some (.int .u8 kd) := q0
      replace q1 : wr.cell? ⟨b, off + i * 8 + 1, none⟩ = some (.bool ls) := q1
      replace q2 : wr.cell? ⟨b, off + i * 8 + 2, none⟩ = some (.slice pr nr cr) := q2
      replace q3 : wr.cell? ⟨b, off + i * 8 + 3, none⟩ = some (.slice ps ns cs) := q3
      replace q4 : wr.cell? ⟨b, off + i * 8 + 4, none⟩ = some (.slice pm nm cm) := q4
      replace q5 : wr.cell? ⟨b, off + i * 8 + 5, none⟩ = some (.int .i64 sp) := q5
      replace q6 : wr.cell? ⟨b, off + i * 8 + 6, none⟩ = some (.slice pl nl cl) := q6
      replace q7 : wr.cell? ⟨b, off + i * 8 + 7, none⟩ = some (.slice pf nf cf) := q7
      have HBX : Hid (Blk (wr.alloc (.cells #[.int .u8 kd, .bool ls, .slice pr nr cr, .slice ps ns cs, .slice pm nm cm, .int .i64 sp, .slice pl nl cl, .slice pf nf cf] PRT)) wr.heap.size PRT #[.int .u8 kd, .bool ls, .slice pr nr cr, .slice ps ns cs, .slice pm nm cm, .int .i64 sp, .slice pl nl cl, .slice pf nf cf] ∧ Below wr.heap.size wr (wr.alloc (.cells #[.int .u8 kd, .bool ls, .slice pr nr cr, .slice ps ns cs, .slice pm nm cm, .int .i64 sp, .slice pl nl cl, .slice pf nf cf] PRT))) := Lib.hid ⟨Blk.new _ _ _, below_alloc _ _⟩
      clear hP hO hB
      by_cases g1 : 100 < nr
      · have c1 : decide ((100 : Int) < (nr : Int)) = true := decide_eq_true (by omega)
        have HF := Lib.hid (HO.out.2.trans (HBX.out.2.mono hsz))
        go_wp2
        go_ret
        exact ⟨rfl, HF.out⟩
      have c1 : decide ((100 : Int) < (nr : Int)) = false := decide_eq_false (by omega)
      by_cases g2 : 40 < ns
      · have c2 : decide ((40 : Int) < (ns : Int)) = true := decide_eq_true (by omega)
        have HF := Lib.hid (HO.out.2.trans (HBX.out.2.mono hsz))
        go_wp2
        go_ret
        exact ⟨rfl, HF.out⟩
      have cg2 : decide ((40 : Int) < (ns : Int)) = false := decide_eq_false (by omega)
      by_cases g3 : 80 < nm
      · have c2 : decide ((80 : Int) < (nm : Int)) = true := decide_eq_true (by omega)
        have HF := Lib.hid (HO.out.2.trans (HBX.out.2.mono hsz))
        go_wp2
        go_ret
        exact ⟨rfl, HF.out⟩
      have cg3 : decide ((80 : Int) < (nm : Int)) = false := decide_eq_false (by omega)
      by_cases g4 : 286 < nl
      · have c2 : decide ((286 : Int) < (nl : Int)) = true := decide_eq_true (by omega)
        have HF := Lib.hid (HO.out.2.trans (HBX.out.2.mono hsz))
        go_wp2
        go_ret
        exact ⟨rfl, HF.out⟩
      have cg4 : decide ((286 : Int) < (nl : Int)) = false := decide_eq_false (by omega)
      by_cases g5 : 30 < nf
      · have c2 : decide ((30 : Int) < (nf : Int)) = true := decide_eq_true (by omega)
        have HF := Lib.hid (HO.out.2.trans (HBX.out.2.mono hsz))
        go_wp2
        go_ret
        exact ⟨rfl, HF.out⟩
      have cg5 : decide ((30 : Int) < (nf : Int)) = false := decide_eq_false (by omega)
      go_wp2_with (refine wpList_load_row rfl _ _ rfl _ rfl _ _ _ _ HBX.out.1 Try.underlying33 rfl size_prt ?_)
      refine (bits06_any ⟨kd, ls, ⟨pr, nr, cr, lr⟩, ⟨ps, ns, cs, lsg⟩, ⟨pm, nm, cm, lm⟩, sp, ⟨pl, nl, cl, ll⟩, ⟨pf, nf, cf, lf⟩⟩ k _ (HP.out.below HBX.out.2) (by simp only; omega) (by simp only; omega) (by simp only; omega) (by simp only; omega) (by simp only; omega) (by omega)).mono ?_
      rintro e w2 ⟨p2, k2, d2, L2, rfl, hl2, hk2, hr2, hb2⟩
      have hb20 := below_trans0 HBX.out.2 HBX.out.2.size hb2
      have hO2 := HO.out.1.below hb20
      have hB2 := below_trans0 HO.out.2 hsz hb20
      have hs2 := hB2.size
      clear hb2 hb20 q0 q1 q2 q3 q4 q5 q6 q7
      go_wp2_with (at_builtin; refine wpList_cat slBool rfl _ _ rfl rfl hO2 rfl hl2 hr2 (bool_one _) (by omega) (by unfold maxLen; omega) hs2 ?_; intro p3 d3 w3 hown3 hg3 _ _; have hb3 := hO2.step hB2 hg3 hs2; clear hO2 hB2 hg3 hr2)
      go_roundw
      case rel => exact ⟨i + 1, _, p3, d3, _, by omega, by omega, rfl, by go_num, hown3, hb3⟩
      case measure => simp [intOf] <;> omega
    · have hi' : i = n := by omega
      have hkk : k ≤ 120000 := by omega
      have hcm := hO.cap_max
      have hlc := hO.le_cap
      have HX := Lib.hid (And.intro hO hB)
      clear hi' hO hB
      go_wp2_with fail
      refine (rBytes_any q k d L wr HX.out.1.len (by omega) hlc hcm HX.out.1.rd).mono ?_
      rintro e w2 ⟨p2, n2, c2, rfl, hown2, hb2⟩
      have hn2 : n2 ≤ 15000 := by
        have h1 := hown2.len
        have h2 := HX.out.1.len
        rw [← h1]
        unfold bytesL
        rw [bytesK_length, h2]
        omega
      have HL2 := Lib.hid hown2.len
      have HR2 := Lib.hid (And.intro hown2.rd (below_trans0 HX.out.2 hsz hb2))
      clear hown2 hb2
      generalize bytesL L = l2 at *
      have hC1 := infl_any p2 n2 c2 l2 most w2 HL2.out (by omega) HR2.out.1 hmr
      have hC2 := fun w' hr' => rinfl_any p2 n2 c2 l2 most w' HL2.out (by omega) hr' hmr
      unfold InfPost at hC1 hC2
      generalize inflK l2 most = r at *
      obtain ⟨x, kx, er⟩ := r
      simp only at hC1 hC2
      have HC1 := Lib.hid hC1
      have HC2 := Lib.hid hC2
      clear hC1 hC2
      go_wp2_with fail
      refine HC1.out.mono ?_
      rintro e w3 ⟨p3, n3, c3, rfl, hn3, -, hr3, hb3⟩
      have HR3 := Lib.hid (And.intro (HR2.out.1.below hb3) (HR2.out.2.trans (hb3.mono HR2.out.2.size)))
      go_wp2_with fail
      refine (HC2.out w3 HR3.out.1).mono ?_
      rintro e w4 ⟨p4, n4, c4, rfl, hn4, -, hr4, hb4⟩
      have HR4 := Lib.hid (HR3.out.2.trans (hb4.mono HR3.out.2.size))
      have hcv1 := conv_str (P := Try.prog) Try.underlying22 Try.underlying5 Try.underlying9 c3 hn3 (hr3.below hb4)
      have hcv2 := conv_str (P := Try.prog) Try.underlying22 Try.underlying5 Try.underlying9 c4 hn4 hr4
      clear hr3 hb3 hr4 hb4 hn3 hn4 HC1 HC2
      go_wp2
      go_ret
      exact ⟨rfl, HR4.out⟩
end Go.Proofs.Ytgcdeadfkljeaaa
