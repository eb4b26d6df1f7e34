/- packsaddleref12: ReadLocal. -/
import Derived.Test.YtbknkahakmfhkaaRecU
import Derived.Deep.DeepCutAuto
import Derived.Test.YtbknkahakmfhkaaGrowP
import Derived.Test.YtbknkahakmfhkaaKeep
namespace Go.Proofs.Ytbknkahakmfhkaa
open Go.RowKit
set_option linter.unusedVariables false
set_option linter.unusedSimpArgs false

theorem rec_nobyte {w : World} {g : Nat} {r : Rec} (h : Blk w g TR r.arr) : ∀ off (z : UInt8), w.cell? ⟨g, off, none⟩ ≠ some (bE z) := by
  intro off z e
  rw [cell_of_row w g off _ TR (0, 0) h] at e
  rcases off with _|_|_|_|_|_|_|_|off <;> simp [Rec.arr, bE] at e
theorem run_storeBlk {w : World} {g : Nat} {cs cs' : Array Value} (hb : Blk w g TR cs) (hsz : cs'.size = cs.size) (h1 : ∀ u ∈ cs'.toList, u.oneCell' = true) (h8 : cs.size = 8 := by rfl) :
    (Instr.storeAt TR (.pointer (some ⟨g, 0, none⟩)) (.agg cs')).run Try.prog w = .ok () (w.setRow g cs') := by
  have hi8 := size_rec
  obtain ⟨i, hi, hz⟩ := Option.map_eq_some_iff.1 hi8
  have hst := run_storeCells_at Try.prog g 0 TR cs'.toList 0 cs w hb (by simp [hsz]) h1
  simp only [Nat.zero_add, Nat.add_zero] at hst
  simp only [List.take_zero, List.nil_append] at hst
  rw [List.drop_of_length_le (by simp [hsz])] at hst
  simp only [List.append_nil, Array.toArray_toList] at hst
  simp [Instr.storeAt, Instr.sureAddr, storeVar, sizeOf, typeInfo, hi, Value.cells, hz, hsz, h8, hst, go_sem]
def localMs : List Nat := [4, 2, 2, 2, 2, 2, 4, 4, 4, 2, 2]
def localC (v1 v2 v3 v6 v7 v8 v10 : Int) : Bool := v1 == 20 && meth v2 && meth v3 && v10 == 0 && (v2 == 0 || (v6 == 0 && v7 == 0 && v8 == 0))
def localQF (l : List UInt8) (p0 : Nat) (er0 v1 v2 v3 v4 v5 v6 v7 v8 v9 v10 : Int) : (Rec × Bool) × (Nat × Int) :=
  let s5 := (p0, wantE er0 (localC v1 v2 v3 v6 v7 v8 v10))
  (if (tkS l v9 s5).2 = 0 then (⟨v3, v5, v4, v6, v7, v8, tkN l v9 s5, 0⟩, v2 == 8) else (zeroR, false), tkS l v9 s5)
def localQ (l : List UInt8) (s : Nat × Int) : (Rec × Bool) × (Nat × Int) :=
  let V := numV l s localMs
  localQF l (numS l s localMs).1 (markE (numS l s localMs).2 (V.getD 0 0) 67324752) (V.getD 1 0) (V.getD 2 0) (V.getD 3 0) (V.getD 4 0) (V.getD 5 0) (V.getD 6 0) (V.getD 7 0) (V.getD 8 0) (V.getD 9 0) (V.getD 10 0)
set_option maxRecDepth 100000 in
set_option maxHeartbeats 32000000 in
theorem rReadLocal_any (g : Nat) (l : List UInt8) (s : Nat × Int) (w : World) (h : RefOk w g l s.1 s.2) :
  Calls Try.prog 26 #[.pointer (some ⟨g, 0, none⟩)] w fun e w' => e = .returned (.tuple #[.agg (localQ l s).1.1.arr, .bool (localQ l s).1.2]) ∧ RefOk w' g l (localQ l s).2.1 (localQ l s).2.2 ∧ w.grownBy w' (some g) := by
  have hlt := h.lt'
  have hb0 := below_alloc w (.cells zeroR.arr TR)
  have hk2 := Blk.new w TR zeroR.arr
  have hb1 := below_alloc (w.alloc (.cells zeroR.arr TR)) (.cells #[.int .i64 4, .int .i64 2, .int .i64 2, .int .i64 2, .int .i64 2, .int .i64 2, .int .i64 4, .int .i64 4, .int .i64 4, .int .i64 2, .int .i64 2] 3)
  have hr := (h.below hb0).below hb1
  have HLT := Lib.hid hlt
  have HB0 := Lib.hid (hb0.trans (hb1.mono hb0.size))
  have HK2 := Lib.hid (hk2.below hb1)
  have hrd := rd_new2 (E := iR) w (.cells zeroR.arr TR) #[.int .i64 4, .int .i64 2, .int .i64 2, .int .i64 2, .int .i64 2, .int .i64 2, .int .i64 4, .int .i64 4, .int .i64 4, .int .i64 2, .int .i64 2] 3 (localMs.map Int.ofNat) rfl
  have HRD := Lib.hid hrd
  have HRR := Lib.hid hr
  clear h hlt hb0 hk2 hb1 hr hrd
  simp only [zeroR, Rec.arr] at HK2 HRD HRR HB0
  go_enter Try.func26, Try.ntmps26
  go_wp2_with fail
  refine (numbers_any g l s _ 11 11 localMs 67324752 _ HRR.out rfl (by decide) (by decide) (by decide) HRD.out (by intro b off e; simp only [Option.some.injEq, Addr.mk.injEq] at e; have := HLT.out; omega)).mono ?_
  rintro e w1 ⟨a4, c4, rfl, hown, href, hg1⟩
  obtain ⟨o2, ho2⟩ : ∃ o, o = w.heap.size := ⟨_, rfl⟩
  have HO2 : Hid (w.heap.size ≤ o2 ∧ g < o2) := Lib.hid (by have := HLT.out; omega)
  rw [← ho2] at HK2 ⊢
  clear ho2
  have HK21 := Lib.hid (HK2.out.grown hg1 (by have := HO2.out; intro e; simp only [Option.some.injEq] at e; omega))
  have HG1 := Lib.hid (grownBy_trans (grownBy_of_below (some g) HB0.out) hg1)
  obtain ⟨g4, rfl, hg4, hg4l, hcells⟩ := own_cells hown (by decide)
  have HG4 : Hid (w.heap.size ≤ g4 ∧ g < g4 ∧ o2 < g4) := Lib.hid (by have h1 := HB0.out.size; have h2 := HLT.out; have h3 := HK2.out.lt; omega)
  have HC1 := Lib.hid (hcells 1 _ rfl)
  have HC2 := Lib.hid (hcells 2 _ rfl)
  have HC3 := Lib.hid (hcells 3 _ rfl)
  have HC4 := Lib.hid (hcells 4 _ rfl)
  have HC5 := Lib.hid (hcells 5 _ rfl)
  have HC6 := Lib.hid (hcells 6 _ rfl)
  have HC7 := Lib.hid (hcells 7 _ rfl)
  have HC8 := Lib.hid (hcells 8 _ rfl)
  have HC9 := Lib.hid (hcells 9 _ rfl)
  have HC10 := Lib.hid (hcells 10 _ rfl)
  have HQ : Hid (localQ l s = localQF l ((numS l s localMs).1) (markE (numS l s localMs).2 ((numV l s localMs).getD 0 0) 67324752) (rdN l 2 (rdS l 4 s)) (rdN l 2 (rdS l 2 (rdS l 4 s))) (rdN l 2 (rdS l 2 (rdS l 2 (rdS l 4 s)))) (rdN l 2 (rdS l 2 (rdS l 2 (rdS l 2 (rdS l 4 s))))) (rdN l 2 (rdS l 2 (rdS l 2 (rdS l 2 (rdS l 2 (rdS l 4 s)))))) (rdN l 4 (rdS l 2 (rdS l 2 (rdS l 2 (rdS l 2 (rdS l 2 (rdS l 4 s))))))) (rdN l 4 (rdS l 4 (rdS l 2 (rdS l 2 (rdS l 2 (rdS l 2 (rdS l 2 (rdS l 4 s)))))))) (rdN l 4 (rdS l 4 (rdS l 4 (rdS l 2 (rdS l 2 (rdS l 2 (rdS l 2 (rdS l 2 (rdS l 4 s))))))))) (rdN l 2 (rdS l 4 (rdS l 4 (rdS l 4 (rdS l 2 (rdS l 2 (rdS l 2 (rdS l 2 (rdS l 2 (rdS l 4 s)))))))))) (rdN l 2 (rdS l 2 (rdS l 4 (rdS l 4 (rdS l 4 (rdS l 2 (rdS l 2 (rdS l 2 (rdS l 2 (rdS l 2 (rdS l 4 s)))))))))))) := Lib.hid rfl
  have hwcl := rd2_lt l (rdS l 2 (rdS l 2 (rdS l 2 (rdS l 4 s))))
  have WCL := Lib.hid (wrapu16 (rdN l 2 (rdS l 2 (rdS l 2 (rdS l 2 (rdS l 4 s))))) hwcl.1 hwcl.2)
  clear hwcl
  have hwda := rd2_lt l (rdS l 2 (rdS l 2 (rdS l 2 (rdS l 2 (rdS l 4 s)))))
  have WDA := Lib.hid (wrapu16 (rdN l 2 (rdS l 2 (rdS l 2 (rdS l 2 (rdS l 2 (rdS l 4 s)))))) hwda.1 hwda.2)
  clear hwda
  have hwsu := rd4_lt l (rdS l 2 (rdS l 2 (rdS l 2 (rdS l 2 (rdS l 2 (rdS l 4 s))))))
  have WSU := Lib.hid (wrapu32 (rdN l 4 (rdS l 2 (rdS l 2 (rdS l 2 (rdS l 2 (rdS l 2 (rdS l 4 s))))))) hwsu.1 hwsu.2)
  clear hwsu
  have hn9 := rd2_lt l (rdS l 4 (rdS l 4 (rdS l 4 (rdS l 2 (rdS l 2 (rdS l 2 (rdS l 2 (rdS l 2 (rdS l 4 s)))))))))
  have HNR := Lib.hid hn9
  clear hn9
  generalize (rdN l 2 (rdS l 4 s)) = v1 at HC1 HQ
  generalize (rdN l 2 (rdS l 2 (rdS l 4 s))) = v2 at HC2 HQ
  generalize (rdN l 2 (rdS l 2 (rdS l 2 (rdS l 4 s)))) = v3 at HC3 HQ
  generalize (rdN l 2 (rdS l 2 (rdS l 2 (rdS l 2 (rdS l 4 s))))) = v4 at HC4 HQ WCL
  generalize (rdN l 2 (rdS l 2 (rdS l 2 (rdS l 2 (rdS l 2 (rdS l 4 s)))))) = v5 at HC5 HQ WDA
  generalize (rdN l 4 (rdS l 2 (rdS l 2 (rdS l 2 (rdS l 2 (rdS l 2 (rdS l 4 s))))))) = v6 at HC6 HQ WSU
  generalize (rdN l 4 (rdS l 4 (rdS l 2 (rdS l 2 (rdS l 2 (rdS l 2 (rdS l 2 (rdS l 4 s)))))))) = v7 at HC7 HQ
  generalize (rdN l 4 (rdS l 4 (rdS l 4 (rdS l 2 (rdS l 2 (rdS l 2 (rdS l 2 (rdS l 2 (rdS l 4 s))))))))) = v8 at HC8 HQ
  generalize (rdN l 2 (rdS l 4 (rdS l 4 (rdS l 4 (rdS l 2 (rdS l 2 (rdS l 2 (rdS l 2 (rdS l 2 (rdS l 4 s)))))))))) = v9 at HC9 HQ HNR
  generalize (rdN l 2 (rdS l 2 (rdS l 4 (rdS l 4 (rdS l 4 (rdS l 2 (rdS l 2 (rdS l 2 (rdS l 2 (rdS l 2 (rdS l 4 s))))))))))) = v10 at HC10 HQ
  generalize markE (numS l s localMs).2 ((numV l s localMs).getD 0 0) 67324752 = er0 at href HQ
  generalize (numS l s localMs).1 = p0 at href HQ
  have HRF := Lib.hid href
  clear hown href hg1 hcells hg4 hg4l HB0 HK2 HRD HRR
  go_upto_region 2 with fail
  go_cut [] (fun wx => RefOk wx g l p0 (wantE er0 (localC v1 v2 v3 v6 v7 v8 v10)) ∧ w.grownBy wx (some g) ∧ Blk wx o2 TR #[.int .i64 0, .int .u16 0, .int .u16 0, .int .u32 0, .int .i64 0, .int .i64 0, .string ⟨#[]⟩, .int .i64 0] ∧ wx.cell? ⟨g4, 2, none⟩ = some (.int .i64 v2) ∧ wx.cell? ⟨g4, 3, none⟩ = some (.int .i64 v3) ∧ wx.cell? ⟨g4, 4, none⟩ = some (.int .i64 v4) ∧ wx.cell? ⟨g4, 5, none⟩ = some (.int .i64 v5) ∧ wx.cell? ⟨g4, 6, none⟩ = some (.int .i64 v6) ∧ wx.cell? ⟨g4, 7, none⟩ = some (.int .i64 v7) ∧ wx.cell? ⟨g4, 8, none⟩ = some (.int .i64 v8) ∧ wx.cell? ⟨g4, 9, none⟩ = some (.int .i64 v9))
  case first =>
    have c1 := HC1.out
    have c2 := HC2.out
    have c3 := HC3.out
    have c4 := HC4.out
    have c5 := HC5.out
    have c6 := HC6.out
    have c7 := HC7.out
    have c8 := HC8.out
    have c9 := HC9.out
    have c10 := HC10.out
    by_cases x1 : v1 = 20
    · have b1 : (v1 == 20) = true := by simpa using x1
      clear x1
      go_wp2_with fail
      refine (rmethod_any v2 w1).mono ?_
      rintro e w' ⟨rfl, rfl⟩
      cases m2 : meth v2 with
      | true =>
        go_wp2_with fail
        refine (rmethod_any v3 w1).mono ?_
        rintro e w' ⟨rfl, rfl⟩
        cases m3 : meth v3 with
        | true =>
          by_cases x10 : v10 = 0
          · have b10 : (v10 == 0) = true := by simpa using x10
            clear x10
            by_cases x2 : v2 = 0
            · have b2 : (v2 == 0) = true := by simpa using x2
              clear x2
              go_wp2_with fail
              refine (want_any g l p0 er0 true w1 HRF.out).mono ?_
              rintro e wx ⟨rfl, hrx, hgx⟩
              have hne : some g4 ≠ some g := by intro e; simp only [Option.some.injEq] at e; have := HG4.out; omega
              have HLEAF := Lib.hid (show RefOk wx g l p0 (wantE er0 (localC v1 v2 v3 v6 v7 v8 v10)) ∧ w.grownBy wx (some g) ∧ Blk wx o2 TR #[.int .i64 0, .int .u16 0, .int .u16 0, .int .u32 0, .int .i64 0, .int .i64 0, .string ⟨#[]⟩, .int .i64 0] ∧ wx.cell? ⟨g4, 2, none⟩ = some (.int .i64 v2) ∧ wx.cell? ⟨g4, 3, none⟩ = some (.int .i64 v3) ∧ wx.cell? ⟨g4, 4, none⟩ = some (.int .i64 v4) ∧ wx.cell? ⟨g4, 5, none⟩ = some (.int .i64 v5) ∧ wx.cell? ⟨g4, 6, none⟩ = some (.int .i64 v6) ∧ wx.cell? ⟨g4, 7, none⟩ = some (.int .i64 v7) ∧ wx.cell? ⟨g4, 8, none⟩ = some (.int .i64 v8) ∧ wx.cell? ⟨g4, 9, none⟩ = some (.int .i64 v9) from ⟨by rw [show (localC v1 v2 v3 v6 v7 v8 v10) = true from by (unfold localC; simp [b1, m2, m3, b10, b2])]; exact hrx, grownBy_trans HG1.out hgx, HK21.out.grown hgx (by have := HO2.out; intro e; simp only [Option.some.injEq] at e; omega), hgx.cell HC2.out hne, hgx.cell HC3.out hne, hgx.cell HC4.out hne, hgx.cell HC5.out hne, hgx.cell HC6.out hne, hgx.cell HC7.out hne, hgx.cell HC8.out hne, hgx.cell HC9.out hne⟩)
              clear hrx hgx hne
              go_wp2
              go_meet
              exact HLEAF.out
            · have b2 : (v2 == 0) = false := by simpa using x2
              clear x2
              by_cases x6 : v6 = 0
              · have b6 : (v6 == 0) = true := by simpa using x6
                clear x6
                by_cases x7 : v7 = 0
                · have b7 : (v7 == 0) = true := by simpa using x7
                  clear x7
                  by_cases x8 : v8 = 0
                  · have b8 : (v8 == 0) = true := by simpa using x8
                    clear x8
                    go_wp2_with fail
                    refine (want_any g l p0 er0 true w1 HRF.out).mono ?_
                    rintro e wx ⟨rfl, hrx, hgx⟩
                    have hne : some g4 ≠ some g := by intro e; simp only [Option.some.injEq] at e; have := HG4.out; omega
                    have HLEAF := Lib.hid (show RefOk wx g l p0 (wantE er0 (localC v1 v2 v3 v6 v7 v8 v10)) ∧ w.grownBy wx (some g) ∧ Blk wx o2 TR #[.int .i64 0, .int .u16 0, .int .u16 0, .int .u32 0, .int .i64 0, .int .i64 0, .string ⟨#[]⟩, .int .i64 0] ∧ wx.cell? ⟨g4, 2, none⟩ = some (.int .i64 v2) ∧ wx.cell? ⟨g4, 3, none⟩ = some (.int .i64 v3) ∧ wx.cell? ⟨g4, 4, none⟩ = some (.int .i64 v4) ∧ wx.cell? ⟨g4, 5, none⟩ = some (.int .i64 v5) ∧ wx.cell? ⟨g4, 6, none⟩ = some (.int .i64 v6) ∧ wx.cell? ⟨g4, 7, none⟩ = some (.int .i64 v7) ∧ wx.cell? ⟨g4, 8, none⟩ = some (.int .i64 v8) ∧ wx.cell? ⟨g4, 9, none⟩ = some (.int .i64 v9) from ⟨by rw [show (localC v1 v2 v3 v6 v7 v8 v10) = true from by (unfold localC; simp [b1, m2, m3, b10, b2, b6, b7, b8])]; exact hrx, grownBy_trans HG1.out hgx, HK21.out.grown hgx (by have := HO2.out; intro e; simp only [Option.some.injEq] at e; omega), hgx.cell HC2.out hne, hgx.cell HC3.out hne, hgx.cell HC4.out hne, hgx.cell HC5.out hne, hgx.cell HC6.out hne, hgx.cell HC7.out hne, hgx.cell HC8.out hne, hgx.cell HC9.out hne⟩)
                    clear hrx hgx hne
                    go_wp2
                    go_meet
                    exact HLEAF.out
                  · have b8 : (v8 == 0) = false := by simpa using x8
                    clear x8
                    go_wp2_with fail
                    refine (want_any g l p0 er0 false w1 HRF.out).mono ?_
                    rintro e wx ⟨rfl, hrx, hgx⟩
                    have hne : some g4 ≠ some g := by intro e; simp only [Option.some.injEq] at e; have := HG4.out; omega
                    have HLEAF := Lib.hid (show RefOk wx g l p0 (wantE er0 (localC v1 v2 v3 v6 v7 v8 v10)) ∧ w.grownBy wx (some g) ∧ Blk wx o2 TR #[.int .i64 0, .int .u16 0, .int .u16 0, .int .u32 0, .int .i64 0, .int .i64 0, .string ⟨#[]⟩, .int .i64 0] ∧ wx.cell? ⟨g4, 2, none⟩ = some (.int .i64 v2) ∧ wx.cell? ⟨g4, 3, none⟩ = some (.int .i64 v3) ∧ wx.cell? ⟨g4, 4, none⟩ = some (.int .i64 v4) ∧ wx.cell? ⟨g4, 5, none⟩ = some (.int .i64 v5) ∧ wx.cell? ⟨g4, 6, none⟩ = some (.int .i64 v6) ∧ wx.cell? ⟨g4, 7, none⟩ = some (.int .i64 v7) ∧ wx.cell? ⟨g4, 8, none⟩ = some (.int .i64 v8) ∧ wx.cell? ⟨g4, 9, none⟩ = some (.int .i64 v9) from ⟨by rw [show (localC v1 v2 v3 v6 v7 v8 v10) = false from by (unfold localC; simp [b1, m2, m3, b10, b2, b6, b7, b8])]; exact hrx, grownBy_trans HG1.out hgx, HK21.out.grown hgx (by have := HO2.out; intro e; simp only [Option.some.injEq] at e; omega), hgx.cell HC2.out hne, hgx.cell HC3.out hne, hgx.cell HC4.out hne, hgx.cell HC5.out hne, hgx.cell HC6.out hne, hgx.cell HC7.out hne, hgx.cell HC8.out hne, hgx.cell HC9.out hne⟩)
                    clear hrx hgx hne
                    go_wp2
                    go_meet
                    exact HLEAF.out
                · have b7 : (v7 == 0) = false := by simpa using x7
                  clear x7
                  go_wp2_with fail
                  refine (want_any g l p0 er0 false w1 HRF.out).mono ?_
                  rintro e wx ⟨rfl, hrx, hgx⟩
                  have hne : some g4 ≠ some g := by intro e; simp only [Option.some.injEq] at e; have := HG4.out; omega
                  have HLEAF := Lib.hid (show RefOk wx g l p0 (wantE er0 (localC v1 v2 v3 v6 v7 v8 v10)) ∧ w.grownBy wx (some g) ∧ Blk wx o2 TR #[.int .i64 0, .int .u16 0, .int .u16 0, .int .u32 0, .int .i64 0, .int .i64 0, .string ⟨#[]⟩, .int .i64 0] ∧ wx.cell? ⟨g4, 2, none⟩ = some (.int .i64 v2) ∧ wx.cell? ⟨g4, 3, none⟩ = some (.int .i64 v3) ∧ wx.cell? ⟨g4, 4, none⟩ = some (.int .i64 v4) ∧ wx.cell? ⟨g4, 5, none⟩ = some (.int .i64 v5) ∧ wx.cell? ⟨g4, 6, none⟩ = some (.int .i64 v6) ∧ wx.cell? ⟨g4, 7, none⟩ = some (.int .i64 v7) ∧ wx.cell? ⟨g4, 8, none⟩ = some (.int .i64 v8) ∧ wx.cell? ⟨g4, 9, none⟩ = some (.int .i64 v9) from ⟨by rw [show (localC v1 v2 v3 v6 v7 v8 v10) = false from by (unfold localC; simp [b1, m2, m3, b10, b2, b6, b7])]; exact hrx, grownBy_trans HG1.out hgx, HK21.out.grown hgx (by have := HO2.out; intro e; simp only [Option.some.injEq] at e; omega), hgx.cell HC2.out hne, hgx.cell HC3.out hne, hgx.cell HC4.out hne, hgx.cell HC5.out hne, hgx.cell HC6.out hne, hgx.cell HC7.out hne, hgx.cell HC8.out hne, hgx.cell HC9.out hne⟩)
                  clear hrx hgx hne
                  go_wp2
                  go_meet
                  exact HLEAF.out
              · have b6 : (v6 == 0) = false := by simpa using x6
                clear x6
                go_wp2_with fail
                refine (want_any g l p0 er0 false w1 HRF.out).mono ?_
                rintro e wx ⟨rfl, hrx, hgx⟩
                have hne : some g4 ≠ some g := by intro e; simp only [Option.some.injEq] at e; have := HG4.out; omega
                have HLEAF := Lib.hid (show RefOk wx g l p0 (wantE er0 (localC v1 v2 v3 v6 v7 v8 v10)) ∧ w.grownBy wx (some g) ∧ Blk wx o2 TR #[.int .i64 0, .int .u16 0, .int .u16 0, .int .u32 0, .int .i64 0, .int .i64 0, .string ⟨#[]⟩, .int .i64 0] ∧ wx.cell? ⟨g4, 2, none⟩ = some (.int .i64 v2) ∧ wx.cell? ⟨g4, 3, none⟩ = some (.int .i64 v3) ∧ wx.cell? ⟨g4, 4, none⟩ = some (.int .i64 v4) ∧ wx.cell? ⟨g4, 5, none⟩ = some (.int .i64 v5) ∧ wx.cell? ⟨g4, 6, none⟩ = some (.int .i64 v6) ∧ wx.cell? ⟨g4, 7, none⟩ = some (.int .i64 v7) ∧ wx.cell? ⟨g4, 8, none⟩ = some (.int .i64 v8) ∧ wx.cell? ⟨g4, 9, none⟩ = some (.int .i64 v9) from ⟨by rw [show (localC v1 v2 v3 v6 v7 v8 v10) = false from by (unfold localC; simp [b1, m2, m3, b10, b2, b6])]; exact hrx, grownBy_trans HG1.out hgx, HK21.out.grown hgx (by have := HO2.out; intro e; simp only [Option.some.injEq] at e; omega), hgx.cell HC2.out hne, hgx.cell HC3.out hne, hgx.cell HC4.out hne, hgx.cell HC5.out hne, hgx.cell HC6.out hne, hgx.cell HC7.out hne, hgx.cell HC8.out hne, hgx.cell HC9.out hne⟩)
                clear hrx hgx hne
                go_wp2
                go_meet
                exact HLEAF.out
          · have b10 : (v10 == 0) = false := by simpa using x10
            clear x10
            go_wp2_with fail
            refine (want_any g l p0 er0 false w1 HRF.out).mono ?_
            rintro e wx ⟨rfl, hrx, hgx⟩
            have hne : some g4 ≠ some g := by intro e; simp only [Option.some.injEq] at e; have := HG4.out; omega
            have HLEAF := Lib.hid (show RefOk wx g l p0 (wantE er0 (localC v1 v2 v3 v6 v7 v8 v10)) ∧ w.grownBy wx (some g) ∧ Blk wx o2 TR #[.int .i64 0, .int .u16 0, .int .u16 0, .int .u32 0, .int .i64 0, .int .i64 0, .string ⟨#[]⟩, .int .i64 0] ∧ wx.cell? ⟨g4, 2, none⟩ = some (.int .i64 v2) ∧ wx.cell? ⟨g4, 3, none⟩ = some (.int .i64 v3) ∧ wx.cell? ⟨g4, 4, none⟩ = some (.int .i64 v4) ∧ wx.cell? ⟨g4, 5, none⟩ = some (.int .i64 v5) ∧ wx.cell? ⟨g4, 6, none⟩ = some (.int .i64 v6) ∧ wx.cell? ⟨g4, 7, none⟩ = some (.int .i64 v7) ∧ wx.cell? ⟨g4, 8, none⟩ = some (.int .i64 v8) ∧ wx.cell? ⟨g4, 9, none⟩ = some (.int .i64 v9) from ⟨by rw [show (localC v1 v2 v3 v6 v7 v8 v10) = false from by (unfold localC; simp [b1, m2, m3, b10])]; exact hrx, grownBy_trans HG1.out hgx, HK21.out.grown hgx (by have := HO2.out; intro e; simp only [Option.some.injEq] at e; omega), hgx.cell HC2.out hne, hgx.cell HC3.out hne, hgx.cell HC4.out hne, hgx.cell HC5.out hne, hgx.cell HC6.out hne, hgx.cell HC7.out hne, hgx.cell HC8.out hne, hgx.cell HC9.out hne⟩)
            clear hrx hgx hne
            go_wp2
            go_meet
            exact HLEAF.out
        | false =>
          go_wp2_with fail
          refine (want_any g l p0 er0 false w1 HRF.out).mono ?_
          rintro e wx ⟨rfl, hrx, hgx⟩
          have hne : some g4 ≠ some g := by intro e; simp only [Option.some.injEq] at e; have := HG4.out; omega
          have HLEAF := Lib.hid (show RefOk wx g l p0 (wantE er0 (localC v1 v2 v3 v6 v7 v8 v10)) ∧ w.grownBy wx (some g) ∧ Blk wx o2 TR #[.int .i64 0, .int .u16 0, .int .u16 0, .int .u32 0, .int .i64 0, .int .i64 0, .string ⟨#[]⟩, .int .i64 0] ∧ wx.cell? ⟨g4, 2, none⟩ = some (.int .i64 v2) ∧ wx.cell? ⟨g4, 3, none⟩ = some (.int .i64 v3) ∧ wx.cell? ⟨g4, 4, none⟩ = some (.int .i64 v4) ∧ wx.cell? ⟨g4, 5, none⟩ = some (.int .i64 v5) ∧ wx.cell? ⟨g4, 6, none⟩ = some (.int .i64 v6) ∧ wx.cell? ⟨g4, 7, none⟩ = some (.int .i64 v7) ∧ wx.cell? ⟨g4, 8, none⟩ = some (.int .i64 v8) ∧ wx.cell? ⟨g4, 9, none⟩ = some (.int .i64 v9) from ⟨by rw [show (localC v1 v2 v3 v6 v7 v8 v10) = false from by (unfold localC; simp [b1, m2, m3])]; exact hrx, grownBy_trans HG1.out hgx, HK21.out.grown hgx (by have := HO2.out; intro e; simp only [Option.some.injEq] at e; omega), hgx.cell HC2.out hne, hgx.cell HC3.out hne, hgx.cell HC4.out hne, hgx.cell HC5.out hne, hgx.cell HC6.out hne, hgx.cell HC7.out hne, hgx.cell HC8.out hne, hgx.cell HC9.out hne⟩)
          clear hrx hgx hne
          go_wp2
          go_meet
          exact HLEAF.out
      | false =>
        go_wp2_with fail
        refine (want_any g l p0 er0 false w1 HRF.out).mono ?_
        rintro e wx ⟨rfl, hrx, hgx⟩
        have hne : some g4 ≠ some g := by intro e; simp only [Option.some.injEq] at e; have := HG4.out; omega
        have HLEAF := Lib.hid (show RefOk wx g l p0 (wantE er0 (localC v1 v2 v3 v6 v7 v8 v10)) ∧ w.grownBy wx (some g) ∧ Blk wx o2 TR #[.int .i64 0, .int .u16 0, .int .u16 0, .int .u32 0, .int .i64 0, .int .i64 0, .string ⟨#[]⟩, .int .i64 0] ∧ wx.cell? ⟨g4, 2, none⟩ = some (.int .i64 v2) ∧ wx.cell? ⟨g4, 3, none⟩ = some (.int .i64 v3) ∧ wx.cell? ⟨g4, 4, none⟩ = some (.int .i64 v4) ∧ wx.cell? ⟨g4, 5, none⟩ = some (.int .i64 v5) ∧ wx.cell? ⟨g4, 6, none⟩ = some (.int .i64 v6) ∧ wx.cell? ⟨g4, 7, none⟩ = some (.int .i64 v7) ∧ wx.cell? ⟨g4, 8, none⟩ = some (.int .i64 v8) ∧ wx.cell? ⟨g4, 9, none⟩ = some (.int .i64 v9) from ⟨by rw [show (localC v1 v2 v3 v6 v7 v8 v10) = false from by (unfold localC; simp [b1, m2])]; exact hrx, grownBy_trans HG1.out hgx, HK21.out.grown hgx (by have := HO2.out; intro e; simp only [Option.some.injEq] at e; omega), hgx.cell HC2.out hne, hgx.cell HC3.out hne, hgx.cell HC4.out hne, hgx.cell HC5.out hne, hgx.cell HC6.out hne, hgx.cell HC7.out hne, hgx.cell HC8.out hne, hgx.cell HC9.out hne⟩)
        clear hrx hgx hne
        go_wp2
        go_meet
        exact HLEAF.out
    · have b1 : (v1 == 20) = false := by simpa using x1
      clear x1
      go_wp2_with fail
      refine (want_any g l p0 er0 false w1 HRF.out).mono ?_
      rintro e wx ⟨rfl, hrx, hgx⟩
      have hne : some g4 ≠ some g := by intro e; simp only [Option.some.injEq] at e; have := HG4.out; omega
      have HLEAF := Lib.hid (show RefOk wx g l p0 (wantE er0 (localC v1 v2 v3 v6 v7 v8 v10)) ∧ w.grownBy wx (some g) ∧ Blk wx o2 TR #[.int .i64 0, .int .u16 0, .int .u16 0, .int .u32 0, .int .i64 0, .int .i64 0, .string ⟨#[]⟩, .int .i64 0] ∧ wx.cell? ⟨g4, 2, none⟩ = some (.int .i64 v2) ∧ wx.cell? ⟨g4, 3, none⟩ = some (.int .i64 v3) ∧ wx.cell? ⟨g4, 4, none⟩ = some (.int .i64 v4) ∧ wx.cell? ⟨g4, 5, none⟩ = some (.int .i64 v5) ∧ wx.cell? ⟨g4, 6, none⟩ = some (.int .i64 v6) ∧ wx.cell? ⟨g4, 7, none⟩ = some (.int .i64 v7) ∧ wx.cell? ⟨g4, 8, none⟩ = some (.int .i64 v8) ∧ wx.cell? ⟨g4, 9, none⟩ = some (.int .i64 v9) from ⟨by rw [show (localC v1 v2 v3 v6 v7 v8 v10) = false from by (unfold localC; simp [b1])]; exact hrx, grownBy_trans HG1.out hgx, HK21.out.grown hgx (by have := HO2.out; intro e; simp only [Option.some.injEq] at e; omega), hgx.cell HC2.out hne, hgx.cell HC3.out hne, hgx.cell HC4.out hne, hgx.cell HC5.out hne, hgx.cell HC6.out hne, hgx.cell HC7.out hne, hgx.cell HC8.out hne, hgx.cell HC9.out hne⟩)
      clear hrx hgx hne
      go_wp2
      go_meet
      exact HLEAF.out
  case rest =>
    have HX := Lib.hid hcut
    clear hcut HRF HG1 HK21 HC1 HC2 HC3 HC4 HC5 HC6 HC7 HC8 HC9 HC10
    have cn := HX.out.2.2.2.2.2.2.2.2.2.2
    obtain ⟨er1, her1⟩ : ∃ e, wantE er0 (localC v1 v2 v3 v6 v7 v8 v10) = e := ⟨_, rfl⟩
    have HER := Lib.hid her1
    clear her1
    go_wp2_with fail
    refine (rTake_any g l p0 _ v9 wc HX.out.1 (by have := HNR.out; omega) (by have := HNR.out; omega)).mono ?_
    rw [HER.out]
    rintro e wt ⟨a5, n5, c5, rfl, hl5, hr5, hrt, hgt⟩
    have hne : some g4 ≠ some g := by intro e; simp only [Option.some.injEq] at e; have := HG4.out; omega
    have HT2 := Lib.hid (hgt.cell HX.out.2.2.2.1 hne)
    have HT3 := Lib.hid (hgt.cell HX.out.2.2.2.2.1 hne)
    have HT4 := Lib.hid (hgt.cell HX.out.2.2.2.2.2.1 hne)
    have HT5 := Lib.hid (hgt.cell HX.out.2.2.2.2.2.2.1 hne)
    have HT6 := Lib.hid (hgt.cell HX.out.2.2.2.2.2.2.2.1 hne)
    have HT7 := Lib.hid (hgt.cell HX.out.2.2.2.2.2.2.2.2.1 hne)
    have HT8 := Lib.hid (hgt.cell HX.out.2.2.2.2.2.2.2.2.2.1 hne)
    have HKT := Lib.hid (HX.out.2.2.1.grown hgt (by have := HO2.out; intro e; simp only [Option.some.injEq] at e; omega))
    have HGT := Lib.hid (grownBy_trans HX.out.2.1 hgt)
    have HRT : Hid (RefOk wt g l (tkS l v9 (p0, er1)).1 (tkS l v9 (p0, er1)).2) := Lib.hid hrt
    have HL5 := Lib.hid (And.intro hl5 hr5)
    have HQ2 : Hid (localQ l s = (if (tkS l v9 (p0, er1)).2 = 0 then (⟨v3, v5, v4, v6, v7, v8, tkN l v9 (p0, er1), 0⟩, v2 == 8) else (zeroR, false), tkS l v9 (p0, er1))) := Lib.hid (by rw [HQ.out]; unfold localQF; simp only []; rw [HER.out])
    obtain ⟨aa, nn, cc, hbk, -⟩ := hrt.ex
    have qe : wt.cell? ⟨g, 2, none⟩ = some (.int .i64 (tkS l v9 (p0, er1)).2) := hbk.cell (i := 2) rfl
    clear cn hl5 hr5 hrt hgt hbk HX hne HQ HER
    by_cases he : (tkS l v9 (p0, er1)).2 = 0
    · rw [he] at qe
      rw [if_pos he] at HQ2
      have HRT0 : Hid (RefOk wt g l (tkS l v9 (p0, er1)).1 (tkS l v9 (p0, er1)).2) := HRT
      clear he
      go_wp2_with fail
      clear qe
      generalize wt = w1 at HL5 HKT HGT HRT HRT0 HT2 HT3 HT4 HT5 HT6 HT7 HT8 ⊢
      have hkD : Blk w1.drew o2 TR #[.int .i64 0, .int .u16 0, .int .u16 0, .int .u32 0, .int .i64 0, .int .i64 0, .string ⟨#[]⟩, .int .i64 0] := HKT.out
      have HRB : Hid (∀ w', w1.drew.grownBy w' (some o2) → Rd w' bE a5 (nextL l p0 er1 v9 true)) := Lib.hid (fun w' hg => (show Rd w1.drew bE a5 (nextL l p0 er1 v9 true) from HL5.out.2).keep (keep_of_grown hg (rec_nobyte (r := zeroR) hkD)))
      have HD2 : Hid (w1.drew.cell? ⟨g4, 2, none⟩ = some (.int .i64 v2)) := Lib.hid HT2.out
      have HD3 : Hid (w1.drew.cell? ⟨g4, 3, none⟩ = some (.int .i64 v3)) := Lib.hid HT3.out
      have HD4 : Hid (w1.drew.cell? ⟨g4, 4, none⟩ = some (.int .i64 v4)) := Lib.hid HT4.out
      have HD5 : Hid (w1.drew.cell? ⟨g4, 5, none⟩ = some (.int .i64 v5)) := Lib.hid HT5.out
      have HD6 : Hid (w1.drew.cell? ⟨g4, 6, none⟩ = some (.int .i64 v6)) := Lib.hid HT6.out
      have HD7 : Hid (w1.drew.cell? ⟨g4, 7, none⟩ = some (.int .i64 v7)) := Lib.hid HT7.out
      have HD8 : Hid (w1.drew.cell? ⟨g4, 8, none⟩ = some (.int .i64 v8)) := Lib.hid HT8.out
      have HKD := Lib.hid hkD
      have HRTD : Hid (RefOk w1.drew g l (tkS l v9 (p0, er1)).1 (tkS l v9 (p0, er1)).2) := Lib.hid (HRT.out.below (below_drewN w1 _ 1))
      have HGTD : Hid (w.grownBy w1.drew (some g)) := Lib.hid (grownBy_trans HGT.out (grownBy_of_below (some g) (below_drewN w1 _ 1)))
      have HLN := Lib.hid HL5.out.1
      have HNE : Hid ((some g4 : Option Nat) ≠ some o2) := Lib.hid (by intro e; simp only [Option.some.injEq] at e; have := HG4.out; omega)
      clear hkD HKT HGT HRT HRT0 HL5 HT2 HT3 HT4 HT5 HT6 HT7 HT8
      refine wp_region_growA TS (IT w1.drew 29 o2 (fun w' => w' = w1.drew.setRow o2 #[.int .i64 v3, .int .u16 v5, .int .u16 v4, .int .u32 v6, .int .i64 v7, .int .i64 v8, .string (tkN l v9 (p0, er1)), .int .i64 0])) (by kernel_rfl) (by kernel_rfl) (by rfl) (IT.start _) ?_
      generalize w1.drew = wd at HRB HKD HRTD HGTD HD2 HD3 HD4 HD5 HD6 HD7 HD8 ⊢
      apply ga_val _ (fun L a' w' _ _ h => h.pure (by decide) _ _)
      · intro a' w' L hL haf hi hk
        refine ⟨wanted_none rfl, ?_⟩
        simp [Oper.looksAt, Op.operands, Call.operands, KnownAt, List.lookup, consD] at hk
        simp [execOp, Act.eval, hk, go_sem]
        all_goals rfl
      apply ga_val _ (fun L a' w' _ _ h => h.pure (by decide) _ _)
      · intro a' w' L hL haf hi hk
        refine ⟨wanted_none rfl, ?_⟩
        simp [Oper.looksAt, Op.operands, Call.operands, KnownAt, List.lookup, consD] at hk
        simp [execOp, Act.eval, hk, go_sem]
        all_goals rfl
      refine ga_val (.int .i64 v3) (fun L a' w' _ _ h => h.pure (by decide) _ _) ?_ ?_
      · intro a' w' L hL haf hi hk
        refine ⟨wanted_none rfl, ?_⟩
        have hq := hi.1.cell HD3.out HNE.out
        simp [Oper.looksAt, Op.operands, Call.operands, KnownAt, List.lookup, consD] at hk
        simp [execOp, Act.eval, hk, go_sem, hq]
        all_goals rfl
      apply ga_val _ (fun L a' w' _ _ h => h.pure (by decide) _ _)
      · intro a' w' L hL haf hi hk
        refine ⟨wanted_none rfl, ?_⟩
        simp [Oper.looksAt, Op.operands, Call.operands, KnownAt, List.lookup, consD] at hk
        simp [execOp, Act.eval, hk, go_sem]
        all_goals rfl
      apply ga_val _ (fun L a' w' _ _ h => h.pure (by decide) _ _)
      · intro a' w' L hL haf hi hk
        refine ⟨wanted_none rfl, ?_⟩
        simp [Oper.looksAt, Op.operands, Call.operands, KnownAt, List.lookup, consD] at hk
        simp [execOp, Act.eval, hk, go_sem]
        all_goals rfl
      refine ga_val (.int .i64 v4) (fun L a' w' _ _ h => h.pure (by decide) _ _) ?_ ?_
      · intro a' w' L hL haf hi hk
        refine ⟨wanted_none rfl, ?_⟩
        have hq := hi.1.cell HD4.out HNE.out
        simp [Oper.looksAt, Op.operands, Call.operands, KnownAt, List.lookup, consD] at hk
        simp [execOp, Act.eval, hk, go_sem, hq]
        all_goals rfl
      refine ga_val (.int .u16 v4) (fun L a' w' _ _ h => h.pure (by decide) _ _) ?_ ?_
      · intro a' w' L hL haf hi hk
        refine ⟨wanted_none rfl, ?_⟩
        simp [Oper.looksAt, Op.operands, Call.operands, KnownAt, List.lookup, consD] at hk
        simp [execOp, Act.eval, hk, go_sem, WCL.out]
        all_goals rfl
      apply ga_val _ (fun L a' w' _ _ h => h.pure (by decide) _ _)
      · intro a' w' L hL haf hi hk
        refine ⟨wanted_none rfl, ?_⟩
        simp [Oper.looksAt, Op.operands, Call.operands, KnownAt, List.lookup, consD] at hk
        simp [execOp, Act.eval, hk, go_sem]
        all_goals rfl
      apply ga_val _ (fun L a' w' _ _ h => h.pure (by decide) _ _)
      · intro a' w' L hL haf hi hk
        refine ⟨wanted_none rfl, ?_⟩
        simp [Oper.looksAt, Op.operands, Call.operands, KnownAt, List.lookup, consD] at hk
        simp [execOp, Act.eval, hk, go_sem]
        all_goals rfl
      refine ga_val (.int .i64 v5) (fun L a' w' _ _ h => h.pure (by decide) _ _) ?_ ?_
      · intro a' w' L hL haf hi hk
        refine ⟨wanted_none rfl, ?_⟩
        have hq := hi.1.cell HD5.out HNE.out
        simp [Oper.looksAt, Op.operands, Call.operands, KnownAt, List.lookup, consD] at hk
        simp [execOp, Act.eval, hk, go_sem, hq]
        all_goals rfl
      refine ga_val (.int .u16 v5) (fun L a' w' _ _ h => h.pure (by decide) _ _) ?_ ?_
      · intro a' w' L hL haf hi hk
        refine ⟨wanted_none rfl, ?_⟩
        simp [Oper.looksAt, Op.operands, Call.operands, KnownAt, List.lookup, consD] at hk
        simp [execOp, Act.eval, hk, go_sem, WDA.out]
        all_goals rfl
      apply ga_val _ (fun L a' w' _ _ h => h.pure (by decide) _ _)
      · intro a' w' L hL haf hi hk
        refine ⟨wanted_none rfl, ?_⟩
        simp [Oper.looksAt, Op.operands, Call.operands, KnownAt, List.lookup, consD] at hk
        simp [execOp, Act.eval, hk, go_sem]
        all_goals rfl
      apply ga_val _ (fun L a' w' _ _ h => h.pure (by decide) _ _)
      · intro a' w' L hL haf hi hk
        refine ⟨wanted_none rfl, ?_⟩
        simp [Oper.looksAt, Op.operands, Call.operands, KnownAt, List.lookup, consD] at hk
        simp [execOp, Act.eval, hk, go_sem]
        all_goals rfl
      apply ga_val _ (fun L a' w' _ _ h => h.pure (by decide) _ _)
      · intro a' w' L hL haf hi hk
        refine ⟨wanted_none rfl, ?_⟩
        simp [Oper.looksAt, Op.operands, Call.operands, KnownAt, List.lookup, consD] at hk
        simp [execOp, Act.eval, hk, go_sem]
        all_goals rfl
      refine ga_val (.int .i64 v6) (fun L a' w' _ _ h => h.pure (by decide) _ _) ?_ ?_
      · intro a' w' L hL haf hi hk
        refine ⟨wanted_none rfl, ?_⟩
        have hq := hi.1.cell HD6.out HNE.out
        simp [Oper.looksAt, Op.operands, Call.operands, KnownAt, List.lookup, consD] at hk
        simp [execOp, Act.eval, hk, go_sem, hq]
        all_goals rfl
      refine ga_val (.int .u32 v6) (fun L a' w' _ _ h => h.pure (by decide) _ _) ?_ ?_
      · intro a' w' L hL haf hi hk
        refine ⟨wanted_none rfl, ?_⟩
        simp [Oper.looksAt, Op.operands, Call.operands, KnownAt, List.lookup, consD] at hk
        simp [execOp, Act.eval, hk, go_sem, WSU.out]
        all_goals rfl
      apply ga_val _ (fun L a' w' _ _ h => h.pure (by decide) _ _)
      · intro a' w' L hL haf hi hk
        refine ⟨wanted_none rfl, ?_⟩
        simp [Oper.looksAt, Op.operands, Call.operands, KnownAt, List.lookup, consD] at hk
        simp [execOp, Act.eval, hk, go_sem]
        all_goals rfl
      apply ga_val _ (fun L a' w' _ _ h => h.pure (by decide) _ _)
      · intro a' w' L hL haf hi hk
        refine ⟨wanted_none rfl, ?_⟩
        simp [Oper.looksAt, Op.operands, Call.operands, KnownAt, List.lookup, consD] at hk
        simp [execOp, Act.eval, hk, go_sem]
        all_goals rfl
      refine ga_val (.int .i64 v7) (fun L a' w' _ _ h => h.pure (by decide) _ _) ?_ ?_
      · intro a' w' L hL haf hi hk
        refine ⟨wanted_none rfl, ?_⟩
        have hq := hi.1.cell HD7.out HNE.out
        simp [Oper.looksAt, Op.operands, Call.operands, KnownAt, List.lookup, consD] at hk
        simp [execOp, Act.eval, hk, go_sem, hq]
        all_goals rfl
      apply ga_val _ (fun L a' w' _ _ h => h.pure (by decide) _ _)
      · intro a' w' L hL haf hi hk
        refine ⟨wanted_none rfl, ?_⟩
        simp [Oper.looksAt, Op.operands, Call.operands, KnownAt, List.lookup, consD] at hk
        simp [execOp, Act.eval, hk, go_sem]
        all_goals rfl
      apply ga_val _ (fun L a' w' _ _ h => h.pure (by decide) _ _)
      · intro a' w' L hL haf hi hk
        refine ⟨wanted_none rfl, ?_⟩
        simp [Oper.looksAt, Op.operands, Call.operands, KnownAt, List.lookup, consD] at hk
        simp [execOp, Act.eval, hk, go_sem]
        all_goals rfl
      refine ga_val (.int .i64 v8) (fun L a' w' _ _ h => h.pure (by decide) _ _) ?_ ?_
      · intro a' w' L hL haf hi hk
        refine ⟨wanted_none rfl, ?_⟩
        have hq := hi.1.cell HD8.out HNE.out
        simp [Oper.looksAt, Op.operands, Call.operands, KnownAt, List.lookup, consD] at hk
        simp [execOp, Act.eval, hk, go_sem, hq]
        all_goals rfl
      apply ga_val _ (fun L a' w' _ _ h => h.pure (by decide) _ _)
      · intro a' w' L hL haf hi hk
        refine ⟨wanted_none rfl, ?_⟩
        simp [Oper.looksAt, Op.operands, Call.operands, KnownAt, List.lookup, consD] at hk
        simp [execOp, Act.eval, hk, go_sem]
        all_goals rfl
      refine ga_val (.string (strOf (nextL l p0 er1 v9 true))) (fun L a' w' _ _ h => h.pure (by decide) _ _) ?_ ?_
      · intro a' w' L hL haf hi hk
        refine ⟨wanted_none rfl, ?_⟩
        have hq := conv_str (P := Try.prog) Try.underlying29 Try.underlying5 Try.underlying9 c5 HLN.out (HRB.out w' hi.1)
        simp [Oper.looksAt, Op.operands, Call.operands, KnownAt, List.lookup, consD] at hk
        simp [execOp, Act.eval, hk, go_sem, hq]
        all_goals rfl
      refine ga_val (.agg #[.int .i64 v3, .int .u16 v5, .int .u16 v4, .int .u32 v6, .int .i64 v7, .int .i64 v8, .string (tkN l v9 (p0, er1)), .int .i64 0]) (fun L a' w' _ _ h => h.pure (by decide) _ _) ?_ ?_
      · intro a' w' L hL haf hi hk
        refine ⟨wanted_none rfl, ?_⟩
        simp [Oper.looksAt, Op.operands, Call.operands, KnownAt, List.lookup, consD] at hk
        simp [execOp, Act.eval, hk, go_sem]
        all_goals rfl
      apply ga_val _ (fun L a' w' _ _ h => h.pure (by decide) _ _)
      · intro a' w' L hL haf hi hk
        refine ⟨wanted_none rfl, ?_⟩
        simp [Oper.looksAt, Op.operands, Call.operands, KnownAt, List.lookup, consD] at hk
        simp [execOp, Act.eval, hk, go_sem]
        all_goals rfl
      apply ga_val _ (fun L a' w' _ _ h => h.pure (by decide) _ _)
      · intro a' w' L hL haf hi hk
        refine ⟨wanted_none rfl, ?_⟩
        simp [Oper.looksAt, Op.operands, Call.operands, KnownAt, List.lookup, consD] at hk
        simp [execOp, Act.eval, hk, go_sem]
        all_goals rfl
      refine ga_val (.int .i64 v2) (fun L a' w' _ _ h => h.pure (by decide) _ _) ?_ ?_
      · intro a' w' L hL haf hi hk
        refine ⟨wanted_none rfl, ?_⟩
        have hq := hi.1.cell HD2.out HNE.out
        simp [Oper.looksAt, Op.operands, Call.operands, KnownAt, List.lookup, consD] at hk
        simp [execOp, Act.eval, hk, go_sem, hq]
        all_goals rfl
      refine ga_val (.bool (v2 == 8)) (fun L a' w' _ _ h => h.pure (by decide) _ _) ?_ ?_
      · intro a' w' L hL haf hi hk
        refine ⟨wanted_none rfl, ?_⟩
        simp [Oper.looksAt, Op.operands, Call.operands, KnownAt, List.lookup, consD] at hk
        simp [execOp, Act.eval, hk, go_sem]
        all_goals rfl
      refine ga_op (fun _ _ => True) monoT_any ?_ ?_
      · intro a' w' L hsz hL haf hi hk
        have hw := hi.2.1 hL
        subst hw
        refine ⟨wanted_none rfl, ?_⟩
        have hrun := run_storeBlk (w := w') (cs' := #[.int .i64 v3, .int .u16 v5, .int .u16 v4, .int .u32 v6, .int .i64 v7, .int .i64 v8, .string (tkN l v9 (p0, er1)), .int .i64 0]) HKD.out rfl (Rec.one ⟨v3, v5, v4, v6, v7, v8, tkN l v9 (p0, er1), 0⟩)
        simp [Oper.looksAt, Op.operands, Call.operands, KnownAt, List.lookup, consD] at hk
        unfold Oper.wp
        simp [execOp, Act.eval, hk, hrun, Oper.upon, Result.andThen]
        exact ⟨⟨undef, rfl⟩, hi.done (grownBy_setRow _ _ _) rfl none undef⟩
      refine ga_val (.bool (v2 == 8)) (fun L a' w' _ _ h => h.pure (by decide) _ _) ?_ ?_
      · intro a' w' L hL haf hi hk
        refine ⟨wanted_none rfl, ?_⟩
        simp [Oper.looksAt, Op.operands, Call.operands, KnownAt, List.lookup, consD] at hk
        simp [execOp, Act.eval, hk, go_sem]
        all_goals rfl
      intro vs w' L hall hi hval
      have hw := hi.2.2 (hall 29 (by decide))
      subst hw
      simp only [consD, putAllS, Act.put]
      simp only [AllS, consD] at hval
      obtain ⟨h3, -⟩ := hval
      rw [h3]
      simp only [List.setIfInBounds_toArray, List.set_cons_succ, List.set_cons_zero]
      have d0 : Blk (wd.setRow o2 #[.int .i64 v3, .int .u16 v5, .int .u16 v4, .int .u32 v6, .int .i64 v7, .int .i64 v8, .string (tkN l v9 (p0, er1)), .int .i64 0]) o2 TR #[.int .i64 v3, .int .u16 v5, .int .u16 v4, .int .u32 v6, .int .i64 v7, .int .i64 v8, .string (tkN l v9 (p0, er1)), .int .i64 0] := setRow_heap wd o2 _ #[.int .i64 v3, .int .u16 v5, .int .u16 v4, .int .u32 v6, .int .i64 v7, .int .i64 v8, .string (tkN l v9 (p0, er1)), .int .i64 0] TR (0, 0) HKD.out
      have dg := grownBy_setRow wd o2 #[.int .i64 v3, .int .u16 v5, .int .u16 v4, .int .u32 v6, .int .i64 v7, .int .i64 v8, .string (tkN l v9 (p0, er1)), .int .i64 0]
      clear hi hall h3
      generalize wd.setRow o2 #[.int .i64 v3, .int .u16 v5, .int .u16 v4, .int .u32 v6, .int .i64 v7, .int .i64 v8, .string (tkN l v9 (p0, er1)), .int .i64 0] = we at d0 dg ⊢
      go_wp2
      refine bodyPost_ret (results_cell_row2 (p := 2) (u := 3) rfl _ _ o2 _ _ _ _ rfl d0 Try.underlying27 rfl size_rec) rfl ?_
      rw [HQ2.out]
      exact ⟨rfl, HRTD.out.grown dg (by intro k hk; simp only [Option.some.injEq] at hk; have := HO2.out; omega), grown_new HGTD.out dg (by intro k hk; simp only [Option.some.injEq] at hk; have := HO2.out; omega)⟩
    · have he' : ((tkS l v9 (p0, er1)).2 == 0) = false := by simpa using he
      rw [if_neg he] at HQ2
      clear he
      go_wp2_with (first | (refine wpList_storeBlk rfl _ _ rfl rfl rfl HKT.out rfl size_rec (Rec.one zeroR) ?_; intro d0 dg))
      refine bodyPost_ret (results_cell_row2 (p := 2) (u := 3) rfl _ _ o2 _ _ _ _ rfl d0 Try.underlying27 rfl size_rec) rfl ?_
      rw [HQ2.out]
      exact ⟨rfl, HRT.out.grown dg (by intro k hk; simp only [Option.some.injEq] at hk; have := HO2.out; omega), grown_new HGT.out dg (by intro k hk; simp only [Option.some.injEq] at hk; have := HO2.out; omega)⟩
end Go.Proofs.Ytbknkahakmfhkaa
