/- RecordBack. -/
import Derived.Test.YtbknkahakmfhkaaRecQ
import Derived.Test.YtbknkahakmfhkaaRecO
namespace Go.Proofs.Ytbknkahakmfhkaa
open Go.RowKit
set_option linter.unusedVariables false
set_option linter.unusedSimpArgs false

theorem behind_le (r : Rec) : (behindL r).length ≤ 1000000 := by
  unfold behindL
  have e0 := encs_le 4 [134695760]
  have e1 := encs_le 4 [r.su, r.pa, r.si]
  simp only [List.length_append, List.length_cons, List.length_nil] at *
  omega
theorem local_le (r : Rec) (bh : Bool) (h : r.na.size ≤ 1000) : (localL r bh).length ≤ 1000000 := by
  unfold localL
  have e0 := encs_le 4 [67324752]
  have e1 := encs_le 2 [20, flagI bh, r.me, r.cl, r.da]
  have e2 := encs_le 4 [if bh then 0 else r.su, if bh then 0 else r.pa, if bh then 0 else r.si]
  have e3 := encs_le 2 [(r.na.size : Int), 0]
  have e4 := nameL_len r.na
  simp only [List.length_append, List.length_cons, List.length_nil] at *
  omega
theorem central_le (r : Rec) (bh : Bool) (h : r.na.size ≤ 1000) : (centralL r bh).length ≤ 1000000 := by
  unfold centralL
  have e0 := encs_le 4 [33639248]
  have e1 := encs_le 2 [20]
  have e2 := encs_le 2 [20, flagI bh, r.me, r.cl, r.da]
  have e3 := encs_le 4 [r.su, r.pa, r.si]
  have e4 := encs_le 2 [(r.na.size : Int), 0, 0, 0, 0]
  have e5 := encs_le 4 [0, r.of]
  have e6 := nameL_len r.na
  simp only [List.length_append, List.length_cons, List.length_nil] at *
  omega
set_option maxRecDepth 100000 in
set_option maxHeartbeats 64000000 in
theorem goRecordBack (na : ByteArray) (da cl su pa si of : Int) (md bh : Bool) (w : World) (hda : 0 ≤ da ∧ da < 65536) (hcl : 0 ≤ cl ∧ cl < 65536) (hsu : 0 ≤ su ∧ su < 4294967296) (hpa : 0 ≤ pa ∧ pa < 4294967296) (hsi : 0 ≤ si ∧ si < 4294967296) (hof : 0 ≤ of ∧ of < 4294967296) :
  Calls Try.prog 4 #[.string na, .agg #[.int .u16 da, .int .u16 cl], .int .u32 su, .int .u32 pa, .int .u32 si, .int .u32 of, .bool md, .bool bh] w fun e w' => e = .returned (.bool true) ∧ Below w.heap.size w w' := by
  have HR := Lib.hid (And.intro hda (And.intro hcl (And.intro hsu (And.intro hpa (And.intro hsi hof)))))
  have hb9 := below_alloc w (.cells #[.int .u16 da, .int .u16 cl] 24)
  have hk9 := Blk.new w 24 #[.int .u16 da, .int .u16 cl]
  have HB9 := Lib.hid hb9
  have HK9 := Lib.hid hk9
  clear hb9 hk9 hda hcl
  go_enter Try.func4, Try.ntmps4
  go_wp2_with fail
  obtain ⟨o9, ho9⟩ : ∃ o, o = w.heap.size := ⟨_, rfl⟩
  rw [← ho9] at HK9 ⊢
  clear ho9
  generalize w.alloc (.cells #[.int .u16 da, .int .u16 cl] 24) = w0 at HB9 HK9 ⊢
  refine (fixed12_any w0).mono ?_
  rintro e w1 ⟨rfl, hB0⟩
  have HB := Lib.hid (HB9.out.trans (hB0.mono HB9.out.size))
  have hk := HK9.out.below hB0
  have c9a := hk.cell (i := 0) rfl
  have c9b := hk.cell (i := 1) rfl
  have HS1 := Lib.hid HB.out.size
  clear hB0 HB9 HK9 hk
  by_cases hbig : 300 < na.size
  · clear hsu hpa hsi hof
    go_wp2
    go_ret
    exact ⟨rfl, HB.out⟩
  · have hna : na.size ≤ 300 := by omega
    clear hbig
    cases md with
    | true =>
      cases bh with
      | true =>
        have HIN : Hid (Rec.In ⟨8, da, cl, su, pa, si, na, of⟩) := Lib.hid ⟨by simp, ⟨HR.out.1, HR.out.2.1, HR.out.2.2.1⟩, HR.out.2.2.2.1, HR.out.2.2.2.2.1, HR.out.2.2.2.2.2, hna⟩
        have hb17 := below_alloc w1 (.cells #[.int .i64 8, .int .u16 da, .int .u16 cl, .int .u32 su, .int .i64 pa, .int .i64 si, .string na, .int .i64 of] TR)
        have hk17 := Blk.new w1 TR #[.int .i64 8, .int .u16 da, .int .u16 cl, .int .u32 su, .int .i64 pa, .int .i64 si, .string na, .int .i64 of]
        replace HB := Lib.hid (HB.out.trans (hb17.mono HB.out.size))
        have HK17 := Lib.hid hk17
        have HO : Hid (w.heap.size ≤ w1.heap.size) := Lib.hid (Nat.le_trans (by have := HS1.out; omega) (Nat.le_refl _))
        clear hb17 hk17
        
        go_wp2_with (first | (refine wpList_load_row rfl _ _ rfl _ rfl _ _ _ _ HK17.out Try.underlying27 rfl size_rec ?_))
        obtain ⟨o17, ho17⟩ : ∃ o, o = w1.heap.size := ⟨_, rfl⟩
        rw [← ho17] at HK17 HO ⊢
        clear ho17 c9a c9b
        generalize w1.alloc (.cells #[.int .i64 8, .int .u16 da, .int .u16 cl, .int .u32 su, .int .i64 pa, .int .i64 si, .string na, .int .i64 of] TR) = w2 at HB HK17 ⊢
        refine (cCentral_any ⟨8, da, cl, su, pa, si, na, of⟩ true w2 HIN.out.ok (by have := hna; simp only; omega)).mono ?_
        rintro e w3 ⟨v, rfl, ⟨a3, n3, c3, rfl, ho3⟩, hb⟩
        replace HB := Lib.hid (HB.out.trans (hb.mono HB.out.size))
        replace HK17 := Lib.hid (HK17.out.below hb)
        have hl3 := ho3.len
        have HOW := Lib.hid ho3
        have HLN : Hid (n3 ≤ 1000000) := Lib.hid (by rw [← hl3]; exact central_le _ _ (by simp only; omega))
        clear hb ho3 hl3
        go_wp2_with fail
        refine (cNew_any a3 n3 c3 (centralL ⟨8, da, cl, su, pa, si, na, of⟩ true) w3 HOW.out.len (by have := HLN.out; omega) HOW.out.rd).mono ?_
        rintro e w4 ⟨g1, rfl, hg, hcu, hb⟩
        have hlt := HK17.out.lt
        replace HO := Lib.hid (And.intro HO.out (show o17 < g1 by omega))
        replace HB := Lib.hid (HB.out.trans (hb.mono HB.out.size))
        replace HK17 := Lib.hid (HK17.out.below hb)
        have HC1 := Lib.hid hcu
        clear hg hcu hb hlt HOW HLN
        go_wp2_with fail
        obtain ⟨p1, hp1, hq1⟩ := central_back ⟨8, da, cl, su, pa, si, na, of⟩ true HIN.out
        have HCALL := Lib.hid (cReadCentral_any g1 (centralL ⟨8, da, cl, su, pa, si, na, of⟩ true) (0, 0) w4 HC1.out)
        rw [hp1] at HCALL
        refine HCALL.out.mono ?_
        clear HCALL hp1
        rintro e w5 ⟨rfl, hcu, hgr⟩
        replace HB := Lib.hid (HB.out.grown hgr HB.out.size (fun j hj => by simp only [Option.some.injEq] at hj; have := HO.out; omega))
        replace HK17 := Lib.hid (HK17.out.gs (Gs.of_grown hgr) (by have := HO.out; simp; omega))
        replace HC1 := Lib.hid hcu
        have HP1 := Lib.hid (Nat.le_antisymm hcu.place hq1)
        clear hcu hgr hq1
        simp only [Rec.arr, zeroR]
        have hb := below_alloc w5 (.cells #[.int .i64 8, .int .u16 da, .int .u16 cl, .int .u32 su, .int .i64 pa, .int .i64 si, .string na, .int .i64 of] TR)
        have hk := Blk.new w5 TR #[.int .i64 8, .int .u16 da, .int .u16 cl, .int .u32 su, .int .i64 pa, .int .i64 si, .string na, .int .i64 of]
        have hlt := HC1.out.lt'
        replace HB := Lib.hid (HB.out.trans (hb.mono HB.out.size))
        replace HK17 := Lib.hid (HK17.out.below hb)
        replace HC1 := Lib.hid (HC1.out.below hb)
        have HK19 := Lib.hid hk
        replace HO := Lib.hid (And.intro HO.out (show g1 < w5.heap.size by omega))
        clear hb hk hlt
        go_wp2_with (first | (refine wpList_load_row rfl _ _ rfl _ rfl _ _ _ _ HK17.out Try.underlying27 rfl size_rec ?_))
        obtain ⟨o19, ho19⟩ : ∃ o, o = w5.heap.size := ⟨_, rfl⟩
        rw [← ho19] at HK19 HO ⊢
        clear ho19
        generalize w5.alloc (.cells #[.int .i64 8, .int .u16 da, .int .u16 cl, .int .u32 su, .int .i64 pa, .int .i64 si, .string na, .int .i64 of] TR) = w6 at HB HK17 HK19 HC1 ⊢
        refine (cLocal_any ⟨8, da, cl, su, pa, si, na, of⟩ true w6 HIN.out.ok (by have := hna; simp only; omega)).mono ?_
        rintro e w7 ⟨v, rfl, ⟨a7, n7, c7, rfl, ho7⟩, hb⟩
        replace HB := Lib.hid (HB.out.trans (hb.mono HB.out.size))
        replace HK17 := Lib.hid (HK17.out.below hb)
        replace HK19 := Lib.hid (HK19.out.below hb)
        replace HC1 := Lib.hid (HC1.out.below hb)
        have hl7 := ho7.len
        have HOW := Lib.hid ho7
        have HLN : Hid (n7 ≤ 1000000) := Lib.hid (by rw [← hl7]; exact local_le _ _ (by simp only; omega))
        clear hb ho7 hl7
        go_wp2_with fail
        refine (cNew_any a7 n7 c7 (localL ⟨8, da, cl, su, pa, si, na, of⟩ true) w7 HOW.out.len (by have := HLN.out; omega) HOW.out.rd).mono ?_
        rintro e w8 ⟨g2, rfl, hg, hcu, hb⟩
        have hlt := HK19.out.lt
        replace HO := Lib.hid (And.intro HO.out (show o19 < g2 by omega))
        replace HB := Lib.hid (HB.out.trans (hb.mono HB.out.size))
        replace HK17 := Lib.hid (HK17.out.below hb)
        replace HK19 := Lib.hid (HK19.out.below hb)
        replace HC1 := Lib.hid (HC1.out.below hb)
        have HC2 := Lib.hid hcu
        clear hg hcu hb hlt HOW HLN
        go_wp2_with fail
        obtain ⟨p2, hp2, hq2⟩ := local_back ⟨8, da, cl, su, pa, si, na, of⟩ true HIN.out
        have HCALL := Lib.hid (cReadLocal_any g2 (localL ⟨8, da, cl, su, pa, si, na, of⟩ true) (0, 0) w8 HC2.out)
        rw [hp2] at HCALL
        refine HCALL.out.mono ?_
        clear HCALL hp2
        rintro e w9 ⟨rfl, hcu, hgr⟩
        replace HB := Lib.hid (HB.out.grown hgr HB.out.size (fun j hj => by simp only [Option.some.injEq] at hj; have := HO.out; omega))
        replace HK17 := Lib.hid (HK17.out.gs (Gs.of_grown hgr) (by have := HO.out; simp; omega))
        replace HK19 := Lib.hid (HK19.out.gs (Gs.of_grown hgr) (by have := HO.out; simp; omega))
        replace HC1 := Lib.hid (HC1.out.gs (Gs.of_grown hgr) (by intro k hk; simp only [List.mem_singleton] at hk; have := HO.out; omega))
        replace HC2 := Lib.hid hcu
        have HP2 := Lib.hid (Nat.le_antisymm hcu.place hq2)
        clear hcu hgr hq2
        simp only [Rec.arr, zeroR, if_true, Bool.false_eq_true, if_false]
        have hb := below_alloc w9 (.cells #[.int .i64 8, .int .u16 da, .int .u16 cl, .int .u32 0, .int .i64 0, .int .i64 0, .string na, .int .i64 0] TR)
        have hk := Blk.new w9 TR #[.int .i64 8, .int .u16 da, .int .u16 cl, .int .u32 0, .int .i64 0, .int .i64 0, .string na, .int .i64 0]
        have hlt := HC2.out.lt'
        replace HB := Lib.hid (HB.out.trans (hb.mono HB.out.size))
        replace HK17 := Lib.hid (HK17.out.below hb)
        replace HK19 := Lib.hid (HK19.out.below hb)
        replace HC1 := Lib.hid (HC1.out.below hb)
        replace HC2 := Lib.hid (HC2.out.below hb)
        have HK22 := Lib.hid hk
        replace HO := Lib.hid (And.intro HO.out (show g2 < w9.heap.size by omega))
        clear hb hk hlt
        go_wp2_with (first | (refine wpList_load_row rfl _ _ rfl _ rfl _ _ _ _ HK17.out Try.underlying27 rfl size_rec ?_))
        obtain ⟨o22, ho22⟩ : ∃ o, o = w9.heap.size := ⟨_, rfl⟩
        rw [← ho22] at HK22 HO ⊢
        clear ho22
        generalize w9.alloc (.cells #[.int .i64 8, .int .u16 da, .int .u16 cl, .int .u32 0, .int .i64 0, .int .i64 0, .string na, .int .i64 0] TR) = w10 at HB HK17 HK19 HK22 HC1 HC2 ⊢
        refine (cBehind_any ⟨8, da, cl, su, pa, si, na, of⟩ w10 HIN.out.ok).mono ?_
        rintro e w11 ⟨v, rfl, ⟨a11, n11, c11, rfl, ho11⟩, hb⟩
        replace HB := Lib.hid (HB.out.trans (hb.mono HB.out.size))
        replace HK17 := Lib.hid (HK17.out.below hb)
        replace HK19 := Lib.hid (HK19.out.below hb)
        replace HK22 := Lib.hid (HK22.out.below hb)
        replace HC1 := Lib.hid (HC1.out.below hb)
        replace HC2 := Lib.hid (HC2.out.below hb)
        have hl11 := ho11.len
        have HOW := Lib.hid ho11
        have HLN : Hid (n11 ≤ 1000000) := Lib.hid (by rw [← hl11]; exact behind_le _)
        clear hb ho11 hl11
        go_wp2_with fail
        refine (cNew_any a11 n11 c11 (behindL ⟨8, da, cl, su, pa, si, na, of⟩) w11 HOW.out.len (by have := HLN.out; omega) HOW.out.rd).mono ?_
        rintro e w12 ⟨g3, rfl, hg, hcu, hb⟩
        have hlt := HK22.out.lt
        replace HO := Lib.hid (And.intro HO.out (show o22 < g3 by omega))
        replace HB := Lib.hid (HB.out.trans (hb.mono HB.out.size))
        replace HK17 := Lib.hid (HK17.out.below hb)
        replace HK19 := Lib.hid (HK19.out.below hb)
        replace HK22 := Lib.hid (HK22.out.below hb)
        replace HC1 := Lib.hid (HC1.out.below hb)
        replace HC2 := Lib.hid (HC2.out.below hb)
        have HC3 := Lib.hid hcu
        clear hg hcu hb hlt HOW HLN
        go_wp2_with fail
        obtain ⟨p3, hp3, hq3⟩ := behind_back ⟨8, da, cl, su, pa, si, na, of⟩ HIN.out
        have HCALL := Lib.hid (cReadBehind_any g3 (behindL ⟨8, da, cl, su, pa, si, na, of⟩) (0, 0) w12 HC3.out)
        rw [hp3] at HCALL
        refine HCALL.out.mono ?_
        clear HCALL hp3
        rintro e w13 ⟨rfl, hcu, hgr⟩
        replace HB := Lib.hid (HB.out.grown hgr HB.out.size (fun j hj => by simp only [Option.some.injEq] at hj; have := HO.out; omega))
        replace HK17 := Lib.hid (HK17.out.gs (Gs.of_grown hgr) (by have := HO.out; simp; omega))
        replace HK19 := Lib.hid (HK19.out.gs (Gs.of_grown hgr) (by have := HO.out; simp; omega))
        replace HK22 := Lib.hid (HK22.out.gs (Gs.of_grown hgr) (by have := HO.out; simp; omega))
        replace HC1 := Lib.hid (HC1.out.gs (Gs.of_grown hgr) (by intro k hk; simp only [List.mem_singleton] at hk; have := HO.out; omega))
        replace HC2 := Lib.hid (HC2.out.gs (Gs.of_grown hgr) (by intro k hk; simp only [List.mem_singleton] at hk; have := HO.out; omega))
        replace HC3 := Lib.hid hcu
        have HP3 := Lib.hid (Nat.le_antisymm hcu.place hq3)
        clear hcu hgr hq3
        simp only [Rec.arr, zeroR]
        have hb := below_alloc w13 (.cells #[.int .i64 0, .int .u16 0, .int .u16 0, .int .u32 su, .int .i64 pa, .int .i64 si, .string ⟨#[]⟩, .int .i64 0] TR)
        have hk := Blk.new w13 TR #[.int .i64 0, .int .u16 0, .int .u16 0, .int .u32 su, .int .i64 pa, .int .i64 si, .string ⟨#[]⟩, .int .i64 0]
        have hlt := HC3.out.lt'
        replace HB := Lib.hid (HB.out.trans (hb.mono HB.out.size))
        replace HK17 := Lib.hid (HK17.out.below hb)
        replace HK19 := Lib.hid (HK19.out.below hb)
        replace HK22 := Lib.hid (HK22.out.below hb)
        replace HC1 := Lib.hid (HC1.out.below hb)
        replace HC2 := Lib.hid (HC2.out.below hb)
        replace HC3 := Lib.hid (HC3.out.below hb)
        have HK25 := Lib.hid hk
        replace HO := Lib.hid (And.intro HO.out (show g3 < w13.heap.size by omega))
        clear hb hk hlt
        have HK17a := Lib.hid HK17.out
        have hb := below_alloc (w13.alloc (.cells #[.int .i64 0, .int .u16 0, .int .u16 0, .int .u32 su, .int .i64 pa, .int .i64 si, .string ⟨#[]⟩, .int .i64 0] TR)) (.cells #[.int .i64 8, .int .u16 da, .int .u16 cl, .int .u32 0, .int .i64 0, .int .i64 0, .string na, .int .i64 0] TR)
        have hk26 : Blk ((w13.alloc (.cells #[.int .i64 0, .int .u16 0, .int .u16 0, .int .u32 su, .int .i64 pa, .int .i64 si, .string ⟨#[]⟩, .int .i64 0] TR)).alloc (.cells #[.int .i64 8, .int .u16 da, .int .u16 cl, .int .u32 0, .int .i64 0, .int .i64 0, .string na, .int .i64 0] TR)) (w13.heap.size + 1) TR #[.int .i64 8, .int .u16 da, .int .u16 cl, .int .u32 0, .int .i64 0, .int .i64 0, .string na, .int .i64 0] := by
          have := Blk.new (w13.alloc (.cells #[.int .i64 0, .int .u16 0, .int .u16 0, .int .u32 su, .int .i64 pa, .int .i64 si, .string ⟨#[]⟩, .int .i64 0] TR)) TR #[.int .i64 8, .int .u16 da, .int .u16 cl, .int .u32 0, .int .i64 0, .int .i64 0, .string na, .int .i64 0]
          rwa [show (w13.alloc (.cells #[.int .i64 0, .int .u16 0, .int .u16 0, .int .u32 su, .int .i64 pa, .int .i64 si, .string ⟨#[]⟩, .int .i64 0] TR)).heap.size = w13.heap.size + 1 by simp] at this
        replace HB := Lib.hid (HB.out.trans (hb.mono HB.out.size))
        replace HK17 := Lib.hid (HK17.out.below hb)
        replace HK19 := Lib.hid (HK19.out.below hb)
        replace HK22 := Lib.hid (HK22.out.below hb)
        replace HK25 := Lib.hid (HK25.out.below hb)
        replace HC1 := Lib.hid (HC1.out.below hb)
        replace HC2 := Lib.hid (HC2.out.below hb)
        replace HC3 := Lib.hid (HC3.out.below hb)
        have HK26 := Lib.hid hk26
        clear hb hk26
        obtain ⟨o25, ho25⟩ : ∃ o, o = w13.heap.size := ⟨_, rfl⟩
        obtain ⟨o26, ho26⟩ : ∃ o, o = w13.heap.size + 1 := ⟨_, rfl⟩
        rw [← ho26] at HK26
        rw [← ho25] at HK25
        have HX25 := Lib.hid (And.intro ho25 ho26)
        clear ho25 ho26
        rw [HX25.out.1] at HK25
        rw [HX25.out.2] at HK26
        have d22_0 := HK22.out.cell (i := 0) rfl
        have d22_1 := HK22.out.cell (i := 1) rfl
        have d22_2 := HK22.out.cell (i := 2) rfl
        have d22_3 := HK22.out.cell (i := 3) rfl
        have d22_4 := HK22.out.cell (i := 4) rfl
        have d22_5 := HK22.out.cell (i := 5) rfl
        have d22_6 := HK22.out.cell (i := 6) rfl
        have d22_7 := HK22.out.cell (i := 7) rfl
        have d25_0 := HK25.out.cell (i := 0) rfl
        have d25_1 := HK25.out.cell (i := 1) rfl
        have d25_2 := HK25.out.cell (i := 2) rfl
        have d25_3 := HK25.out.cell (i := 3) rfl
        have d25_4 := HK25.out.cell (i := 4) rfl
        have d25_5 := HK25.out.cell (i := 5) rfl
        have d25_6 := HK25.out.cell (i := 6) rfl
        have d25_7 := HK25.out.cell (i := 7) rfl
        have d26_0 := HK26.out.cell (i := 0) rfl
        have d26_1 := HK26.out.cell (i := 1) rfl
        have d26_2 := HK26.out.cell (i := 2) rfl
        have d26_3 := HK26.out.cell (i := 3) rfl
        have d26_4 := HK26.out.cell (i := 4) rfl
        have d26_5 := HK26.out.cell (i := 5) rfl
        have d26_6 := HK26.out.cell (i := 6) rfl
        have d26_7 := HK26.out.cell (i := 7) rfl
        go_wp2_with (first | (refine wpList_load_row rfl _ _ rfl _ rfl _ _ _ _ HK17a.out Try.underlying27 rfl size_rec ?_) | (refine wpList_load_row rfl _ _ rfl _ rfl _ _ _ _ HK17.out Try.underlying27 rfl size_rec ?_) | (refine wpList_load_row rfl _ _ rfl _ rfl _ _ _ _ HK19.out Try.underlying27 rfl size_rec ?_) | (refine wpList_load_row rfl _ _ rfl _ rfl _ _ _ _ HK22.out Try.underlying27 rfl size_rec ?_) | (refine wpList_load_row rfl _ _ rfl _ rfl _ _ _ _ HK25.out Try.underlying27 rfl size_rec ?_) | (refine wpList_load_row rfl _ _ rfl _ rfl _ _ _ _ HK26.out Try.underlying27 rfl size_rec ?_))
        clear d22_0 d22_1 d22_2 d22_3 d22_4 d22_5 d22_6 d22_7 d25_0 d25_1 d25_2 d25_3 d25_4 d25_5 d25_6 d25_7 d26_0 d26_1 d26_2 d26_3 d26_4 d26_5 d26_6 d26_7 HK17 HK17a HK19 HK22 HK25 HK26 HX25 HO
        generalize (w13.alloc (.cells #[.int .i64 0, .int .u16 0, .int .u16 0, .int .u32 su, .int .i64 pa, .int .i64 si, .string ⟨#[]⟩, .int .i64 0] TR)).alloc (.cells #[.int .i64 8, .int .u16 da, .int .u16 cl, .int .u32 0, .int .i64 0, .int .i64 0, .string na, .int .i64 0] TR) = wE at HB HC1 HC2 HC3 ⊢
        refine (cEnd_done g1 (centralL ⟨8, da, cl, su, pa, si, na, of⟩ true) p1 0 wE HC1.out HP1.out).mono ?_
        rintro e wF0 ⟨rfl, k1, rfl⟩
        replace HC2 := Lib.hid (HC2.out.drewN k1)
        replace HC3 := Lib.hid (HC3.out.drewN k1)
        replace HB : Hid (Below w.heap.size w (wE.drewN k1)) := Lib.hid (HB.out.trans ⟨rfl, rfl, rfl, Nat.le_refl _, fun _ _ => rfl⟩)
        clear HC1 HP1
        generalize wE.drewN k1 = wF at HB HC2 HC3 ⊢
        go_wp2_with fail
        refine (cEnd_done g2 (localL ⟨8, da, cl, su, pa, si, na, of⟩ true) p2 0 wF HC2.out HP2.out).mono ?_
        rintro e wG0 ⟨rfl, k2, rfl⟩
        replace HC3 := Lib.hid (HC3.out.drewN k2)
        replace HB : Hid (Below w.heap.size w (wF.drewN k2)) := Lib.hid (HB.out.trans ⟨rfl, rfl, rfl, Nat.le_refl _, fun _ _ => rfl⟩)
        clear HC2 HP2
        generalize wF.drewN k2 = wG at HB HC3 ⊢
        go_wp2_with fail
        refine (cEnd_done g3 (behindL ⟨8, da, cl, su, pa, si, na, of⟩) p3 0 wG HC3.out HP3.out).mono ?_
        rintro e wH0 ⟨rfl, k3, rfl⟩
        replace HB : Hid (Below w.heap.size w (wG.drewN k3)) := Lib.hid (HB.out.trans ⟨rfl, rfl, rfl, Nat.le_refl _, fun _ _ => rfl⟩)
        clear HC3 HP3
        generalize wG.drewN k3 = wH at HB ⊢
        go_wp2
        go_ret
        exact ⟨rfl, HB.out⟩
      | false =>
        have HIN : Hid (Rec.In ⟨8, da, cl, su, pa, si, na, of⟩) := Lib.hid ⟨by simp, ⟨HR.out.1, HR.out.2.1, HR.out.2.2.1⟩, HR.out.2.2.2.1, HR.out.2.2.2.2.1, HR.out.2.2.2.2.2, hna⟩
        have hb17 := below_alloc w1 (.cells #[.int .i64 8, .int .u16 da, .int .u16 cl, .int .u32 su, .int .i64 pa, .int .i64 si, .string na, .int .i64 of] TR)
        have hk17 := Blk.new w1 TR #[.int .i64 8, .int .u16 da, .int .u16 cl, .int .u32 su, .int .i64 pa, .int .i64 si, .string na, .int .i64 of]
        replace HB := Lib.hid (HB.out.trans (hb17.mono HB.out.size))
        have HK17 := Lib.hid hk17
        have HO : Hid (w.heap.size ≤ w1.heap.size) := Lib.hid (Nat.le_trans (by have := HS1.out; omega) (Nat.le_refl _))
        clear hb17 hk17
        
        go_wp2_with (first | (refine wpList_load_row rfl _ _ rfl _ rfl _ _ _ _ HK17.out Try.underlying27 rfl size_rec ?_))
        obtain ⟨o17, ho17⟩ : ∃ o, o = w1.heap.size := ⟨_, rfl⟩
        rw [← ho17] at HK17 HO ⊢
        clear ho17 c9a c9b
        generalize w1.alloc (.cells #[.int .i64 8, .int .u16 da, .int .u16 cl, .int .u32 su, .int .i64 pa, .int .i64 si, .string na, .int .i64 of] TR) = w2 at HB HK17 ⊢
        refine (cCentral_any ⟨8, da, cl, su, pa, si, na, of⟩ false w2 HIN.out.ok (by have := hna; simp only; omega)).mono ?_
        rintro e w3 ⟨v, rfl, ⟨a3, n3, c3, rfl, ho3⟩, hb⟩
        replace HB := Lib.hid (HB.out.trans (hb.mono HB.out.size))
        replace HK17 := Lib.hid (HK17.out.below hb)
        have hl3 := ho3.len
        have HOW := Lib.hid ho3
        have HLN : Hid (n3 ≤ 1000000) := Lib.hid (by rw [← hl3]; exact central_le _ _ (by simp only; omega))
        clear hb ho3 hl3
        go_wp2_with fail
        refine (cNew_any a3 n3 c3 (centralL ⟨8, da, cl, su, pa, si, na, of⟩ false) w3 HOW.out.len (by have := HLN.out; omega) HOW.out.rd).mono ?_
        rintro e w4 ⟨g1, rfl, hg, hcu, hb⟩
        have hlt := HK17.out.lt
        replace HO := Lib.hid (And.intro HO.out (show o17 < g1 by omega))
        replace HB := Lib.hid (HB.out.trans (hb.mono HB.out.size))
        replace HK17 := Lib.hid (HK17.out.below hb)
        have HC1 := Lib.hid hcu
        clear hg hcu hb hlt HOW HLN
        go_wp2_with fail
        obtain ⟨p1, hp1, hq1⟩ := central_back ⟨8, da, cl, su, pa, si, na, of⟩ false HIN.out
        have HCALL := Lib.hid (cReadCentral_any g1 (centralL ⟨8, da, cl, su, pa, si, na, of⟩ false) (0, 0) w4 HC1.out)
        rw [hp1] at HCALL
        refine HCALL.out.mono ?_
        clear HCALL hp1
        rintro e w5 ⟨rfl, hcu, hgr⟩
        replace HB := Lib.hid (HB.out.grown hgr HB.out.size (fun j hj => by simp only [Option.some.injEq] at hj; have := HO.out; omega))
        replace HK17 := Lib.hid (HK17.out.gs (Gs.of_grown hgr) (by have := HO.out; simp; omega))
        replace HC1 := Lib.hid hcu
        have HP1 := Lib.hid (Nat.le_antisymm hcu.place hq1)
        clear hcu hgr hq1
        simp only [Rec.arr, zeroR]
        have hb := below_alloc w5 (.cells #[.int .i64 8, .int .u16 da, .int .u16 cl, .int .u32 su, .int .i64 pa, .int .i64 si, .string na, .int .i64 of] TR)
        have hk := Blk.new w5 TR #[.int .i64 8, .int .u16 da, .int .u16 cl, .int .u32 su, .int .i64 pa, .int .i64 si, .string na, .int .i64 of]
        have hlt := HC1.out.lt'
        replace HB := Lib.hid (HB.out.trans (hb.mono HB.out.size))
        replace HK17 := Lib.hid (HK17.out.below hb)
        replace HC1 := Lib.hid (HC1.out.below hb)
        have HK19 := Lib.hid hk
        replace HO := Lib.hid (And.intro HO.out (show g1 < w5.heap.size by omega))
        clear hb hk hlt
        go_wp2_with (first | (refine wpList_load_row rfl _ _ rfl _ rfl _ _ _ _ HK17.out Try.underlying27 rfl size_rec ?_))
        obtain ⟨o19, ho19⟩ : ∃ o, o = w5.heap.size := ⟨_, rfl⟩
        rw [← ho19] at HK19 HO ⊢
        clear ho19
        generalize w5.alloc (.cells #[.int .i64 8, .int .u16 da, .int .u16 cl, .int .u32 su, .int .i64 pa, .int .i64 si, .string na, .int .i64 of] TR) = w6 at HB HK17 HK19 HC1 ⊢
        refine (cLocal_any ⟨8, da, cl, su, pa, si, na, of⟩ false w6 HIN.out.ok (by have := hna; simp only; omega)).mono ?_
        rintro e w7 ⟨v, rfl, ⟨a7, n7, c7, rfl, ho7⟩, hb⟩
        replace HB := Lib.hid (HB.out.trans (hb.mono HB.out.size))
        replace HK17 := Lib.hid (HK17.out.below hb)
        replace HK19 := Lib.hid (HK19.out.below hb)
        replace HC1 := Lib.hid (HC1.out.below hb)
        have hl7 := ho7.len
        have HOW := Lib.hid ho7
        have HLN : Hid (n7 ≤ 1000000) := Lib.hid (by rw [← hl7]; exact local_le _ _ (by simp only; omega))
        clear hb ho7 hl7
        go_wp2_with fail
        refine (cNew_any a7 n7 c7 (localL ⟨8, da, cl, su, pa, si, na, of⟩ false) w7 HOW.out.len (by have := HLN.out; omega) HOW.out.rd).mono ?_
        rintro e w8 ⟨g2, rfl, hg, hcu, hb⟩
        have hlt := HK19.out.lt
        replace HO := Lib.hid (And.intro HO.out (show o19 < g2 by omega))
        replace HB := Lib.hid (HB.out.trans (hb.mono HB.out.size))
        replace HK17 := Lib.hid (HK17.out.below hb)
        replace HK19 := Lib.hid (HK19.out.below hb)
        replace HC1 := Lib.hid (HC1.out.below hb)
        have HC2 := Lib.hid hcu
        clear hg hcu hb hlt HOW HLN
        go_wp2_with fail
        obtain ⟨p2, hp2, hq2⟩ := local_back ⟨8, da, cl, su, pa, si, na, of⟩ false HIN.out
        have HCALL := Lib.hid (cReadLocal_any g2 (localL ⟨8, da, cl, su, pa, si, na, of⟩ false) (0, 0) w8 HC2.out)
        rw [hp2] at HCALL
        refine HCALL.out.mono ?_
        clear HCALL hp2
        rintro e w9 ⟨rfl, hcu, hgr⟩
        replace HB := Lib.hid (HB.out.grown hgr HB.out.size (fun j hj => by simp only [Option.some.injEq] at hj; have := HO.out; omega))
        replace HK17 := Lib.hid (HK17.out.gs (Gs.of_grown hgr) (by have := HO.out; simp; omega))
        replace HK19 := Lib.hid (HK19.out.gs (Gs.of_grown hgr) (by have := HO.out; simp; omega))
        replace HC1 := Lib.hid (HC1.out.gs (Gs.of_grown hgr) (by intro k hk; simp only [List.mem_singleton] at hk; have := HO.out; omega))
        replace HC2 := Lib.hid hcu
        have HP2 := Lib.hid (Nat.le_antisymm hcu.place hq2)
        clear hcu hgr hq2
        simp only [Rec.arr, zeroR, if_true, Bool.false_eq_true, if_false]
        have hb := below_alloc w9 (.cells #[.int .i64 8, .int .u16 da, .int .u16 cl, .int .u32 su, .int .i64 pa, .int .i64 si, .string na, .int .i64 0] TR)
        have hk := Blk.new w9 TR #[.int .i64 8, .int .u16 da, .int .u16 cl, .int .u32 su, .int .i64 pa, .int .i64 si, .string na, .int .i64 0]
        have hlt := HC2.out.lt'
        replace HB := Lib.hid (HB.out.trans (hb.mono HB.out.size))
        replace HK17 := Lib.hid (HK17.out.below hb)
        replace HK19 := Lib.hid (HK19.out.below hb)
        replace HC1 := Lib.hid (HC1.out.below hb)
        replace HC2 := Lib.hid (HC2.out.below hb)
        have HK22 := Lib.hid hk
        replace HO := Lib.hid (And.intro HO.out (show g2 < w9.heap.size by omega))
        clear hb hk hlt
        go_wp2_with (first | (refine wpList_load_row rfl _ _ rfl _ rfl _ _ _ _ HK17.out Try.underlying27 rfl size_rec ?_))
        obtain ⟨o22, ho22⟩ : ∃ o, o = w9.heap.size := ⟨_, rfl⟩
        rw [← ho22] at HK22 HO ⊢
        clear ho22
        generalize w9.alloc (.cells #[.int .i64 8, .int .u16 da, .int .u16 cl, .int .u32 su, .int .i64 pa, .int .i64 si, .string na, .int .i64 0] TR) = w10 at HB HK17 HK19 HK22 HC1 HC2 ⊢
        refine (cBehind_any ⟨8, da, cl, su, pa, si, na, of⟩ w10 HIN.out.ok).mono ?_
        rintro e w11 ⟨v, rfl, ⟨a11, n11, c11, rfl, ho11⟩, hb⟩
        replace HB := Lib.hid (HB.out.trans (hb.mono HB.out.size))
        replace HK17 := Lib.hid (HK17.out.below hb)
        replace HK19 := Lib.hid (HK19.out.below hb)
        replace HK22 := Lib.hid (HK22.out.below hb)
        replace HC1 := Lib.hid (HC1.out.below hb)
        replace HC2 := Lib.hid (HC2.out.below hb)
        have hl11 := ho11.len
        have HOW := Lib.hid ho11
        have HLN : Hid (n11 ≤ 1000000) := Lib.hid (by rw [← hl11]; exact behind_le _)
        clear hb ho11 hl11
        go_wp2_with fail
        refine (cNew_any a11 n11 c11 (behindL ⟨8, da, cl, su, pa, si, na, of⟩) w11 HOW.out.len (by have := HLN.out; omega) HOW.out.rd).mono ?_
        rintro e w12 ⟨g3, rfl, hg, hcu, hb⟩
        have hlt := HK22.out.lt
        replace HO := Lib.hid (And.intro HO.out (show o22 < g3 by omega))
        replace HB := Lib.hid (HB.out.trans (hb.mono HB.out.size))
        replace HK17 := Lib.hid (HK17.out.below hb)
        replace HK19 := Lib.hid (HK19.out.below hb)
        replace HK22 := Lib.hid (HK22.out.below hb)
        replace HC1 := Lib.hid (HC1.out.below hb)
        replace HC2 := Lib.hid (HC2.out.below hb)
        have HC3 := Lib.hid hcu
        clear hg hcu hb hlt HOW HLN
        go_wp2_with fail
        obtain ⟨p3, hp3, hq3⟩ := behind_back ⟨8, da, cl, su, pa, si, na, of⟩ HIN.out
        have HCALL := Lib.hid (cReadBehind_any g3 (behindL ⟨8, da, cl, su, pa, si, na, of⟩) (0, 0) w12 HC3.out)
        rw [hp3] at HCALL
        refine HCALL.out.mono ?_
        clear HCALL hp3
        rintro e w13 ⟨rfl, hcu, hgr⟩
        replace HB := Lib.hid (HB.out.grown hgr HB.out.size (fun j hj => by simp only [Option.some.injEq] at hj; have := HO.out; omega))
        replace HK17 := Lib.hid (HK17.out.gs (Gs.of_grown hgr) (by have := HO.out; simp; omega))
        replace HK19 := Lib.hid (HK19.out.gs (Gs.of_grown hgr) (by have := HO.out; simp; omega))
        replace HK22 := Lib.hid (HK22.out.gs (Gs.of_grown hgr) (by have := HO.out; simp; omega))
        replace HC1 := Lib.hid (HC1.out.gs (Gs.of_grown hgr) (by intro k hk; simp only [List.mem_singleton] at hk; have := HO.out; omega))
        replace HC2 := Lib.hid (HC2.out.gs (Gs.of_grown hgr) (by intro k hk; simp only [List.mem_singleton] at hk; have := HO.out; omega))
        replace HC3 := Lib.hid hcu
        have HP3 := Lib.hid (Nat.le_antisymm hcu.place hq3)
        clear hcu hgr hq3
        simp only [Rec.arr, zeroR]
        have hb := below_alloc w13 (.cells #[.int .i64 0, .int .u16 0, .int .u16 0, .int .u32 su, .int .i64 pa, .int .i64 si, .string ⟨#[]⟩, .int .i64 0] TR)
        have hk := Blk.new w13 TR #[.int .i64 0, .int .u16 0, .int .u16 0, .int .u32 su, .int .i64 pa, .int .i64 si, .string ⟨#[]⟩, .int .i64 0]
        have hlt := HC3.out.lt'
        replace HB := Lib.hid (HB.out.trans (hb.mono HB.out.size))
        replace HK17 := Lib.hid (HK17.out.below hb)
        replace HK19 := Lib.hid (HK19.out.below hb)
        replace HK22 := Lib.hid (HK22.out.below hb)
        replace HC1 := Lib.hid (HC1.out.below hb)
        replace HC2 := Lib.hid (HC2.out.below hb)
        replace HC3 := Lib.hid (HC3.out.below hb)
        have HK25 := Lib.hid hk
        replace HO := Lib.hid (And.intro HO.out (show g3 < w13.heap.size by omega))
        clear hb hk hlt
        have HK17a := Lib.hid HK17.out
        have hb := below_alloc (w13.alloc (.cells #[.int .i64 0, .int .u16 0, .int .u16 0, .int .u32 su, .int .i64 pa, .int .i64 si, .string ⟨#[]⟩, .int .i64 0] TR)) (.cells #[.int .i64 8, .int .u16 da, .int .u16 cl, .int .u32 su, .int .i64 pa, .int .i64 si, .string na, .int .i64 0] TR)
        have hk26 : Blk ((w13.alloc (.cells #[.int .i64 0, .int .u16 0, .int .u16 0, .int .u32 su, .int .i64 pa, .int .i64 si, .string ⟨#[]⟩, .int .i64 0] TR)).alloc (.cells #[.int .i64 8, .int .u16 da, .int .u16 cl, .int .u32 su, .int .i64 pa, .int .i64 si, .string na, .int .i64 0] TR)) (w13.heap.size + 1) TR #[.int .i64 8, .int .u16 da, .int .u16 cl, .int .u32 su, .int .i64 pa, .int .i64 si, .string na, .int .i64 0] := by
          have := Blk.new (w13.alloc (.cells #[.int .i64 0, .int .u16 0, .int .u16 0, .int .u32 su, .int .i64 pa, .int .i64 si, .string ⟨#[]⟩, .int .i64 0] TR)) TR #[.int .i64 8, .int .u16 da, .int .u16 cl, .int .u32 su, .int .i64 pa, .int .i64 si, .string na, .int .i64 0]
          rwa [show (w13.alloc (.cells #[.int .i64 0, .int .u16 0, .int .u16 0, .int .u32 su, .int .i64 pa, .int .i64 si, .string ⟨#[]⟩, .int .i64 0] TR)).heap.size = w13.heap.size + 1 by simp] at this
        replace HB := Lib.hid (HB.out.trans (hb.mono HB.out.size))
        replace HK17 := Lib.hid (HK17.out.below hb)
        replace HK19 := Lib.hid (HK19.out.below hb)
        replace HK22 := Lib.hid (HK22.out.below hb)
        replace HK25 := Lib.hid (HK25.out.below hb)
        replace HC1 := Lib.hid (HC1.out.below hb)
        replace HC2 := Lib.hid (HC2.out.below hb)
        replace HC3 := Lib.hid (HC3.out.below hb)
        have HK26 := Lib.hid hk26
        clear hb hk26
        obtain ⟨o25, ho25⟩ : ∃ o, o = w13.heap.size := ⟨_, rfl⟩
        obtain ⟨o26, ho26⟩ : ∃ o, o = w13.heap.size + 1 := ⟨_, rfl⟩
        rw [← ho26] at HK26
        rw [← ho25] at HK25
        have HX25 := Lib.hid (And.intro ho25 ho26)
        clear ho25 ho26
        rw [HX25.out.1] at HK25
        rw [HX25.out.2] at HK26
        have d22_0 := HK22.out.cell (i := 0) rfl
        have d22_1 := HK22.out.cell (i := 1) rfl
        have d22_2 := HK22.out.cell (i := 2) rfl
        have d22_3 := HK22.out.cell (i := 3) rfl
        have d22_4 := HK22.out.cell (i := 4) rfl
        have d22_5 := HK22.out.cell (i := 5) rfl
        have d22_6 := HK22.out.cell (i := 6) rfl
        have d22_7 := HK22.out.cell (i := 7) rfl
        have d25_0 := HK25.out.cell (i := 0) rfl
        have d25_1 := HK25.out.cell (i := 1) rfl
        have d25_2 := HK25.out.cell (i := 2) rfl
        have d25_3 := HK25.out.cell (i := 3) rfl
        have d25_4 := HK25.out.cell (i := 4) rfl
        have d25_5 := HK25.out.cell (i := 5) rfl
        have d25_6 := HK25.out.cell (i := 6) rfl
        have d25_7 := HK25.out.cell (i := 7) rfl
        have d26_0 := HK26.out.cell (i := 0) rfl
        have d26_1 := HK26.out.cell (i := 1) rfl
        have d26_2 := HK26.out.cell (i := 2) rfl
        have d26_3 := HK26.out.cell (i := 3) rfl
        have d26_4 := HK26.out.cell (i := 4) rfl
        have d26_5 := HK26.out.cell (i := 5) rfl
        have d26_6 := HK26.out.cell (i := 6) rfl
        have d26_7 := HK26.out.cell (i := 7) rfl
        go_wp2_with (first | (refine wpList_load_row rfl _ _ rfl _ rfl _ _ _ _ HK17a.out Try.underlying27 rfl size_rec ?_) | (refine wpList_load_row rfl _ _ rfl _ rfl _ _ _ _ HK17.out Try.underlying27 rfl size_rec ?_) | (refine wpList_load_row rfl _ _ rfl _ rfl _ _ _ _ HK19.out Try.underlying27 rfl size_rec ?_) | (refine wpList_load_row rfl _ _ rfl _ rfl _ _ _ _ HK22.out Try.underlying27 rfl size_rec ?_) | (refine wpList_load_row rfl _ _ rfl _ rfl _ _ _ _ HK25.out Try.underlying27 rfl size_rec ?_) | (refine wpList_load_row rfl _ _ rfl _ rfl _ _ _ _ HK26.out Try.underlying27 rfl size_rec ?_))
        clear d22_0 d22_1 d22_2 d22_3 d22_4 d22_5 d22_6 d22_7 d25_0 d25_1 d25_2 d25_3 d25_4 d25_5 d25_6 d25_7 d26_0 d26_1 d26_2 d26_3 d26_4 d26_5 d26_6 d26_7 HK17 HK17a HK19 HK22 HK25 HK26 HX25 HO
        generalize (w13.alloc (.cells #[.int .i64 0, .int .u16 0, .int .u16 0, .int .u32 su, .int .i64 pa, .int .i64 si, .string ⟨#[]⟩, .int .i64 0] TR)).alloc (.cells #[.int .i64 8, .int .u16 da, .int .u16 cl, .int .u32 su, .int .i64 pa, .int .i64 si, .string na, .int .i64 0] TR) = wE at HB HC1 HC2 HC3 ⊢
        refine (cEnd_done g1 (centralL ⟨8, da, cl, su, pa, si, na, of⟩ false) p1 0 wE HC1.out HP1.out).mono ?_
        rintro e wF0 ⟨rfl, k1, rfl⟩
        replace HC2 := Lib.hid (HC2.out.drewN k1)
        replace HC3 := Lib.hid (HC3.out.drewN k1)
        replace HB : Hid (Below w.heap.size w (wE.drewN k1)) := Lib.hid (HB.out.trans ⟨rfl, rfl, rfl, Nat.le_refl _, fun _ _ => rfl⟩)
        clear HC1 HP1
        generalize wE.drewN k1 = wF at HB HC2 HC3 ⊢
        go_wp2_with fail
        refine (cEnd_done g2 (localL ⟨8, da, cl, su, pa, si, na, of⟩ false) p2 0 wF HC2.out HP2.out).mono ?_
        rintro e wG0 ⟨rfl, k2, rfl⟩
        replace HC3 := Lib.hid (HC3.out.drewN k2)
        replace HB : Hid (Below w.heap.size w (wF.drewN k2)) := Lib.hid (HB.out.trans ⟨rfl, rfl, rfl, Nat.le_refl _, fun _ _ => rfl⟩)
        clear HC2 HP2
        generalize wF.drewN k2 = wG at HB HC3 ⊢
        go_wp2_with fail
        refine (cEnd_done g3 (behindL ⟨8, da, cl, su, pa, si, na, of⟩) p3 0 wG HC3.out HP3.out).mono ?_
        rintro e wH0 ⟨rfl, k3, rfl⟩
        replace HB : Hid (Below w.heap.size w (wG.drewN k3)) := Lib.hid (HB.out.trans ⟨rfl, rfl, rfl, Nat.le_refl _, fun _ _ => rfl⟩)
        clear HC3 HP3
        generalize wG.drewN k3 = wH at HB ⊢
        go_wp2
        go_ret
        exact ⟨rfl, HB.out⟩
    | false =>
      cases bh with
      | true =>
        have HIN : Hid (Rec.In ⟨0, da, cl, su, pa, si, na, of⟩) := Lib.hid ⟨by simp, ⟨HR.out.1, HR.out.2.1, HR.out.2.2.1⟩, HR.out.2.2.2.1, HR.out.2.2.2.2.1, HR.out.2.2.2.2.2, hna⟩
        have hb17 := below_alloc w1 (.cells #[.int .i64 0, .int .u16 da, .int .u16 cl, .int .u32 su, .int .i64 pa, .int .i64 si, .string na, .int .i64 of] TR)
        have hk17 := Blk.new w1 TR #[.int .i64 0, .int .u16 da, .int .u16 cl, .int .u32 su, .int .i64 pa, .int .i64 si, .string na, .int .i64 of]
        replace HB := Lib.hid (HB.out.trans (hb17.mono HB.out.size))
        have HK17 := Lib.hid hk17
        have HO : Hid (w.heap.size ≤ w1.heap.size) := Lib.hid (Nat.le_trans (by have := HS1.out; omega) (Nat.le_refl _))
        clear hb17 hk17
        
        go_wp2_with (first | (refine wpList_load_row rfl _ _ rfl _ rfl _ _ _ _ HK17.out Try.underlying27 rfl size_rec ?_))
        obtain ⟨o17, ho17⟩ : ∃ o, o = w1.heap.size := ⟨_, rfl⟩
        rw [← ho17] at HK17 HO ⊢
        clear ho17 c9a c9b
        generalize w1.alloc (.cells #[.int .i64 0, .int .u16 da, .int .u16 cl, .int .u32 su, .int .i64 pa, .int .i64 si, .string na, .int .i64 of] TR) = w2 at HB HK17 ⊢
        refine (cCentral_any ⟨0, da, cl, su, pa, si, na, of⟩ true w2 HIN.out.ok (by have := hna; simp only; omega)).mono ?_
        rintro e w3 ⟨v, rfl, ⟨a3, n3, c3, rfl, ho3⟩, hb⟩
        replace HB := Lib.hid (HB.out.trans (hb.mono HB.out.size))
        replace HK17 := Lib.hid (HK17.out.below hb)
        have hl3 := ho3.len
        have HOW := Lib.hid ho3
        have HLN : Hid (n3 ≤ 1000000) := Lib.hid (by rw [← hl3]; exact central_le _ _ (by simp only; omega))
        clear hb ho3 hl3
        go_wp2_with fail
        refine (cNew_any a3 n3 c3 (centralL ⟨0, da, cl, su, pa, si, na, of⟩ true) w3 HOW.out.len (by have := HLN.out; omega) HOW.out.rd).mono ?_
        rintro e w4 ⟨g1, rfl, hg, hcu, hb⟩
        have hlt := HK17.out.lt
        replace HO := Lib.hid (And.intro HO.out (show o17 < g1 by omega))
        replace HB := Lib.hid (HB.out.trans (hb.mono HB.out.size))
        replace HK17 := Lib.hid (HK17.out.below hb)
        have HC1 := Lib.hid hcu
        clear hg hcu hb hlt HOW HLN
        go_wp2_with fail
        obtain ⟨p1, hp1, hq1⟩ := central_back ⟨0, da, cl, su, pa, si, na, of⟩ true HIN.out
        have HCALL := Lib.hid (cReadCentral_any g1 (centralL ⟨0, da, cl, su, pa, si, na, of⟩ true) (0, 0) w4 HC1.out)
        rw [hp1] at HCALL
        refine HCALL.out.mono ?_
        clear HCALL hp1
        rintro e w5 ⟨rfl, hcu, hgr⟩
        replace HB := Lib.hid (HB.out.grown hgr HB.out.size (fun j hj => by simp only [Option.some.injEq] at hj; have := HO.out; omega))
        replace HK17 := Lib.hid (HK17.out.gs (Gs.of_grown hgr) (by have := HO.out; simp; omega))
        replace HC1 := Lib.hid hcu
        have HP1 := Lib.hid (Nat.le_antisymm hcu.place hq1)
        clear hcu hgr hq1
        simp only [Rec.arr, zeroR]
        have hb := below_alloc w5 (.cells #[.int .i64 0, .int .u16 da, .int .u16 cl, .int .u32 su, .int .i64 pa, .int .i64 si, .string na, .int .i64 of] TR)
        have hk := Blk.new w5 TR #[.int .i64 0, .int .u16 da, .int .u16 cl, .int .u32 su, .int .i64 pa, .int .i64 si, .string na, .int .i64 of]
        have hlt := HC1.out.lt'
        replace HB := Lib.hid (HB.out.trans (hb.mono HB.out.size))
        replace HK17 := Lib.hid (HK17.out.below hb)
        replace HC1 := Lib.hid (HC1.out.below hb)
        have HK19 := Lib.hid hk
        replace HO := Lib.hid (And.intro HO.out (show g1 < w5.heap.size by omega))
        clear hb hk hlt
        go_wp2_with (first | (refine wpList_load_row rfl _ _ rfl _ rfl _ _ _ _ HK17.out Try.underlying27 rfl size_rec ?_))
        obtain ⟨o19, ho19⟩ : ∃ o, o = w5.heap.size := ⟨_, rfl⟩
        rw [← ho19] at HK19 HO ⊢
        clear ho19
        generalize w5.alloc (.cells #[.int .i64 0, .int .u16 da, .int .u16 cl, .int .u32 su, .int .i64 pa, .int .i64 si, .string na, .int .i64 of] TR) = w6 at HB HK17 HK19 HC1 ⊢
        refine (cLocal_any ⟨0, da, cl, su, pa, si, na, of⟩ true w6 HIN.out.ok (by have := hna; simp only; omega)).mono ?_
        rintro e w7 ⟨v, rfl, ⟨a7, n7, c7, rfl, ho7⟩, hb⟩
        replace HB := Lib.hid (HB.out.trans (hb.mono HB.out.size))
        replace HK17 := Lib.hid (HK17.out.below hb)
        replace HK19 := Lib.hid (HK19.out.below hb)
        replace HC1 := Lib.hid (HC1.out.below hb)
        have hl7 := ho7.len
        have HOW := Lib.hid ho7
        have HLN : Hid (n7 ≤ 1000000) := Lib.hid (by rw [← hl7]; exact local_le _ _ (by simp only; omega))
        clear hb ho7 hl7
        go_wp2_with fail
        refine (cNew_any a7 n7 c7 (localL ⟨0, da, cl, su, pa, si, na, of⟩ true) w7 HOW.out.len (by have := HLN.out; omega) HOW.out.rd).mono ?_
        rintro e w8 ⟨g2, rfl, hg, hcu, hb⟩
        have hlt := HK19.out.lt
        replace HO := Lib.hid (And.intro HO.out (show o19 < g2 by omega))
        replace HB := Lib.hid (HB.out.trans (hb.mono HB.out.size))
        replace HK17 := Lib.hid (HK17.out.below hb)
        replace HK19 := Lib.hid (HK19.out.below hb)
        replace HC1 := Lib.hid (HC1.out.below hb)
        have HC2 := Lib.hid hcu
        clear hg hcu hb hlt HOW HLN
        go_wp2_with fail
        obtain ⟨p2, hp2, hq2⟩ := local_back ⟨0, da, cl, su, pa, si, na, of⟩ true HIN.out
        have HCALL := Lib.hid (cReadLocal_any g2 (localL ⟨0, da, cl, su, pa, si, na, of⟩ true) (0, 0) w8 HC2.out)
        rw [hp2] at HCALL
        refine HCALL.out.mono ?_
        clear HCALL hp2
        rintro e w9 ⟨rfl, hcu, hgr⟩
        replace HB := Lib.hid (HB.out.grown hgr HB.out.size (fun j hj => by simp only [Option.some.injEq] at hj; have := HO.out; omega))
        replace HK17 := Lib.hid (HK17.out.gs (Gs.of_grown hgr) (by have := HO.out; simp; omega))
        replace HK19 := Lib.hid (HK19.out.gs (Gs.of_grown hgr) (by have := HO.out; simp; omega))
        replace HC1 := Lib.hid (HC1.out.gs (Gs.of_grown hgr) (by intro k hk; simp only [List.mem_singleton] at hk; have := HO.out; omega))
        replace HC2 := Lib.hid hcu
        have HP2 := Lib.hid (Nat.le_antisymm hcu.place hq2)
        clear hcu hgr hq2
        simp only [Rec.arr, zeroR, if_true, Bool.false_eq_true, if_false]
        have hb := below_alloc w9 (.cells #[.int .i64 0, .int .u16 da, .int .u16 cl, .int .u32 0, .int .i64 0, .int .i64 0, .string na, .int .i64 0] TR)
        have hk := Blk.new w9 TR #[.int .i64 0, .int .u16 da, .int .u16 cl, .int .u32 0, .int .i64 0, .int .i64 0, .string na, .int .i64 0]
        have hlt := HC2.out.lt'
        replace HB := Lib.hid (HB.out.trans (hb.mono HB.out.size))
        replace HK17 := Lib.hid (HK17.out.below hb)
        replace HK19 := Lib.hid (HK19.out.below hb)
        replace HC1 := Lib.hid (HC1.out.below hb)
        replace HC2 := Lib.hid (HC2.out.below hb)
        have HK22 := Lib.hid hk
        replace HO := Lib.hid (And.intro HO.out (show g2 < w9.heap.size by omega))
        clear hb hk hlt
        go_wp2_with (first | (refine wpList_load_row rfl _ _ rfl _ rfl _ _ _ _ HK17.out Try.underlying27 rfl size_rec ?_))
        obtain ⟨o22, ho22⟩ : ∃ o, o = w9.heap.size := ⟨_, rfl⟩
        rw [← ho22] at HK22 HO ⊢
        clear ho22
        generalize w9.alloc (.cells #[.int .i64 0, .int .u16 da, .int .u16 cl, .int .u32 0, .int .i64 0, .int .i64 0, .string na, .int .i64 0] TR) = w10 at HB HK17 HK19 HK22 HC1 HC2 ⊢
        refine (cBehind_any ⟨0, da, cl, su, pa, si, na, of⟩ w10 HIN.out.ok).mono ?_
        rintro e w11 ⟨v, rfl, ⟨a11, n11, c11, rfl, ho11⟩, hb⟩
        replace HB := Lib.hid (HB.out.trans (hb.mono HB.out.size))
        replace HK17 := Lib.hid (HK17.out.below hb)
        replace HK19 := Lib.hid (HK19.out.below hb)
        replace HK22 := Lib.hid (HK22.out.below hb)
        replace HC1 := Lib.hid (HC1.out.below hb)
        replace HC2 := Lib.hid (HC2.out.below hb)
        have hl11 := ho11.len
        have HOW := Lib.hid ho11
        have HLN : Hid (n11 ≤ 1000000) := Lib.hid (by rw [← hl11]; exact behind_le _)
        clear hb ho11 hl11
        go_wp2_with fail
        refine (cNew_any a11 n11 c11 (behindL ⟨0, da, cl, su, pa, si, na, of⟩) w11 HOW.out.len (by have := HLN.out; omega) HOW.out.rd).mono ?_
        rintro e w12 ⟨g3, rfl, hg, hcu, hb⟩
        have hlt := HK22.out.lt
        replace HO := Lib.hid (And.intro HO.out (show o22 < g3 by omega))
        replace HB := Lib.hid (HB.out.trans (hb.mono HB.out.size))
        replace HK17 := Lib.hid (HK17.out.below hb)
        replace HK19 := Lib.hid (HK19.out.below hb)
        replace HK22 := Lib.hid (HK22.out.below hb)
        replace HC1 := Lib.hid (HC1.out.below hb)
        replace HC2 := Lib.hid (HC2.out.below hb)
        have HC3 := Lib.hid hcu
        clear hg hcu hb hlt HOW HLN
        go_wp2_with fail
        obtain ⟨p3, hp3, hq3⟩ := behind_back ⟨0, da, cl, su, pa, si, na, of⟩ HIN.out
        have HCALL := Lib.hid (cReadBehind_any g3 (behindL ⟨0, da, cl, su, pa, si, na, of⟩) (0, 0) w12 HC3.out)
        rw [hp3] at HCALL
        refine HCALL.out.mono ?_
        clear HCALL hp3
        rintro e w13 ⟨rfl, hcu, hgr⟩
        replace HB := Lib.hid (HB.out.grown hgr HB.out.size (fun j hj => by simp only [Option.some.injEq] at hj; have := HO.out; omega))
        replace HK17 := Lib.hid (HK17.out.gs (Gs.of_grown hgr) (by have := HO.out; simp; omega))
        replace HK19 := Lib.hid (HK19.out.gs (Gs.of_grown hgr) (by have := HO.out; simp; omega))
        replace HK22 := Lib.hid (HK22.out.gs (Gs.of_grown hgr) (by have := HO.out; simp; omega))
        replace HC1 := Lib.hid (HC1.out.gs (Gs.of_grown hgr) (by intro k hk; simp only [List.mem_singleton] at hk; have := HO.out; omega))
        replace HC2 := Lib.hid (HC2.out.gs (Gs.of_grown hgr) (by intro k hk; simp only [List.mem_singleton] at hk; have := HO.out; omega))
        replace HC3 := Lib.hid hcu
        have HP3 := Lib.hid (Nat.le_antisymm hcu.place hq3)
        clear hcu hgr hq3
        simp only [Rec.arr, zeroR]
        have hb := below_alloc w13 (.cells #[.int .i64 0, .int .u16 0, .int .u16 0, .int .u32 su, .int .i64 pa, .int .i64 si, .string ⟨#[]⟩, .int .i64 0] TR)
        have hk := Blk.new w13 TR #[.int .i64 0, .int .u16 0, .int .u16 0, .int .u32 su, .int .i64 pa, .int .i64 si, .string ⟨#[]⟩, .int .i64 0]
        have hlt := HC3.out.lt'
        replace HB := Lib.hid (HB.out.trans (hb.mono HB.out.size))
        replace HK17 := Lib.hid (HK17.out.below hb)
        replace HK19 := Lib.hid (HK19.out.below hb)
        replace HK22 := Lib.hid (HK22.out.below hb)
        replace HC1 := Lib.hid (HC1.out.below hb)
        replace HC2 := Lib.hid (HC2.out.below hb)
        replace HC3 := Lib.hid (HC3.out.below hb)
        have HK25 := Lib.hid hk
        replace HO := Lib.hid (And.intro HO.out (show g3 < w13.heap.size by omega))
        clear hb hk hlt
        have HK17a := Lib.hid HK17.out
        have hb := below_alloc (w13.alloc (.cells #[.int .i64 0, .int .u16 0, .int .u16 0, .int .u32 su, .int .i64 pa, .int .i64 si, .string ⟨#[]⟩, .int .i64 0] TR)) (.cells #[.int .i64 0, .int .u16 da, .int .u16 cl, .int .u32 0, .int .i64 0, .int .i64 0, .string na, .int .i64 0] TR)
        have hk26 : Blk ((w13.alloc (.cells #[.int .i64 0, .int .u16 0, .int .u16 0, .int .u32 su, .int .i64 pa, .int .i64 si, .string ⟨#[]⟩, .int .i64 0] TR)).alloc (.cells #[.int .i64 0, .int .u16 da, .int .u16 cl, .int .u32 0, .int .i64 0, .int .i64 0, .string na, .int .i64 0] TR)) (w13.heap.size + 1) TR #[.int .i64 0, .int .u16 da, .int .u16 cl, .int .u32 0, .int .i64 0, .int .i64 0, .string na, .int .i64 0] := by
          have := Blk.new (w13.alloc (.cells #[.int .i64 0, .int .u16 0, .int .u16 0, .int .u32 su, .int .i64 pa, .int .i64 si, .string ⟨#[]⟩, .int .i64 0] TR)) TR #[.int .i64 0, .int .u16 da, .int .u16 cl, .int .u32 0, .int .i64 0, .int .i64 0, .string na, .int .i64 0]
          rwa [show (w13.alloc (.cells #[.int .i64 0, .int .u16 0, .int .u16 0, .int .u32 su, .int .i64 pa, .int .i64 si, .string ⟨#[]⟩, .int .i64 0] TR)).heap.size = w13.heap.size + 1 by simp] at this
        replace HB := Lib.hid (HB.out.trans (hb.mono HB.out.size))
        replace HK17 := Lib.hid (HK17.out.below hb)
        replace HK19 := Lib.hid (HK19.out.below hb)
        replace HK22 := Lib.hid (HK22.out.below hb)
        replace HK25 := Lib.hid (HK25.out.below hb)
        replace HC1 := Lib.hid (HC1.out.below hb)
        replace HC2 := Lib.hid (HC2.out.below hb)
        replace HC3 := Lib.hid (HC3.out.below hb)
        have HK26 := Lib.hid hk26
        clear hb hk26
        obtain ⟨o25, ho25⟩ : ∃ o, o = w13.heap.size := ⟨_, rfl⟩
        obtain ⟨o26, ho26⟩ : ∃ o, o = w13.heap.size + 1 := ⟨_, rfl⟩
        rw [← ho26] at HK26
        rw [← ho25] at HK25
        have HX25 := Lib.hid (And.intro ho25 ho26)
        clear ho25 ho26
        rw [HX25.out.1] at HK25
        rw [HX25.out.2] at HK26
        have d22_0 := HK22.out.cell (i := 0) rfl
        have d22_1 := HK22.out.cell (i := 1) rfl
        have d22_2 := HK22.out.cell (i := 2) rfl
        have d22_3 := HK22.out.cell (i := 3) rfl
        have d22_4 := HK22.out.cell (i := 4) rfl
        have d22_5 := HK22.out.cell (i := 5) rfl
        have d22_6 := HK22.out.cell (i := 6) rfl
        have d22_7 := HK22.out.cell (i := 7) rfl
        have d25_0 := HK25.out.cell (i := 0) rfl
        have d25_1 := HK25.out.cell (i := 1) rfl
        have d25_2 := HK25.out.cell (i := 2) rfl
        have d25_3 := HK25.out.cell (i := 3) rfl
        have d25_4 := HK25.out.cell (i := 4) rfl
        have d25_5 := HK25.out.cell (i := 5) rfl
        have d25_6 := HK25.out.cell (i := 6) rfl
        have d25_7 := HK25.out.cell (i := 7) rfl
        have d26_0 := HK26.out.cell (i := 0) rfl
        have d26_1 := HK26.out.cell (i := 1) rfl
        have d26_2 := HK26.out.cell (i := 2) rfl
        have d26_3 := HK26.out.cell (i := 3) rfl
        have d26_4 := HK26.out.cell (i := 4) rfl
        have d26_5 := HK26.out.cell (i := 5) rfl
        have d26_6 := HK26.out.cell (i := 6) rfl
        have d26_7 := HK26.out.cell (i := 7) rfl
        go_wp2_with (first | (refine wpList_load_row rfl _ _ rfl _ rfl _ _ _ _ HK17a.out Try.underlying27 rfl size_rec ?_) | (refine wpList_load_row rfl _ _ rfl _ rfl _ _ _ _ HK17.out Try.underlying27 rfl size_rec ?_) | (refine wpList_load_row rfl _ _ rfl _ rfl _ _ _ _ HK19.out Try.underlying27 rfl size_rec ?_) | (refine wpList_load_row rfl _ _ rfl _ rfl _ _ _ _ HK22.out Try.underlying27 rfl size_rec ?_) | (refine wpList_load_row rfl _ _ rfl _ rfl _ _ _ _ HK25.out Try.underlying27 rfl size_rec ?_) | (refine wpList_load_row rfl _ _ rfl _ rfl _ _ _ _ HK26.out Try.underlying27 rfl size_rec ?_))
        clear d22_0 d22_1 d22_2 d22_3 d22_4 d22_5 d22_6 d22_7 d25_0 d25_1 d25_2 d25_3 d25_4 d25_5 d25_6 d25_7 d26_0 d26_1 d26_2 d26_3 d26_4 d26_5 d26_6 d26_7 HK17 HK17a HK19 HK22 HK25 HK26 HX25 HO
        generalize (w13.alloc (.cells #[.int .i64 0, .int .u16 0, .int .u16 0, .int .u32 su, .int .i64 pa, .int .i64 si, .string ⟨#[]⟩, .int .i64 0] TR)).alloc (.cells #[.int .i64 0, .int .u16 da, .int .u16 cl, .int .u32 0, .int .i64 0, .int .i64 0, .string na, .int .i64 0] TR) = wE at HB HC1 HC2 HC3 ⊢
        refine (cEnd_done g1 (centralL ⟨0, da, cl, su, pa, si, na, of⟩ true) p1 0 wE HC1.out HP1.out).mono ?_
        rintro e wF0 ⟨rfl, k1, rfl⟩
        replace HC2 := Lib.hid (HC2.out.drewN k1)
        replace HC3 := Lib.hid (HC3.out.drewN k1)
        replace HB : Hid (Below w.heap.size w (wE.drewN k1)) := Lib.hid (HB.out.trans ⟨rfl, rfl, rfl, Nat.le_refl _, fun _ _ => rfl⟩)
        clear HC1 HP1
        generalize wE.drewN k1 = wF at HB HC2 HC3 ⊢
        go_wp2_with fail
        refine (cEnd_done g2 (localL ⟨0, da, cl, su, pa, si, na, of⟩ true) p2 0 wF HC2.out HP2.out).mono ?_
        rintro e wG0 ⟨rfl, k2, rfl⟩
        replace HC3 := Lib.hid (HC3.out.drewN k2)
        replace HB : Hid (Below w.heap.size w (wF.drewN k2)) := Lib.hid (HB.out.trans ⟨rfl, rfl, rfl, Nat.le_refl _, fun _ _ => rfl⟩)
        clear HC2 HP2
        generalize wF.drewN k2 = wG at HB HC3 ⊢
        go_wp2_with fail
        refine (cEnd_done g3 (behindL ⟨0, da, cl, su, pa, si, na, of⟩) p3 0 wG HC3.out HP3.out).mono ?_
        rintro e wH0 ⟨rfl, k3, rfl⟩
        replace HB : Hid (Below w.heap.size w (wG.drewN k3)) := Lib.hid (HB.out.trans ⟨rfl, rfl, rfl, Nat.le_refl _, fun _ _ => rfl⟩)
        clear HC3 HP3
        generalize wG.drewN k3 = wH at HB ⊢
        go_wp2
        go_ret
        exact ⟨rfl, HB.out⟩
      | false =>
        have HIN : Hid (Rec.In ⟨0, da, cl, su, pa, si, na, of⟩) := Lib.hid ⟨by simp, ⟨HR.out.1, HR.out.2.1, HR.out.2.2.1⟩, HR.out.2.2.2.1, HR.out.2.2.2.2.1, HR.out.2.2.2.2.2, hna⟩
        have hb17 := below_alloc w1 (.cells #[.int .i64 0, .int .u16 da, .int .u16 cl, .int .u32 su, .int .i64 pa, .int .i64 si, .string na, .int .i64 of] TR)
        have hk17 := Blk.new w1 TR #[.int .i64 0, .int .u16 da, .int .u16 cl, .int .u32 su, .int .i64 pa, .int .i64 si, .string na, .int .i64 of]
        replace HB := Lib.hid (HB.out.trans (hb17.mono HB.out.size))
        have HK17 := Lib.hid hk17
        have HO : Hid (w.heap.size ≤ w1.heap.size) := Lib.hid (Nat.le_trans (by have := HS1.out; omega) (Nat.le_refl _))
        clear hb17 hk17
        
        go_wp2_with (first | (refine wpList_load_row rfl _ _ rfl _ rfl _ _ _ _ HK17.out Try.underlying27 rfl size_rec ?_))
        obtain ⟨o17, ho17⟩ : ∃ o, o = w1.heap.size := ⟨_, rfl⟩
        rw [← ho17] at HK17 HO ⊢
        clear ho17 c9a c9b
        generalize w1.alloc (.cells #[.int .i64 0, .int .u16 da, .int .u16 cl, .int .u32 su, .int .i64 pa, .int .i64 si, .string na, .int .i64 of] TR) = w2 at HB HK17 ⊢
        refine (cCentral_any ⟨0, da, cl, su, pa, si, na, of⟩ false w2 HIN.out.ok (by have := hna; simp only; omega)).mono ?_
        rintro e w3 ⟨v, rfl, ⟨a3, n3, c3, rfl, ho3⟩, hb⟩
        replace HB := Lib.hid (HB.out.trans (hb.mono HB.out.size))
        replace HK17 := Lib.hid (HK17.out.below hb)
        have hl3 := ho3.len
        have HOW := Lib.hid ho3
        have HLN : Hid (n3 ≤ 1000000) := Lib.hid (by rw [← hl3]; exact central_le _ _ (by simp only; omega))
        clear hb ho3 hl3
        go_wp2_with fail
        refine (cNew_any a3 n3 c3 (centralL ⟨0, da, cl, su, pa, si, na, of⟩ false) w3 HOW.out.len (by have := HLN.out; omega) HOW.out.rd).mono ?_
        rintro e w4 ⟨g1, rfl, hg, hcu, hb⟩
        have hlt := HK17.out.lt
        replace HO := Lib.hid (And.intro HO.out (show o17 < g1 by omega))
        replace HB := Lib.hid (HB.out.trans (hb.mono HB.out.size))
        replace HK17 := Lib.hid (HK17.out.below hb)
        have HC1 := Lib.hid hcu
        clear hg hcu hb hlt HOW HLN
        go_wp2_with fail
        obtain ⟨p1, hp1, hq1⟩ := central_back ⟨0, da, cl, su, pa, si, na, of⟩ false HIN.out
        have HCALL := Lib.hid (cReadCentral_any g1 (centralL ⟨0, da, cl, su, pa, si, na, of⟩ false) (0, 0) w4 HC1.out)
        rw [hp1] at HCALL
        refine HCALL.out.mono ?_
        clear HCALL hp1
        rintro e w5 ⟨rfl, hcu, hgr⟩
        replace HB := Lib.hid (HB.out.grown hgr HB.out.size (fun j hj => by simp only [Option.some.injEq] at hj; have := HO.out; omega))
        replace HK17 := Lib.hid (HK17.out.gs (Gs.of_grown hgr) (by have := HO.out; simp; omega))
        replace HC1 := Lib.hid hcu
        have HP1 := Lib.hid (Nat.le_antisymm hcu.place hq1)
        clear hcu hgr hq1
        simp only [Rec.arr, zeroR]
        have hb := below_alloc w5 (.cells #[.int .i64 0, .int .u16 da, .int .u16 cl, .int .u32 su, .int .i64 pa, .int .i64 si, .string na, .int .i64 of] TR)
        have hk := Blk.new w5 TR #[.int .i64 0, .int .u16 da, .int .u16 cl, .int .u32 su, .int .i64 pa, .int .i64 si, .string na, .int .i64 of]
        have hlt := HC1.out.lt'
        replace HB := Lib.hid (HB.out.trans (hb.mono HB.out.size))
        replace HK17 := Lib.hid (HK17.out.below hb)
        replace HC1 := Lib.hid (HC1.out.below hb)
        have HK19 := Lib.hid hk
        replace HO := Lib.hid (And.intro HO.out (show g1 < w5.heap.size by omega))
        clear hb hk hlt
        go_wp2_with (first | (refine wpList_load_row rfl _ _ rfl _ rfl _ _ _ _ HK17.out Try.underlying27 rfl size_rec ?_))
        obtain ⟨o19, ho19⟩ : ∃ o, o = w5.heap.size := ⟨_, rfl⟩
        rw [← ho19] at HK19 HO ⊢
        clear ho19
        generalize w5.alloc (.cells #[.int .i64 0, .int .u16 da, .int .u16 cl, .int .u32 su, .int .i64 pa, .int .i64 si, .string na, .int .i64 of] TR) = w6 at HB HK17 HK19 HC1 ⊢
        refine (cLocal_any ⟨0, da, cl, su, pa, si, na, of⟩ false w6 HIN.out.ok (by have := hna; simp only; omega)).mono ?_
        rintro e w7 ⟨v, rfl, ⟨a7, n7, c7, rfl, ho7⟩, hb⟩
        replace HB := Lib.hid (HB.out.trans (hb.mono HB.out.size))
        replace HK17 := Lib.hid (HK17.out.below hb)
        replace HK19 := Lib.hid (HK19.out.below hb)
        replace HC1 := Lib.hid (HC1.out.below hb)
        have hl7 := ho7.len
        have HOW := Lib.hid ho7
        have HLN : Hid (n7 ≤ 1000000) := Lib.hid (by rw [← hl7]; exact local_le _ _ (by simp only; omega))
        clear hb ho7 hl7
        go_wp2_with fail
        refine (cNew_any a7 n7 c7 (localL ⟨0, da, cl, su, pa, si, na, of⟩ false) w7 HOW.out.len (by have := HLN.out; omega) HOW.out.rd).mono ?_
        rintro e w8 ⟨g2, rfl, hg, hcu, hb⟩
        have hlt := HK19.out.lt
        replace HO := Lib.hid (And.intro HO.out (show o19 < g2 by omega))
        replace HB := Lib.hid (HB.out.trans (hb.mono HB.out.size))
        replace HK17 := Lib.hid (HK17.out.below hb)
        replace HK19 := Lib.hid (HK19.out.below hb)
        replace HC1 := Lib.hid (HC1.out.below hb)
        have HC2 := Lib.hid hcu
        clear hg hcu hb hlt HOW HLN
        go_wp2_with fail
        obtain ⟨p2, hp2, hq2⟩ := local_back ⟨0, da, cl, su, pa, si, na, of⟩ false HIN.out
        have HCALL := Lib.hid (cReadLocal_any g2 (localL ⟨0, da, cl, su, pa, si, na, of⟩ false) (0, 0) w8 HC2.out)
        rw [hp2] at HCALL
        refine HCALL.out.mono ?_
        clear HCALL hp2
        rintro e w9 ⟨rfl, hcu, hgr⟩
        replace HB := Lib.hid (HB.out.grown hgr HB.out.size (fun j hj => by simp only [Option.some.injEq] at hj; have := HO.out; omega))
        replace HK17 := Lib.hid (HK17.out.gs (Gs.of_grown hgr) (by have := HO.out; simp; omega))
        replace HK19 := Lib.hid (HK19.out.gs (Gs.of_grown hgr) (by have := HO.out; simp; omega))
        replace HC1 := Lib.hid (HC1.out.gs (Gs.of_grown hgr) (by intro k hk; simp only [List.mem_singleton] at hk; have := HO.out; omega))
        replace HC2 := Lib.hid hcu
        have HP2 := Lib.hid (Nat.le_antisymm hcu.place hq2)
        clear hcu hgr hq2
        simp only [Rec.arr, zeroR, if_true, Bool.false_eq_true, if_false]
        have hb := below_alloc w9 (.cells #[.int .i64 0, .int .u16 da, .int .u16 cl, .int .u32 su, .int .i64 pa, .int .i64 si, .string na, .int .i64 0] TR)
        have hk := Blk.new w9 TR #[.int .i64 0, .int .u16 da, .int .u16 cl, .int .u32 su, .int .i64 pa, .int .i64 si, .string na, .int .i64 0]
        have hlt := HC2.out.lt'
        replace HB := Lib.hid (HB.out.trans (hb.mono HB.out.size))
        replace HK17 := Lib.hid (HK17.out.below hb)
        replace HK19 := Lib.hid (HK19.out.below hb)
        replace HC1 := Lib.hid (HC1.out.below hb)
        replace HC2 := Lib.hid (HC2.out.below hb)
        have HK22 := Lib.hid hk
        replace HO := Lib.hid (And.intro HO.out (show g2 < w9.heap.size by omega))
        clear hb hk hlt
        go_wp2_with (first | (refine wpList_load_row rfl _ _ rfl _ rfl _ _ _ _ HK17.out Try.underlying27 rfl size_rec ?_))
        obtain ⟨o22, ho22⟩ : ∃ o, o = w9.heap.size := ⟨_, rfl⟩
        rw [← ho22] at HK22 HO ⊢
        clear ho22
        generalize w9.alloc (.cells #[.int .i64 0, .int .u16 da, .int .u16 cl, .int .u32 su, .int .i64 pa, .int .i64 si, .string na, .int .i64 0] TR) = w10 at HB HK17 HK19 HK22 HC1 HC2 ⊢
        refine (cBehind_any ⟨0, da, cl, su, pa, si, na, of⟩ w10 HIN.out.ok).mono ?_
        rintro e w11 ⟨v, rfl, ⟨a11, n11, c11, rfl, ho11⟩, hb⟩
        replace HB := Lib.hid (HB.out.trans (hb.mono HB.out.size))
        replace HK17 := Lib.hid (HK17.out.below hb)
        replace HK19 := Lib.hid (HK19.out.below hb)
        replace HK22 := Lib.hid (HK22.out.below hb)
        replace HC1 := Lib.hid (HC1.out.below hb)
        replace HC2 := Lib.hid (HC2.out.below hb)
        have hl11 := ho11.len
        have HOW := Lib.hid ho11
        have HLN : Hid (n11 ≤ 1000000) := Lib.hid (by rw [← hl11]; exact behind_le _)
        clear hb ho11 hl11
        go_wp2_with fail
        refine (cNew_any a11 n11 c11 (behindL ⟨0, da, cl, su, pa, si, na, of⟩) w11 HOW.out.len (by have := HLN.out; omega) HOW.out.rd).mono ?_
        rintro e w12 ⟨g3, rfl, hg, hcu, hb⟩
        have hlt := HK22.out.lt
        replace HO := Lib.hid (And.intro HO.out (show o22 < g3 by omega))
        replace HB := Lib.hid (HB.out.trans (hb.mono HB.out.size))
        replace HK17 := Lib.hid (HK17.out.below hb)
        replace HK19 := Lib.hid (HK19.out.below hb)
        replace HK22 := Lib.hid (HK22.out.below hb)
        replace HC1 := Lib.hid (HC1.out.below hb)
        replace HC2 := Lib.hid (HC2.out.below hb)
        have HC3 := Lib.hid hcu
        clear hg hcu hb hlt HOW HLN
        go_wp2_with fail
        obtain ⟨p3, hp3, hq3⟩ := behind_back ⟨0, da, cl, su, pa, si, na, of⟩ HIN.out
        have HCALL := Lib.hid (cReadBehind_any g3 (behindL ⟨0, da, cl, su, pa, si, na, of⟩) (0, 0) w12 HC3.out)
        rw [hp3] at HCALL
        refine HCALL.out.mono ?_
        clear HCALL hp3
        rintro e w13 ⟨rfl, hcu, hgr⟩
        replace HB := Lib.hid (HB.out.grown hgr HB.out.size (fun j hj => by simp only [Option.some.injEq] at hj; have := HO.out; omega))
        replace HK17 := Lib.hid (HK17.out.gs (Gs.of_grown hgr) (by have := HO.out; simp; omega))
        replace HK19 := Lib.hid (HK19.out.gs (Gs.of_grown hgr) (by have := HO.out; simp; omega))
        replace HK22 := Lib.hid (HK22.out.gs (Gs.of_grown hgr) (by have := HO.out; simp; omega))
        replace HC1 := Lib.hid (HC1.out.gs (Gs.of_grown hgr) (by intro k hk; simp only [List.mem_singleton] at hk; have := HO.out; omega))
        replace HC2 := Lib.hid (HC2.out.gs (Gs.of_grown hgr) (by intro k hk; simp only [List.mem_singleton] at hk; have := HO.out; omega))
        replace HC3 := Lib.hid hcu
        have HP3 := Lib.hid (Nat.le_antisymm hcu.place hq3)
        clear hcu hgr hq3
        simp only [Rec.arr, zeroR]
        have hb := below_alloc w13 (.cells #[.int .i64 0, .int .u16 0, .int .u16 0, .int .u32 su, .int .i64 pa, .int .i64 si, .string ⟨#[]⟩, .int .i64 0] TR)
        have hk := Blk.new w13 TR #[.int .i64 0, .int .u16 0, .int .u16 0, .int .u32 su, .int .i64 pa, .int .i64 si, .string ⟨#[]⟩, .int .i64 0]
        have hlt := HC3.out.lt'
        replace HB := Lib.hid (HB.out.trans (hb.mono HB.out.size))
        replace HK17 := Lib.hid (HK17.out.below hb)
        replace HK19 := Lib.hid (HK19.out.below hb)
        replace HK22 := Lib.hid (HK22.out.below hb)
        replace HC1 := Lib.hid (HC1.out.below hb)
        replace HC2 := Lib.hid (HC2.out.below hb)
        replace HC3 := Lib.hid (HC3.out.below hb)
        have HK25 := Lib.hid hk
        replace HO := Lib.hid (And.intro HO.out (show g3 < w13.heap.size by omega))
        clear hb hk hlt
        have HK17a := Lib.hid HK17.out
        have hb := below_alloc (w13.alloc (.cells #[.int .i64 0, .int .u16 0, .int .u16 0, .int .u32 su, .int .i64 pa, .int .i64 si, .string ⟨#[]⟩, .int .i64 0] TR)) (.cells #[.int .i64 0, .int .u16 da, .int .u16 cl, .int .u32 su, .int .i64 pa, .int .i64 si, .string na, .int .i64 0] TR)
        have hk26 : Blk ((w13.alloc (.cells #[.int .i64 0, .int .u16 0, .int .u16 0, .int .u32 su, .int .i64 pa, .int .i64 si, .string ⟨#[]⟩, .int .i64 0] TR)).alloc (.cells #[.int .i64 0, .int .u16 da, .int .u16 cl, .int .u32 su, .int .i64 pa, .int .i64 si, .string na, .int .i64 0] TR)) (w13.heap.size + 1) TR #[.int .i64 0, .int .u16 da, .int .u16 cl, .int .u32 su, .int .i64 pa, .int .i64 si, .string na, .int .i64 0] := by
          have := Blk.new (w13.alloc (.cells #[.int .i64 0, .int .u16 0, .int .u16 0, .int .u32 su, .int .i64 pa, .int .i64 si, .string ⟨#[]⟩, .int .i64 0] TR)) TR #[.int .i64 0, .int .u16 da, .int .u16 cl, .int .u32 su, .int .i64 pa, .int .i64 si, .string na, .int .i64 0]
          rwa [show (w13.alloc (.cells #[.int .i64 0, .int .u16 0, .int .u16 0, .int .u32 su, .int .i64 pa, .int .i64 si, .string ⟨#[]⟩, .int .i64 0] TR)).heap.size = w13.heap.size + 1 by simp] at this
        replace HB := Lib.hid (HB.out.trans (hb.mono HB.out.size))
        replace HK17 := Lib.hid (HK17.out.below hb)
        replace HK19 := Lib.hid (HK19.out.below hb)
        replace HK22 := Lib.hid (HK22.out.below hb)
        replace HK25 := Lib.hid (HK25.out.below hb)
        replace HC1 := Lib.hid (HC1.out.below hb)
        replace HC2 := Lib.hid (HC2.out.below hb)
        replace HC3 := Lib.hid (HC3.out.below hb)
        have HK26 := Lib.hid hk26
        clear hb hk26
        obtain ⟨o25, ho25⟩ : ∃ o, o = w13.heap.size := ⟨_, rfl⟩
        obtain ⟨o26, ho26⟩ : ∃ o, o = w13.heap.size + 1 := ⟨_, rfl⟩
        rw [← ho26] at HK26
        rw [← ho25] at HK25
        have HX25 := Lib.hid (And.intro ho25 ho26)
        clear ho25 ho26
        rw [HX25.out.1] at HK25
        rw [HX25.out.2] at HK26
        have d22_0 := HK22.out.cell (i := 0) rfl
        have d22_1 := HK22.out.cell (i := 1) rfl
        have d22_2 := HK22.out.cell (i := 2) rfl
        have d22_3 := HK22.out.cell (i := 3) rfl
        have d22_4 := HK22.out.cell (i := 4) rfl
        have d22_5 := HK22.out.cell (i := 5) rfl
        have d22_6 := HK22.out.cell (i := 6) rfl
        have d22_7 := HK22.out.cell (i := 7) rfl
        have d25_0 := HK25.out.cell (i := 0) rfl
        have d25_1 := HK25.out.cell (i := 1) rfl
        have d25_2 := HK25.out.cell (i := 2) rfl
        have d25_3 := HK25.out.cell (i := 3) rfl
        have d25_4 := HK25.out.cell (i := 4) rfl
        have d25_5 := HK25.out.cell (i := 5) rfl
        have d25_6 := HK25.out.cell (i := 6) rfl
        have d25_7 := HK25.out.cell (i := 7) rfl
        have d26_0 := HK26.out.cell (i := 0) rfl
        have d26_1 := HK26.out.cell (i := 1) rfl
        have d26_2 := HK26.out.cell (i := 2) rfl
        have d26_3 := HK26.out.cell (i := 3) rfl
        have d26_4 := HK26.out.cell (i := 4) rfl
        have d26_5 := HK26.out.cell (i := 5) rfl
        have d26_6 := HK26.out.cell (i := 6) rfl
        have d26_7 := HK26.out.cell (i := 7) rfl
        go_wp2_with (first | (refine wpList_load_row rfl _ _ rfl _ rfl _ _ _ _ HK17a.out Try.underlying27 rfl size_rec ?_) | (refine wpList_load_row rfl _ _ rfl _ rfl _ _ _ _ HK17.out Try.underlying27 rfl size_rec ?_) | (refine wpList_load_row rfl _ _ rfl _ rfl _ _ _ _ HK19.out Try.underlying27 rfl size_rec ?_) | (refine wpList_load_row rfl _ _ rfl _ rfl _ _ _ _ HK22.out Try.underlying27 rfl size_rec ?_) | (refine wpList_load_row rfl _ _ rfl _ rfl _ _ _ _ HK25.out Try.underlying27 rfl size_rec ?_) | (refine wpList_load_row rfl _ _ rfl _ rfl _ _ _ _ HK26.out Try.underlying27 rfl size_rec ?_))
        clear d22_0 d22_1 d22_2 d22_3 d22_4 d22_5 d22_6 d22_7 d25_0 d25_1 d25_2 d25_3 d25_4 d25_5 d25_6 d25_7 d26_0 d26_1 d26_2 d26_3 d26_4 d26_5 d26_6 d26_7 HK17 HK17a HK19 HK22 HK25 HK26 HX25 HO
        generalize (w13.alloc (.cells #[.int .i64 0, .int .u16 0, .int .u16 0, .int .u32 su, .int .i64 pa, .int .i64 si, .string ⟨#[]⟩, .int .i64 0] TR)).alloc (.cells #[.int .i64 0, .int .u16 da, .int .u16 cl, .int .u32 su, .int .i64 pa, .int .i64 si, .string na, .int .i64 0] TR) = wE at HB HC1 HC2 HC3 ⊢
        refine (cEnd_done g1 (centralL ⟨0, da, cl, su, pa, si, na, of⟩ false) p1 0 wE HC1.out HP1.out).mono ?_
        rintro e wF0 ⟨rfl, k1, rfl⟩
        replace HC2 := Lib.hid (HC2.out.drewN k1)
        replace HC3 := Lib.hid (HC3.out.drewN k1)
        replace HB : Hid (Below w.heap.size w (wE.drewN k1)) := Lib.hid (HB.out.trans ⟨rfl, rfl, rfl, Nat.le_refl _, fun _ _ => rfl⟩)
        clear HC1 HP1
        generalize wE.drewN k1 = wF at HB HC2 HC3 ⊢
        go_wp2_with fail
        refine (cEnd_done g2 (localL ⟨0, da, cl, su, pa, si, na, of⟩ false) p2 0 wF HC2.out HP2.out).mono ?_
        rintro e wG0 ⟨rfl, k2, rfl⟩
        replace HC3 := Lib.hid (HC3.out.drewN k2)
        replace HB : Hid (Below w.heap.size w (wF.drewN k2)) := Lib.hid (HB.out.trans ⟨rfl, rfl, rfl, Nat.le_refl _, fun _ _ => rfl⟩)
        clear HC2 HP2
        generalize wF.drewN k2 = wG at HB HC3 ⊢
        go_wp2_with fail
        refine (cEnd_done g3 (behindL ⟨0, da, cl, su, pa, si, na, of⟩) p3 0 wG HC3.out HP3.out).mono ?_
        rintro e wH0 ⟨rfl, k3, rfl⟩
        replace HB : Hid (Below w.heap.size w (wG.drewN k3)) := Lib.hid (HB.out.trans ⟨rfl, rfl, rfl, Nat.le_refl _, fun _ _ => rfl⟩)
        clear HC3 HP3
        generalize wG.drewN k3 = wH at HB ⊢
        go_wp2
        go_ret
        exact ⟨rfl, HB.out⟩
theorem walkRecordBack (na : ByteArray) (da cl su pa si of : Int) (md bh : Bool) (w : World) (hs : na.size ≤ maxLen) (hda : 0 ≤ da ∧ da < 65536) (hcl : 0 ≤ cl ∧ cl < 65536) (hsu : 0 ≤ su ∧ su < 4294967296) (hpa : 0 ≤ pa ∧ pa < 4294967296) (hsi : 0 ≤ si ∧ si < 4294967296) (hof : 0 ≤ of ∧ of < 4294967296) :
  Calls Try.prog 4 #[.string na, .agg #[.int .u16 da, .int .u16 cl], .int .u32 su, .int .u32 pa, .int .u32 si, .int .u32 of, .bool md, .bool bh] w fun e w' => e = .returned (.bool true) ∧ Below w.heap.size w w' := goRecordBack na da cl su pa si of md bh w hda hcl hsu hpa hsi hof
end Go.Proofs.Ytbknkahakmfhkaa
