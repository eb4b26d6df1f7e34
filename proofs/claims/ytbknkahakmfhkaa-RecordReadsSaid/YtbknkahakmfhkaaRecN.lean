/- Package record: ReadCentral. -/
import Derived.Test.YtbknkahakmfhkaaRecM
namespace Go.Proofs.Ytbknkahakmfhkaa
open Go.RowKit
set_option linter.unusedVariables false
set_option linter.unusedSimpArgs false

set_option maxRecDepth 100000 in
set_option maxHeartbeats 32000000 in
theorem cReadCentral_any (g : Nat) (l : List UInt8) (s : Nat × Int) (w : World) (h : CurOk w g l s.1 s.2) :
  Calls Try.prog 22 #[.pointer (some ⟨g, 0, none⟩)] w fun e w' => e = .returned (.tuple #[.agg (centralP l s).1.1.arr, .bool (centralP l s).1.2]) ∧ CurOk w' g l (centralP l s).2.1 (centralP l s).2.2 ∧ w.grownBy w' (some g) := by
  have HX0 := Lib.hid (HXt.new h)
  clear h
  go_enter Try.func22, Try.ntmps22
  go_wp2_with fail
  simp only [zeroR, Rec.arr] at HX0
  obtain ⟨gr, hgr⟩ : ∃ o, o = w.heap.size + 1 := ⟨_, rfl⟩
  obtain ⟨o2, ho2⟩ : ∃ o, o = w.heap.size := ⟨_, rfl⟩
  rw [← hgr, ← ho2] at HX0 ⊢
  clear hgr ho2
  generalize (w.alloc (.cells #[.int .i64 0, .int .u16 0, .int .u16 0, .int .u32 0, .int .i64 0, .int .i64 0, .string ⟨#[]⟩, .int .i64 0] TR)).alloc (.cells #[.pointer (some ⟨g, 0, none⟩), .bool false] TRd) = w0 at HX0 ⊢
  refine (four_any gr g l s false w0 HX0.out.1).mono ?_
  rintro e w1 ⟨rfl, h1, hg1⟩
  have HX1 := Lib.hid (HX0.out.step h1 hg1 (by simp))
  clear h1 hg1 HX0
  generalize hmk : rdN l 4 s = mk
  have HMK := Lib.hid hmk
  clear hmk
  go_wp2_with fail
  refine (two_any gr g l (rdS l 4 s) false w1 HX1.out.1).mono ?_
  rintro e wp ⟨rfl, hp, hgp⟩
  have HXp := Lib.hid (HX1.out.step hp hgp (by simp))
  generalize hvv : rdN l 2 (rdS l 4 s) = vv
  have HVV := Lib.hid hvv
  clear hvv hp hgp HX1
  go_wp2_with fail
  refine (is_any gr g l _ false (vv == 20) wp HXp.out.1).mono ?_
  rintro e wq ⟨rfl, hq, hgq⟩
  have HXq := Lib.hid (HXp.out.step hq hgq (by simp))
  generalize hs0 : rdS l 2 (rdS l 4 s) = s0 at HXq
  have HS0 := Lib.hid hs0
  clear hq hgq HXp hs0
  go_wp2_with fail
  refine (rshared_any gr g l s0 (false || !(vv == 20)) wq HXq.out.1).mono ?_
  rintro e w2 ⟨rfl, h2, hg2⟩
  have HX2 := Lib.hid (HXq.out.step h2 hg2 (by simp))
  generalize hs2 : rdDataS l (rdT l s0 5) = s2 at HX2
  generalize ho1 : sharedO l s0 (false || !(vv == 20)) = o1 at HX2
  generalize hbh : sharedB l s0 = bh
  generalize hrr : sharedR l s0 = r
  have HDS := Lib.hid (And.intro hs2 (And.intro ho1 (And.intro hbh hrr)))
  clear hs2 ho1 hbh hrr h2 hg2 HXq
  obtain ⟨me, da, cl, su, pa, si, na, of⟩ := r
  simp only [Rec.arr]
  have hb6 := below_alloc w2 (.cells #[.int .i64 me, .int .u16 da, .int .u16 cl, .int .u32 su, .int .i64 pa, .int .i64 si, .string na, .int .i64 of] TR)
  have hk6 := Blk.new w2 TR #[.int .i64 me, .int .u16 da, .int .u16 cl, .int .u32 su, .int .i64 pa, .int .i64 si, .string na, .int .i64 of]
  have HX3 := Lib.hid (HX2.out.below hb6)
  have HO : Hid (g < w2.heap.size ∧ gr < w2.heap.size ∧ o2 < w2.heap.size ∧ w.heap.size ≤ w2.heap.size) := Lib.hid ⟨HX2.out.1.cur.lt', HX2.out.1.blk.lt, HX2.out.2.2.1.lt, HX2.out.2.1.size⟩
  have HK6 := Lib.hid hk6
  clear hb6 hk6 HX2
  go_wp2_with fail
  obtain ⟨o6, ho6⟩ : ∃ o, o = w2.heap.size := ⟨_, rfl⟩
  rw [← ho6] at HK6 HO ⊢
  clear ho6
  generalize w2.alloc (.cells #[.int .i64 me, .int .u16 da, .int .u16 cl, .int .u32 su, .int .i64 pa, .int .i64 si, .string na, .int .i64 of] TR) = w3 at HX3 HK6 ⊢
  refine (two_any gr g l s2 o1 w3 HX3.out.1).mono ?_
  rintro e w4 ⟨rfl, h4, hg4⟩
  have HX4 := Lib.hid (HX3.out.step h4 hg4 (by simp))
  have HK7 := Lib.hid (HK6.out.gs hg4 (by have := HO.out; simp; omega))
  have HNR0 := Lib.hid (rd2_lt l s2)
  generalize hnn : rdN l 2 s2 = nn at HNR0 ⊢
  have HNN := Lib.hid hnn
  have HNR := HNR0
  clear h4 hg4 HX3 HK6 hnn HNR0
  go_wp2_with fail
  refine (noughts_any gr g l _ o1 4 w4 (by decide) HX4.out.1).mono ?_
  rintro e w5 ⟨rfl, h5, hg5⟩
  have HX5 := Lib.hid (HX4.out.step h5 hg5 (by simp))
  have HK8 := Lib.hid (HK7.out.gs hg5 (by have := HO.out; simp; omega))
  generalize hn1 : nghS l (rdS l 2 s2) o1 4 = n1 at HX5
  have HN1 := Lib.hid hn1
  clear h5 hg5 HX4 HK7 hn1
  go_wp2_with fail
  refine (four_any gr g l n1.1 n1.2 w5 HX5.out.1).mono ?_
  rintro e w6 ⟨rfl, h6, hg6⟩
  have HX6 := Lib.hid (HX5.out.step h6 hg6 (by simp))
  have HK9 := Lib.hid (HK8.out.gs hg6 (by have := HO.out; simp; omega))
  generalize hzz : rdN l 4 n1.1 = zz
  have HZZ := Lib.hid hzz
  clear h6 hg6 HX5 HK8 hzz
  go_wp2_with fail
  refine (is_any gr g l _ n1.2 (zz == 0) w6 HX6.out.1).mono ?_
  rintro e w7 ⟨rfl, h7, hg7⟩
  have HX7 := Lib.hid (HX6.out.step h7 hg7 (by simp))
  have HK10 := Lib.hid (HK9.out.gs hg7 (by have := HO.out; simp; omega))
  clear h7 hg7 HX6 HK9
  go_wp2_with fail
  refine (four_any gr g l (rdS l 4 n1.1) _ w7 HX7.out.1).mono ?_
  rintro e w8 ⟨rfl, h8, hg8⟩
  have HX8 := Lib.hid (HX7.out.step h8 hg8 (by simp))
  have HK11 := Lib.hid (HK10.out.gs hg8 (by have := HO.out; simp; omega))
  generalize hoff : rdN l 4 (rdS l 4 n1.1) = off
  have HOFF := Lib.hid hoff
  generalize hs4 : rdS l 4 (rdS l 4 n1.1) = s4 at HX8
  have HS4 := Lib.hid hs4
  have q7 := HK11.out.cell (i := 7) rfl
  have f7 := HK11.out.frozen 7
  have HKB := Lib.hid (HK11.out.setCell 7 (.int .i64 off))
  have hg9 := Gs.of_grown (grownBy_setCell w8 ⟨o6, 7, none⟩ (.int .i64 off))
  have HXB := Lib.hid (HX8.out.step3 (o := o6) (HX8.out.1.gs hg9 (by have := HO.out; simp; omega) (by intro k hk; simp only [List.mem_singleton] at hk; have := HO.out; omega)) hg9 (by simp) (by have := HO.out; exact ⟨this.2.2.2, by omega⟩))
  clear h8 hg8 hoff hs4 HX7 HK10 HX8 HK11 hg9
  go_wp2_with fail
  clear q7 f7
  generalize w8.setCell ⟨o6, 7, none⟩ (.int .i64 off) = wB at HXB HKB ⊢
  replace HKB : Hid (Blk wB o6 TR #[.int .i64 me, .int .u16 da, .int .u16 cl, .int .u32 su, .int .i64 pa, .int .i64 si, .string na, .int .i64 off]) := HKB
  refine (done_any gr g l s4 (n1.2 || !(zz == 0)) mk 33639248 wB HXB.out.1).mono ?_
  rintro e wC ⟨rfl, hC, hgC⟩
  have HXC := Lib.hid (HXB.out.step hC hgC (by simp))
  have HKC := Lib.hid (HKB.out.gs hgC (by have := HO.out; simp; omega))
  have HN16 := Lib.hid (show -9223372036854775808 ≤ nn ∧ nn ≤ 9223372036854775807 by have := HNR.out; omega)
  have HE : Hid (centralP l s = ((namedR l nn (s4.1, doneE s4.2 mk 33639248 (n1.2 || !(zz == 0))) ⟨me, da, cl, su, pa, si, na, off⟩, namedB l nn (s4.1, doneE s4.2 mk 33639248 (n1.2 || !(zz == 0))) bh), tkS l nn (s4.1, doneE s4.2 mk 33639248 (n1.2 || !(zz == 0))))) := Lib.hid (by
    unfold centralP
    simp only []
    rw [HVV.out, HS0.out, HDS.out.1, HDS.out.2.1, HDS.out.2.2.1, HDS.out.2.2.2, HNN.out, HN1.out, HZZ.out, HOFF.out, HS4.out, HMK.out])
  generalize doneE s4.2 mk 33639248 (n1.2 || !(zz == 0)) = er at HXC HE ⊢
  clear hC hgC HXB HKB HNR HVV HS0 HDS HNN HN1 HZZ HOFF HS4 HMK
  go_wp2_with (first | (refine wpList_load_row rfl _ _ rfl _ rfl _ _ _ _ HKC.out Try.underlying27 rfl size_rec ?_))
  refine (named_any gr g l (s4.1, er) _ ⟨me, da, cl, su, pa, si, na, off⟩ bh nn wC HXC.out.1 HN16.out.1 HN16.out.2).mono ?_
  rintro e wD ⟨rfl, hD, hgD⟩
  have HXD := Lib.hid (HXC.out.step hD hgD (by simp))
  generalize namedR l nn (s4.1, er) ⟨me, da, cl, su, pa, si, na, off⟩ = rr at HE ⊢
  generalize namedB l nn (s4.1, er) bh = bb at HE ⊢
  clear hD hgD HXC HKC HN16
  go_wp2_with (first | (refine wpList_storeBlk rfl _ _ rfl rfl rfl HXD.out.2.2.1 rfl size_rec (Rec.one _) ?_; intro d0 dg))
  refine bodyPost_ret (results_cell_row2 (p := 2) (u := 3) rfl _ _ o2 _ _ _ _ rfl d0 Try.underlying27 rfl size_rec) rfl ?_
  rw [HE.out]
  exact ⟨rfl, HXD.out.fin dg⟩
end Go.Proofs.Ytbknkahakmfhkaa
