/- Package record: ReadLocal. -/
import Derived.Test.YtbknkahakmfhkaaRecL
namespace Go.Proofs.Ytbknkahakmfhkaa
open Go.RowKit
set_option linter.unusedVariables false
set_option linter.unusedSimpArgs false

def localP (l : List UInt8) (s : Nat × Int) : (Rec × Bool) × (Nat × Int) :=
  let s1 := rdS l 4 s
  let r := sharedR l s1
  let s2 := rdDataS l (rdT l s1 5)
  let n := rdN l 2 s2
  let n1 := nghS l (rdS l 2 s2) (sharedO l s1 false) 1
  let o2 := n1.2 || !(!sharedB l s1 || (r.su == 0 && r.pa == 0 && r.si == 0))
  let s5 := (n1.1.1, doneE n1.1.2 (rdN l 4 s) 67324752 o2)
  ((namedR l n s5 r, namedB l n s5 (sharedB l s1)), tkS l n s5)
def centralP (l : List UInt8) (s : Nat × Int) : (Rec × Bool) × (Nat × Int) :=
  let s0 := rdS l 2 (rdS l 4 s)
  let o0 := false || !(rdN l 2 (rdS l 4 s) == 20)
  let r := sharedR l s0
  let s2 := rdDataS l (rdT l s0 5)
  let n := rdN l 2 s2
  let n1 := nghS l (rdS l 2 s2) (sharedO l s0 o0) 4
  let o2 := n1.2 || !(rdN l 4 n1.1 == 0)
  let s4 := rdS l 4 (rdS l 4 n1.1)
  let s5 := (s4.1, doneE s4.2 (rdN l 4 s) 33639248 o2)
  let r2 : Rec := { r with of := rdN l 4 (rdS l 4 n1.1) }
  ((namedR l n s5 r2, namedB l n s5 (sharedB l s0)), tkS l n s5)
set_option maxRecDepth 100000 in
set_option maxHeartbeats 32000000 in
theorem cReadLocal_any (g : Nat) (l : List UInt8) (s : Nat × Int) (w : World) (h : CurOk w g l s.1 s.2) :
  Calls Try.prog 23 #[.pointer (some ⟨g, 0, none⟩)] w fun e w' => e = .returned (.tuple #[.agg (localP l s).1.1.arr, .bool (localP l s).1.2]) ∧ CurOk w' g l (localP l s).2.1 (localP l s).2.2 ∧ w.grownBy w' (some g) := by
  have HX0 := Lib.hid (HXt.new h)
  clear h
  go_enter Try.func23, Try.ntmps23
  go_wp2_with fail
  simp only [zeroR, Rec.arr] at HX0
  obtain ⟨gr, hgr⟩ : ∃ o, o = w.heap.size + 1 := ⟨_, rfl⟩
  obtain ⟨o2, ho2⟩ : ∃ o, o = w.heap.size := ⟨_, rfl⟩
  rw [← hgr, ← ho2] at HX0 ⊢
  clear hgr ho2
  generalize (w.alloc (.cells #[.int .i64 0, .int .u16 0, .int .u16 0, .int .u32 0, .int .i64 0, .int .i64 0, .string ⟨#[]⟩, .int .i64 0] TR)).alloc (.cells #[.pointer (some ⟨g, 0, none⟩), .bool false] TRd) = w0 at HX0 ⊢
  refine (four_any gr g l s false w0 HX0.out.1).mono ?_
  rintro e w1 ⟨rfl, h1, hg1⟩
  have HX1 := Lib.hid (HX0.out.step h1 hg1 (by simp))
  clear h1 hg1 HX0
  generalize hmk : rdN l 4 s = mk
  have HMK := Lib.hid hmk
  clear hmk
  go_wp2_with fail
  refine (rshared_any gr g l (rdS l 4 s) false w1 HX1.out.1).mono ?_
  rintro e w2 ⟨rfl, h2, hg2⟩
  have HX2 := Lib.hid (HX1.out.step h2 hg2 (by simp))
  generalize hs2 : rdDataS l (rdT l (rdS l 4 s) 5) = s2 at HX2
  generalize ho1 : sharedO l (rdS l 4 s) false = o1 at HX2
  generalize hbh : sharedB l (rdS l 4 s) = bh
  generalize hrr : sharedR l (rdS l 4 s) = r
  have HDS := Lib.hid (And.intro hs2 (And.intro ho1 (And.intro hbh hrr)))
  clear hs2 ho1 hbh hrr h2 hg2 HX1
  obtain ⟨me, da, cl, su, pa, si, na, of⟩ := r
  simp only [Rec.arr]
  have hb6 := below_alloc w2 (.cells #[.int .i64 me, .int .u16 da, .int .u16 cl, .int .u32 su, .int .i64 pa, .int .i64 si, .string na, .int .i64 of] TR)
  have hk6 := Blk.new w2 TR #[.int .i64 me, .int .u16 da, .int .u16 cl, .int .u32 su, .int .i64 pa, .int .i64 si, .string na, .int .i64 of]
  have HX3 := Lib.hid (HX2.out.below hb6)
  have HO : Hid (g < w2.heap.size ∧ gr < w2.heap.size) := Lib.hid ⟨HX2.out.1.cur.lt', HX2.out.1.blk.lt⟩
  have HK6 := Lib.hid hk6
  clear hb6 hk6 HX2
  go_wp2_with fail
  obtain ⟨o6, ho6⟩ : ∃ o, o = w2.heap.size := ⟨_, rfl⟩
  rw [← ho6] at HK6 HO ⊢
  clear ho6
  generalize w2.alloc (.cells #[.int .i64 me, .int .u16 da, .int .u16 cl, .int .u32 su, .int .i64 pa, .int .i64 si, .string na, .int .i64 of] TR) = w3 at HX3 HK6 ⊢
  refine (two_any gr g l s2 o1 w3 HX3.out.1).mono ?_
  rintro e w4 ⟨rfl, h4, hg4⟩
  have HX4 := Lib.hid (HX3.out.step h4 hg4 (by simp))
  have HK7 := Lib.hid (HK6.out.gs hg4 (by have := HO.out; simp; omega))
  have HNR0 := Lib.hid (rd2_lt l s2)
  generalize hnn : rdN l 2 s2 = nn at HNR0 ⊢
  have HNN := Lib.hid hnn
  have HNR := HNR0
  clear h4 hg4 HX3 HK6 hnn HNR0
  go_wp2_with fail
  refine (noughts_any gr g l _ o1 1 w4 (by decide) HX4.out.1).mono ?_
  rintro e w5 ⟨rfl, h5, hg5⟩
  have HX5 := Lib.hid (HX4.out.step h5 hg5 (by simp))
  have HK8 := Lib.hid (HK7.out.gs hg5 (by have := HO.out; simp; omega))
  generalize hn1 : nghS l (rdS l 2 s2) o1 1 = n1 at HX5
  have HN1 := Lib.hid hn1
  clear h5 hg5 HX4 HK7 hn1
  have q3 := HK8.out.cell (i := 3) rfl
  have q4 := HK8.out.cell (i := 4) rfl
  have q5 := HK8.out.cell (i := 5) rfl
  cases bh with
  | false =>
    go_wp2_with fail
    clear q3 q4 q5
    refine (is_any gr g l n1.1 n1.2 true w5 HX5.out.1).mono ?_
    rintro e wB ⟨rfl, hB, hgB⟩
    have HXB := Lib.hid (HX5.out.step hB hgB (by simp))
    have HKB := Lib.hid (HK8.out.gs hgB (by have := HO.out; simp; omega))
    clear hB hgB HX5 HK8
    go_wp2_with fail
    refine (done_any gr g l n1.1 (n1.2 || !true) mk 67324752 wB HXB.out.1).mono ?_
    rintro e wC ⟨rfl, hC, hgC⟩
    have HXC := Lib.hid (HXB.out.step hC hgC (by simp))
    have HKC := Lib.hid (HKB.out.gs hgC (by have := HO.out; simp; omega))
    have HN16 := Lib.hid (show -9223372036854775808 ≤ nn ∧ nn ≤ 9223372036854775807 by have := HNR.out; omega)
    have HE : Hid (localP l s = ((namedR l nn (n1.1.1, doneE n1.1.2 mk 67324752 (n1.2 || !true)) ⟨me, da, cl, su, pa, si, na, of⟩, namedB l nn (n1.1.1, doneE n1.1.2 mk 67324752 (n1.2 || !true)) false), tkS l nn (n1.1.1, doneE n1.1.2 mk 67324752 (n1.2 || !true)))) := Lib.hid (by
      unfold localP
      simp only []
      rw [HDS.out.1, HDS.out.2.1, HDS.out.2.2.1, HDS.out.2.2.2, HNN.out, HN1.out, HMK.out]
      simp only [Bool.not_false, Bool.true_or, Bool.not_true])
    generalize doneE n1.1.2 mk 67324752 (n1.2 || !true) = er at HXC HE ⊢
    clear hC hgC HXB HKB HNR HDS HNN HN1 HMK
    go_wp2_with (first | (refine wpList_load_row rfl _ _ rfl _ rfl _ _ _ _ HKC.out Try.underlying27 rfl size_rec ?_))
    refine (named_any gr g l (n1.1.1, er) _ ⟨me, da, cl, su, pa, si, na, of⟩ false nn wC HXC.out.1 HN16.out.1 HN16.out.2).mono ?_
    rintro e wD ⟨rfl, hD, hgD⟩
    have HXD := Lib.hid (HXC.out.step hD hgD (by simp))
    generalize namedR l nn (n1.1.1, er) ⟨me, da, cl, su, pa, si, na, of⟩ = rr at HE ⊢
    generalize namedB l nn (n1.1.1, er) false = bb at HE ⊢
    clear hD hgD HXC HKC HN16
    go_wp2_with (first | (refine wpList_storeBlk rfl _ _ rfl rfl rfl HXD.out.2.2.1 rfl size_rec (Rec.one _) ?_; intro d0 dg))
    refine bodyPost_ret (results_cell_row2 (p := 2) (u := 3) rfl _ _ o2 _ _ _ _ rfl d0 Try.underlying27 rfl size_rec) rfl ?_
    rw [HE.out]
    exact ⟨rfl, HXD.out.fin dg⟩
  | true =>
    by_cases hsu : su = 0
    · subst hsu
      by_cases hpa : pa = 0
      · subst hpa
        go_wp2_with fail
        clear q3 q4 q5
        refine (is_any gr g l n1.1 n1.2 (si == 0) w5 HX5.out.1).mono ?_
        rintro e wB ⟨rfl, hB, hgB⟩
        have HXB := Lib.hid (HX5.out.step hB hgB (by simp))
        have HKB := Lib.hid (HK8.out.gs hgB (by have := HO.out; simp; omega))
        clear hB hgB HX5 HK8
        go_wp2_with fail
        refine (done_any gr g l n1.1 (n1.2 || !(si == 0)) mk 67324752 wB HXB.out.1).mono ?_
        rintro e wC ⟨rfl, hC, hgC⟩
        have HXC := Lib.hid (HXB.out.step hC hgC (by simp))
        have HKC := Lib.hid (HKB.out.gs hgC (by have := HO.out; simp; omega))
        have HN16 := Lib.hid (show -9223372036854775808 ≤ nn ∧ nn ≤ 9223372036854775807 by have := HNR.out; omega)
        have HE : Hid (localP l s = ((namedR l nn (n1.1.1, doneE n1.1.2 mk 67324752 (n1.2 || !(si == 0))) ⟨me, da, cl, 0, 0, si, na, of⟩, namedB l nn (n1.1.1, doneE n1.1.2 mk 67324752 (n1.2 || !(si == 0))) true), tkS l nn (n1.1.1, doneE n1.1.2 mk 67324752 (n1.2 || !(si == 0))))) := Lib.hid (by
          unfold localP
          simp only []
          rw [HDS.out.1, HDS.out.2.1, HDS.out.2.2.1, HDS.out.2.2.2, HNN.out, HN1.out, HMK.out]
          simp only [Bool.not_true, Bool.false_or, beq_self_eq_true, Bool.true_and])
        generalize doneE n1.1.2 mk 67324752 (n1.2 || !(si == 0)) = er at HXC HE ⊢
        clear hC hgC HXB HKB HNR HDS HNN HN1 HMK
        go_wp2_with (first | (refine wpList_load_row rfl _ _ rfl _ rfl _ _ _ _ HKC.out Try.underlying27 rfl size_rec ?_))
        refine (named_any gr g l (n1.1.1, er) _ ⟨me, da, cl, 0, 0, si, na, of⟩ true nn wC HXC.out.1 HN16.out.1 HN16.out.2).mono ?_
        rintro e wD ⟨rfl, hD, hgD⟩
        have HXD := Lib.hid (HXC.out.step hD hgD (by simp))
        generalize namedR l nn (n1.1.1, er) ⟨me, da, cl, 0, 0, si, na, of⟩ = rr at HE ⊢
        generalize namedB l nn (n1.1.1, er) true = bb at HE ⊢
        clear hD hgD HXC HKC HN16
        go_wp2_with (first | (refine wpList_storeBlk rfl _ _ rfl rfl rfl HXD.out.2.2.1 rfl size_rec (Rec.one _) ?_; intro d0 dg))
        refine bodyPost_ret (results_cell_row2 (p := 2) (u := 3) rfl _ _ o2 _ _ _ _ rfl d0 Try.underlying27 rfl size_rec) rfl ?_
        rw [HE.out]
        exact ⟨rfl, HXD.out.fin dg⟩
      · have hpab : (pa == 0) = false := by simpa using hpa
        clear hpa
        go_wp2_with fail
        clear q3 q4 q5
        refine (is_any gr g l n1.1 n1.2 false w5 HX5.out.1).mono ?_
        rintro e wB ⟨rfl, hB, hgB⟩
        have HXB := Lib.hid (HX5.out.step hB hgB (by simp))
        have HKB := Lib.hid (HK8.out.gs hgB (by have := HO.out; simp; omega))
        clear hB hgB HX5 HK8
        go_wp2_with fail
        refine (done_any gr g l n1.1 (n1.2 || !false) mk 67324752 wB HXB.out.1).mono ?_
        rintro e wC ⟨rfl, hC, hgC⟩
        have HXC := Lib.hid (HXB.out.step hC hgC (by simp))
        have HKC := Lib.hid (HKB.out.gs hgC (by have := HO.out; simp; omega))
        have HN16 := Lib.hid (show -9223372036854775808 ≤ nn ∧ nn ≤ 9223372036854775807 by have := HNR.out; omega)
        have HE : Hid (localP l s = ((namedR l nn (n1.1.1, doneE n1.1.2 mk 67324752 (n1.2 || !false)) ⟨me, da, cl, 0, pa, si, na, of⟩, namedB l nn (n1.1.1, doneE n1.1.2 mk 67324752 (n1.2 || !false)) true), tkS l nn (n1.1.1, doneE n1.1.2 mk 67324752 (n1.2 || !false)))) := Lib.hid (by
          unfold localP
          simp only []
          rw [HDS.out.1, HDS.out.2.1, HDS.out.2.2.1, HDS.out.2.2.2, HNN.out, HN1.out, HMK.out]
          simp only [Bool.not_true, Bool.false_or, beq_self_eq_true, Bool.true_and, hpab, Bool.false_and])
        generalize doneE n1.1.2 mk 67324752 (n1.2 || !false) = er at HXC HE ⊢
        clear hC hgC HXB HKB HNR HDS HNN HN1 HMK
        go_wp2_with (first | (refine wpList_load_row rfl _ _ rfl _ rfl _ _ _ _ HKC.out Try.underlying27 rfl size_rec ?_))
        refine (named_any gr g l (n1.1.1, er) _ ⟨me, da, cl, 0, pa, si, na, of⟩ true nn wC HXC.out.1 HN16.out.1 HN16.out.2).mono ?_
        rintro e wD ⟨rfl, hD, hgD⟩
        have HXD := Lib.hid (HXC.out.step hD hgD (by simp))
        generalize namedR l nn (n1.1.1, er) ⟨me, da, cl, 0, pa, si, na, of⟩ = rr at HE ⊢
        generalize namedB l nn (n1.1.1, er) true = bb at HE ⊢
        clear hD hgD HXC HKC HN16
        go_wp2_with (first | (refine wpList_storeBlk rfl _ _ rfl rfl rfl HXD.out.2.2.1 rfl size_rec (Rec.one _) ?_; intro d0 dg))
        refine bodyPost_ret (results_cell_row2 (p := 2) (u := 3) rfl _ _ o2 _ _ _ _ rfl d0 Try.underlying27 rfl size_rec) rfl ?_
        rw [HE.out]
        exact ⟨rfl, HXD.out.fin dg⟩
    · have hsub : (su == 0) = false := by simpa using hsu
      clear hsu
      go_wp2_with fail
      clear q3 q4 q5
      refine (is_any gr g l n1.1 n1.2 false w5 HX5.out.1).mono ?_
      rintro e wB ⟨rfl, hB, hgB⟩
      have HXB := Lib.hid (HX5.out.step hB hgB (by simp))
      have HKB := Lib.hid (HK8.out.gs hgB (by have := HO.out; simp; omega))
      clear hB hgB HX5 HK8
      go_wp2_with fail
      refine (done_any gr g l n1.1 (n1.2 || !false) mk 67324752 wB HXB.out.1).mono ?_
      rintro e wC ⟨rfl, hC, hgC⟩
      have HXC := Lib.hid (HXB.out.step hC hgC (by simp))
      have HKC := Lib.hid (HKB.out.gs hgC (by have := HO.out; simp; omega))
      have HN16 := Lib.hid (show -9223372036854775808 ≤ nn ∧ nn ≤ 9223372036854775807 by have := HNR.out; omega)
      have HE : Hid (localP l s = ((namedR l nn (n1.1.1, doneE n1.1.2 mk 67324752 (n1.2 || !false)) ⟨me, da, cl, su, pa, si, na, of⟩, namedB l nn (n1.1.1, doneE n1.1.2 mk 67324752 (n1.2 || !false)) true), tkS l nn (n1.1.1, doneE n1.1.2 mk 67324752 (n1.2 || !false)))) := Lib.hid (by
        unfold localP
        simp only []
        rw [HDS.out.1, HDS.out.2.1, HDS.out.2.2.1, HDS.out.2.2.2, HNN.out, HN1.out, HMK.out]
        simp only [Bool.not_true, Bool.false_or, hsub, Bool.false_and])
      generalize doneE n1.1.2 mk 67324752 (n1.2 || !false) = er at HXC HE ⊢
      clear hC hgC HXB HKB HNR HDS HNN HN1 HMK
      go_wp2_with (first | (refine wpList_load_row rfl _ _ rfl _ rfl _ _ _ _ HKC.out Try.underlying27 rfl size_rec ?_))
      refine (named_any gr g l (n1.1.1, er) _ ⟨me, da, cl, su, pa, si, na, of⟩ true nn wC HXC.out.1 HN16.out.1 HN16.out.2).mono ?_
      rintro e wD ⟨rfl, hD, hgD⟩
      have HXD := Lib.hid (HXC.out.step hD hgD (by simp))
      generalize namedR l nn (n1.1.1, er) ⟨me, da, cl, su, pa, si, na, of⟩ = rr at HE ⊢
      generalize namedB l nn (n1.1.1, er) true = bb at HE ⊢
      clear hD hgD HXC HKC HN16
      go_wp2_with (first | (refine wpList_storeBlk rfl _ _ rfl rfl rfl HXD.out.2.2.1 rfl size_rec (Rec.one _) ?_; intro d0 dg))
      refine bodyPost_ret (results_cell_row2 (p := 2) (u := 3) rfl _ _ o2 _ _ _ _ rfl d0 Try.underlying27 rfl size_rec) rfl ?_
      rw [HE.out]
      exact ⟨rfl, HXD.out.fin dg⟩
end Go.Proofs.Ytbknkahakmfhkaa
