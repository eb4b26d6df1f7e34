/- record.reader: named. -/
import Derived.Test.YtbknkahakmfhkaaRecI
namespace Go.Proofs.Ytbknkahakmfhkaa
open Go.RowKit
set_option linter.unusedVariables false
set_option linter.unusedSimpArgs false

def tkS (l : List UInt8) (n : Int) (s : Nat × Int) : Nat × Int := (nextAt l.length s.1 s.2 n true, nextEr l.length s.1 s.2 n true)
def tkN (l : List UInt8) (n : Int) (s : Nat × Int) : ByteArray := strOf (nextL l s.1 s.2 n true)
def namedR (l : List UInt8) (n : Int) (s : Nat × Int) (r : Rec) : Rec := if (tkS l n s).2 = 0 then { r with na := tkN l n s } else zeroR
def namedB (l : List UInt8) (n : Int) (s : Nat × Int) (b : Bool) : Bool := if (tkS l n s).2 = 0 then b else false
set_option maxRecDepth 100000 in
set_option maxHeartbeats 16000000 in
theorem named_any (gr g : Nat) (l : List UInt8) (s : Nat × Int) (odd : Bool) (r : Rec) (bh : Bool) (n : Int) (w : World) (h : RdOk w gr g l s odd) (hn1 : -9223372036854775808 ≤ n) (hn2 : n ≤ 9223372036854775807) :
  Calls Try.prog 64 #[.pointer (some ⟨gr, 0, none⟩), .agg r.arr, .bool bh, .int .i64 n] w fun e w' => e = .returned (.tuple #[.agg (namedR l n s r).arr, .bool (namedB l n s bh)]) ∧ RdOk w' gr g l (tkS l n s) odd ∧ Gs w w' [g, gr] := by
  have hgl := h.lt
  have hrl := h.blk.lt
  obtain ⟨me, da, cl, su, pa, si, na, of⟩ := r
  have hb0 := (below_alloc w (.cells (Rec.arr ⟨me, da, cl, su, pa, si, na, of⟩) TR)).alloc (below_alloc w (.cells (Rec.arr ⟨me, da, cl, su, pa, si, na, of⟩) TR)).size (.cells zeroR.arr TR)
  have hk5 := (Blk.new w TR (Rec.arr ⟨me, da, cl, su, pa, si, na, of⟩)).alloc (.cells zeroR.arr TR)
  have hk8 : Blk ((w.alloc (.cells (Rec.arr ⟨me, da, cl, su, pa, si, na, of⟩) TR)).alloc (.cells zeroR.arr TR)) (w.heap.size + 1) TR zeroR.arr := by
    have := Blk.new (w.alloc (.cells (Rec.arr ⟨me, da, cl, su, pa, si, na, of⟩) TR)) TR zeroR.arr
    rwa [show (w.alloc (.cells (Rec.arr ⟨me, da, cl, su, pa, si, na, of⟩) TR)).heap.size = w.heap.size + 1 by simp] at this
  have hr0 := h.below hb0
  have c0 := hr0.blk.cell (i := 0) rfl
  have HW0 := Lib.hid (show HWt w _ gr g l s odd w.heap.size _ from ⟨hr0, hk5, Gs.of_below hb0, by omega, by omega, Nat.le_refl _⟩)
  have HK8 := Lib.hid hk8
  clear hb0 hk5 h hgl hrl hk8 hr0
  simp only [zeroR, Rec.arr] at HW0 HK8 c0 ⊢
  go_enter Try.func64, Try.ntmps64
  go_wp2_with fail
  generalize (w.alloc (.cells #[.int .i64 me, .int .u16 da, .int .u16 cl, .int .u32 su, .int .i64 pa, .int .i64 si, .string na, .int .i64 of] TR)).alloc (.cells #[.int .i64 0, .int .u16 0, .int .u16 0, .int .u32 0, .int .i64 0, .int .i64 0, .string ⟨#[]⟩, .int .i64 0] TR) = w1 at HW0 HK8 c0 ⊢
  obtain ⟨o5, ho5⟩ : ∃ o, o = w.heap.size := ⟨_, rfl⟩
  obtain ⟨o8, ho8⟩ : ∃ o, o = w.heap.size + 1 := ⟨_, rfl⟩
  have HO : Hid (o5 ≠ o8 ∧ g < o8 ∧ gr < o8 ∧ w.heap.size ≤ o8) := Lib.hid (by have := HW0.out.2.2.2; omega)
  rw [← ho8] at HK8 ⊢
  rw [← ho5] at HW0 ⊢
  clear ho5 ho8 c0
  refine (cTake_any g l s.1 s.2 n w1 HW0.out.1.cur hn1 hn2).mono ?_
  rintro e w2 ⟨a2, k2, c2, rfl, hown2, hcu2, hg2⟩
  have h2 : RdOk w2 gr g l (tkS l n s) odd := ⟨HW0.out.1.blk.grown hg2 (fun e => by have := HW0.out.1.lt; simp only [Option.some.injEq] at e; omega), hcu2, HW0.out.1.lt⟩
  have HW2 := Lib.hid (HW0.out.step h2 (Gs.of_grown hg2) (by simp))
  have HK82 := Lib.hid (HK8.out.gs (Gs.of_grown hg2) (by have := HO.out; simp; omega))
  have hcv := conv_str (P := Try.prog) Try.underlying29 Try.underlying5 Try.underlying9 c2 hown2.len hown2.rd
  rw [show strOf (nextL l s.1 s.2 n true) = tkN l n s from rfl] at hcv
  have HT : Hid (∃ t, t = tkN l n s) := Lib.hid ⟨_, rfl⟩
  clear hown2 hcu2 hg2 h2 HW0 HK8
  generalize hnm : tkN l n s = nm at hcv
  have HNM := Lib.hid hnm
  have q6 := HW2.out.2.1.cell (i := 6) rfl
  have f6 := HW2.out.2.1.frozen 6
  have HW3 := Lib.hid (HW2.out.set 6 (.string nm))
  have HK83 := Lib.hid (HK82.out.setCell_ne (a := ⟨o5, 6, none⟩) (by have := HO.out.1; simpa using this.symm) (.string nm))
  have c0 := HW3.out.1.blk.cell (i := 0) rfl
  clear hnm HW2 HK82 HT
  go_wp2_with fail
  clear hcv q6 f6
  generalize w2.setCell ⟨o5, 6, none⟩ (.string nm) = w3 at HW3 HK83 c0 ⊢
  refine (cErr_any g l _ _ w3 HW3.out.1.cur).mono ?_
  rintro e w4 ⟨rfl, rfl⟩
  clear c0
  by_cases her : (tkS l n s).2 = 0
  · have HR : Hid (namedR l n s ⟨me, da, cl, su, pa, si, na, of⟩ = ⟨me, da, cl, su, pa, si, nm, of⟩ ∧ namedB l n s bh = bh) := Lib.hid (by unfold namedR namedB; rw [if_pos her, if_pos her, ← HNM.out]; exact ⟨rfl, rfl⟩)
    have HB5 : Hid (Blk w3 o5 TR #[.int .i64 me, .int .u16 da, .int .u16 cl, .int .u32 su, .int .i64 pa, .int .i64 si, .string nm, .int .i64 of]) := Lib.hid HW3.out.2.1
    rw [her]
    clear her
    go_wp2_with (first | (refine wpList_load_row rfl _ _ rfl _ rfl _ _ _ _ HB5.out Try.underlying27 rfl size_rec ?_) | (refine wpList_storeBlk rfl _ _ rfl rfl rfl HK83.out rfl size_rec (Rec.one ⟨me, da, cl, su, pa, si, nm, of⟩) ?_; intro d0 dg))
    have hgo := Gs.of_grown dg
    refine bodyPost_ret (results_cell_row2 (p := 8) (u := 9) rfl _ _ o8 _ _ _ _ rfl d0 Try.underlying27 rfl size_rec) rfl ⟨?_, HW3.out.1.gs hgo (by have := HO.out; simp; omega) (by intro k hk; simp only [List.mem_singleton] at hk; have := HO.out; omega), ?_⟩
    · rw [HR.out.1, HR.out.2]; rfl
    · refine ((HW3.out.2.2.1.mono (S' := [g, gr, o5, o8]) (by simp)).trans (hgo.mono (by simp))).drop (fun k hk => ?_)
      simp only [List.mem_cons, List.not_mem_nil, or_false] at hk
      rcases hk with rfl | rfl | rfl | rfl
      · exact .inl (by simp)
      · exact .inl (by simp)
      · exact .inr HW3.out.2.2.2.2.2
      · exact .inr HO.out.2.2.2
  · have HR : Hid (namedR l n s ⟨me, da, cl, su, pa, si, na, of⟩ = zeroR ∧ namedB l n s bh = false) := Lib.hid (by unfold namedR namedB; rw [if_neg her, if_neg her]; exact ⟨rfl, rfl⟩)
    have herb : ((tkS l n s).2 == 0) = false := by simpa using her
    clear her
    go_wp2_with (first | (refine wpList_storeBlk rfl _ _ rfl rfl rfl HK83.out rfl size_rec (Rec.one zeroR) ?_; intro d0 dg))
    have hgo := Gs.of_grown dg
    refine bodyPost_ret (results_cell_row2 (p := 8) (u := 9) rfl _ _ o8 _ _ _ _ rfl d0 Try.underlying27 rfl size_rec) rfl ⟨?_, HW3.out.1.gs hgo (by have := HO.out; simp; omega) (by intro k hk; simp only [List.mem_singleton] at hk; have := HO.out; omega), ?_⟩
    · rw [HR.out.1, HR.out.2]; rfl
    · refine ((HW3.out.2.2.1.mono (S' := [g, gr, o5, o8]) (by simp)).trans (hgo.mono (by simp))).drop (fun k hk => ?_)
      simp only [List.mem_cons, List.not_mem_nil, or_false] at hk
      rcases hk with rfl | rfl | rfl | rfl
      · exact .inl (by simp)
      · exact .inl (by simp)
      · exact .inr HW3.out.2.2.2.2.2
      · exact .inr HO.out.2.2.2
end Go.Proofs.Ytbknkahakmfhkaa
