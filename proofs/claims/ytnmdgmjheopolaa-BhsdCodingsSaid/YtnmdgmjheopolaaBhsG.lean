/- bhsd.Put. -/
import Derived.Test.YtnmdgmjheopolaaBhsF
import Derived.Test.YtnmdgmjheopolaaAppA
namespace Go.Proofs.Ytnmdgmjheopolaa
open Go.RowKit
set_option linter.unusedVariables false
set_option linter.unusedSimpArgs false

def putErr (b h s d v : Int) : Int := if RightC b h s d then (if FitsC b h s d (plainC s v) then 0 else 5) else 1
def putRes (l : List UInt8) (b h s d v : Int) : List UInt8 := if FitsC b h s d (plainC s v) then l ++ bytesC b h (plainC s v) else []

def IPut (B : Nat) (wz : World) (n : Nat) (l m : List UInt8) (L : Nat → Bool) (a : Act) (w : World) : Prop :=
  Below B wz w ∧ (L 1 = true → L 6 = false → ∃ p c, Own w B 5 bE p n c l ∧ a.tmps.getD 18 undef = .slice p n c) ∧
  (L 6 = true → ∃ p n' c, n' ≤ n + 5 ∧ Own w B 5 bE p n' c (l ++ m) ∧ a.tmps.getD 23 undef = .slice p n' c ∧ (L 7 = true → a.tmps.getD 6 undef = .slice p n' c)) ∧ (L 7 = true → L 6 = true) ∧ (L 6 = true → L 5 = true) ∧ (L 5 = true → L 1 = true)
section
variable {B : Nat} {wz : World} {n : Nat} {l m : List UInt8} {L : Nat → Bool} {a : Act} {w : World}
theorem IPut.pure (h : IPut B wz n l m L a w) {k : Nat} (h1 : 1 ≠ k) (h2 : 6 ≠ k) (h3 : 7 ≠ k) (h5 : 5 ≠ k) {dst : Option Tmp} (hd : dst ≠ some 18) (hd2 : dst ≠ some 23) (hd3 : dst ≠ some 6) (V : Value) : IPut B wz n l m (setL L k) (a.put dst V) w := by
  obtain ⟨i1, i2, i3, i4⟩ := h
  unfold IPut
  rw [setL_ne h1, setL_ne h2, setL_ne h3, setL_ne h5, getD_put_ne hd, getD_put_ne hd2, getD_put_ne hd3]
  exact ⟨i1, i2, i3, i4⟩
theorem IPut.no6 (h : IPut B wz n l m L a w) (h5 : L 5 = false) : L 6 = false := by
  cases hh : L 6 with
  | false => rfl
  | true => rw [h.2.2.2.2.1 hh] at h5; cases h5
theorem IPut.no5 (h : IPut B wz n l m L a w) (h1 : L 1 = false) : L 5 = false := by
  cases hh : L 5 with
  | false => rfl
  | true => rw [h.2.2.2.2.2 hh] at h1; cases h1
theorem IPut.no7 (h : IPut B wz n l m L a w) (h1 : L 6 = false) : L 7 = false := by
  cases hh : L 7 with
  | false => rfl
  | true => rw [h.2.2.2.1 hh] at h1; cases h1
theorem IPut.clone (h : IPut B wz n l m L a w) (h1 : L 1 = false) {w2 : World} {p : Option Addr} {c : Nat} (hb : Below w.heap.size w w2) (hB : B ≤ w.heap.size) (ho : Own w2 B 5 bE p n c l) (hs : 18 < a.tmps.size) : IPut B wz n l m (setL L 1) (a.put (some 18) (.slice p n c)) w2 := by
  have h5 := h.no5 h1
  have h6 := h.no6 h5
  have h7 := h.no7 h6
  obtain ⟨i1, i2, i3, i4⟩ := h
  unfold IPut
  rw [setL_same, setL_ne (show (5 : Nat) ≠ 1 by decide), setL_ne (show (6 : Nat) ≠ 1 by decide), setL_ne (show (7 : Nat) ≠ 1 by decide), getD_put_same hs, h5, h6, h7]
  exact ⟨i1.trans (hb.mono hB), fun _ _ => ⟨p, c, ho, rfl⟩, by simp, by simp⟩
theorem IPut.plain (h : IPut B wz n l m L a w) (h1 : L 1 = true) (h5 : L 5 = false) {w2 : World} (hb : Below w.heap.size w w2) (hB : B ≤ w.heap.size) (V : Value) : IPut B wz n l m (setL L 5) (a.put (some 22) V) w2 := by
  have h6 := h.no6 h5
  have h7 := h.no7 h6
  obtain ⟨i1, i2, i3, i4⟩ := h
  unfold IPut
  rw [setL_same, setL_ne (show (1 : Nat) ≠ 5 by decide), setL_ne (show (6 : Nat) ≠ 5 by decide), setL_ne (show (7 : Nat) ≠ 5 by decide), getD_put_ne (by decide), h6, h7, h1]
  refine ⟨i1.trans (hb.mono hB), fun _ _ => ?_, by simp, by simp⟩
  obtain ⟨p, c, ho, hv⟩ := i2 h1 h6
  exact ⟨p, c, ho.below hb, hv⟩
theorem IPut.put (h : IPut B wz n l m L a w) (h5 : L 5 = true) (h6 : L 6 = false) {w2 : World} {p : Option Addr} {n' c : Nat} (hb : Below B w w2) (hn : n' ≤ n + 5) (ho : Own w2 B 5 bE p n' c (l ++ m)) (hs : 23 < a.tmps.size) : IPut B wz n l m (setL L 6) (a.put (some 23) (.slice p n' c)) w2 := by
  have h7 := h.no7 h6
  obtain ⟨i1, i2, i3, i4, i5, i6⟩ := h
  unfold IPut
  rw [setL_same, setL_ne (show (1 : Nat) ≠ 6 by decide), setL_ne (show (5 : Nat) ≠ 6 by decide), setL_ne (show (7 : Nat) ≠ 6 by decide), getD_put_same hs, h7, h5, i6 h5]
  exact ⟨i1.trans hb, by simp, fun _ => ⟨p, n', c, hn, ho, rfl, by simp⟩, by simp⟩
theorem IPut.fin (h : IPut B wz n l m L a w) (h6 : L 6 = true) (hs : 6 < a.tmps.size) : IPut B wz n l m (setL L 7) (a.put (some 6) (a.tmps.getD 23 undef)) w := by
  obtain ⟨i1, i2, i3, i4, i5, i6⟩ := h
  unfold IPut
  rw [setL_same, setL_ne (show (1 : Nat) ≠ 7 by decide), setL_ne (show (5 : Nat) ≠ 7 by decide), setL_ne (show (6 : Nat) ≠ 7 by decide), getD_put_same hs, getD_put_ne (by decide), getD_put_ne (by decide), h6]
  obtain ⟨p, n', c, hn, ho, hv, _⟩ := i3 h6
  exact ⟨i1, by simp, fun _ => ⟨p, n', c, hn, ho, hv, fun _ => hv⟩, by simp, fun _ => i5 h6, i6⟩
end

set_option maxRecDepth 100000 in
set_option maxHeartbeats 8000000 in
theorem bPut_any (a : Option Addr) (n c : Nat) (l : List UInt8) (b h s d v : Int) (w : World) (hl : l.length = n) (hn : n ≤ 1000000000) (hr : Rd w bE a l) (hb0 : In64 b) (hh0 : In64 h) (hs0 : In64 s) (hd0 : In64 d) :
  Calls Try.prog 15 #[.slice a n c, .agg #[.int .i64 b, .int .i64 h, .int .i64 s, .int .i64 d], .int .i64 v] w fun e w' => ∃ a' n' c', e = .returned (.tuple #[.slice a' n' c', .int .i64 (putErr b h s d v)]) ∧ (putRes l b h s d v).length = n' ∧ n' ≤ n + 5 ∧ Rd w' bE a' (putRes l b h s d v) ∧ Below w.heap.size w w' := by
  by_cases hR : RightC b h s d
  · by_cases hF : FitsC b h s d (plainC s v)
    · have he := Lib.hid (show putErr b h s d v = 0 by unfold putErr; rw [if_pos hR, if_pos hF])
      have hres := Lib.hid (show putRes l b h s d v = l ++ bytesC b h (plainC s v) by unfold putRes; rw [if_pos hF])
      have hs : 0 ≤ s ∧ s ≤ 2 := ⟨hR.2.2.2.2.1, hR.2.2.2.2.2.1⟩
      have hbr : 1 ≤ b ∧ b ≤ 5 := ⟨hR.1, hR.2.1⟩
      have hhr : 2 ≤ h ∧ h ≤ 256 := ⟨hR.2.2.1, hR.2.2.2.1⟩
      have hur : 0 ≤ plainC s v ∧ plainC s v ≤ 4294967296 := ⟨hF.2.1, by have := hF.2.2; have := reachC_range b h hhr; omega⟩
      go_enter Try.func15, Try.ntmps15
      go_wp2_with fail
      refine (bRight_any b h s d _ hb0 hh0 hs0 hd0).mono ?_
      rw [decide_eq_true hR]
      rintro e w1 ⟨rfl, hB⟩
      obtain ⟨hblk, hc0, hc1, hc2, hc3, hB1⟩ := cod_cells hB
      clear hB
      go_wp2_with fail
      refine (bFits_right b h s d v _ hR).mono ?_
      rw [decide_eq_true hF]
      rintro e w2 ⟨rfl, hB2⟩
      have hblk2 := hblk.below hB2
      have hB3 := hB1.trans (hB2.mono hB1.size)
      clear hblk hB2 hB1 hc0 hc1 hc2 hc3
      have HR := Lib.hid hR
      clear hR hF
      go_wp2_with fail
      have HC := Lib.hid hblk2.four
      have hBs : w.heap.size + 1 ≤ w2.heap.size := hblk2.lt
      have HRD := Lib.hid hr
      have HBW : Hid (Below w.heap.size w w2.drew) := Lib.hid hB3.drew
      have HL := Lib.hid hl
      have HS := Lib.hid hs
      have HCELL : Hid (∀ w', Below (w.heap.size + 1) w2.drew w' → w'.cell? ⟨w.heap.size, 0, none⟩ = some (.int .i64 b) ∧ w'.cell? ⟨w.heap.size, 1, none⟩ = some (.int .i64 h) ∧ w'.cell? ⟨w.heap.size, 2, none⟩ = some (.int .i64 s) ∧ w'.cell? ⟨w.heap.size, 3, none⟩ = some (.int .i64 d)) := Lib.hid (fun w' hb => by
        have hk : Blk w' w.heap.size 23 #[.int .i64 b, .int .i64 h, .int .i64 s, .int .i64 d] := (hb.block w.heap.size (by omega)).trans hblk2
        exact hk.four)
      clear hr hl hblk2 HC hs
      refine wp_region_growA TS (IPut (w.heap.size + 1) w2.drew n l (bytesC b h (plainC s v))) (by kernel_rfl) (by kernel_rfl) (by rfl) ⟨Below.refl _ _, by simp, by simp, by simp⟩ ?_
      apply ga_val _ (fun L a' w' _ _ h => h.pure (show (1 : Nat) ≠ 0 by decide) (show (6 : Nat) ≠ 0 by decide) (show (7 : Nat) ≠ 0 by decide) (show (5 : Nat) ≠ 0 by decide) (by decide) (by decide) (by decide) _)
      · intro a' w' L hL haf hi hk
        refine ⟨wanted_none rfl, ?_⟩
        simp [Oper.looksAt, Op.operands, Call.operands, KnownAt, List.lookup, consD] at hk
        simp [execOp, Act.eval, hk, go_sem]
        all_goals rfl
      refine ga_op (fun _ _ => True) monoT_any ?_ ?_
      · intro a' w' L hsz hL haf hi hk
        refine ⟨wanted_none rfl, ?_⟩
        simp [Oper.looksAt, Op.operands, Call.operands, KnownAt, List.lookup, consD] at hk
        have hsz' : a'.tmps.size = 24 := hsz
        unfold Oper.wp
        simp [execOp, Act.eval, hk, go_sem, Oper.upon, Result.andThen]
        have hsb := hi.1.size
        refine (clone_any a n c l w' HL.out (by omega) (HRD.out.below (HBW.out.trans (hi.1.mono (by omega))))).mono ?_
        rintro e w3 ⟨a1, c1, rfl, hown, hb⟩
        exact ⟨⟨_, rfl⟩, hi.clone hL hb (by simp at hsb; omega) (hown.mono (by simp at hsb; omega)) (by omega)⟩
      refine ga_val (.agg #[.int .i64 b, .int .i64 h, .int .i64 s, .int .i64 d]) (fun L a' w' _ _ h => h.pure (show (1 : Nat) ≠ 2 by decide) (show (6 : Nat) ≠ 2 by decide) (show (7 : Nat) ≠ 2 by decide) (show (5 : Nat) ≠ 2 by decide) (by decide) (by decide) (by decide) _) ?_ ?_
      · intro a' w' L hL haf hi hk
        refine ⟨wanted_none rfl, ?_⟩
        simp [Oper.looksAt, Op.operands, Call.operands, KnownAt, List.lookup, consD] at hk
        obtain ⟨hc0, hc1, hc2, hc3⟩ := HCELL.out _ hi.1
        simp [execOp, Act.eval, hk, go_sem, hc0, hc1, hc2, hc3]
        all_goals rfl
      refine ga_val (.agg #[.int .i64 b, .int .i64 h, .int .i64 s, .int .i64 d]) (fun L a' w' _ _ h => h.pure (show (1 : Nat) ≠ 3 by decide) (show (6 : Nat) ≠ 3 by decide) (show (7 : Nat) ≠ 3 by decide) (show (5 : Nat) ≠ 3 by decide) (by decide) (by decide) (by decide) _) ?_ ?_
      · intro a' w' L hL haf hi hk
        refine ⟨wanted_none rfl, ?_⟩
        simp [Oper.looksAt, Op.operands, Call.operands, KnownAt, List.lookup, consD] at hk
        obtain ⟨hc0, hc1, hc2, hc3⟩ := HCELL.out _ hi.1
        simp [execOp, Act.eval, hk, go_sem, hc0, hc1, hc2, hc3]
        all_goals rfl
      apply ga_val _ (fun L a' w' _ _ h => h.pure (show (1 : Nat) ≠ 4 by decide) (show (6 : Nat) ≠ 4 by decide) (show (7 : Nat) ≠ 4 by decide) (show (5 : Nat) ≠ 4 by decide) (by decide) (by decide) (by decide) _)
      · intro a' w' L hL haf hi hk
        refine ⟨wanted_none rfl, ?_⟩
        simp [Oper.looksAt, Op.operands, Call.operands, KnownAt, List.lookup, consD] at hk
        simp [execOp, Act.eval, hk, go_sem]
        all_goals rfl
      refine ga_op (fun x _ => x = .int .i64 (plainC s v)) (monoT_eq _) ?_ ?_
      · intro a' w' L hsz hL haf hi hk
        refine ⟨wanted_none rfl, ?_⟩
        simp [Oper.looksAt, Op.operands, Call.operands, KnownAt, List.lookup, consD] at hk
        unfold Oper.wp
        simp [execOp, Act.eval, hk, go_sem, Oper.upon, Result.andThen]
        have hsb := hi.1.size
        refine (bPlain_any b h s d v w' HS.out).mono ?_
        rintro e w3 ⟨rfl, hb⟩
        exact ⟨_, rfl, rfl, hi.plain (haf ⟨1, .chain⟩ (by simp) (by decide)) hL hb (by simp at hsb; omega) _⟩
      refine ga_op (fun _ _ => True) monoT_any ?_ ?_
      · intro a' w' L hsz hL haf hi hk
        refine ⟨wanted_none rfl, ?_⟩
        have hk2 := hk 19 (by decide)
        have hk5 := hk 22 (by decide)
        simp only [KnownAt, List.lookup, consD] at hk2 hk5
        have hsz' : a'.tmps.size = 24 := hsz
        have h5 : L 5 = true := haf ⟨5, .data⟩ (by simp) (by decide)
        obtain ⟨p, c1, hown, hv⟩ := hi.2.1 (hi.2.2.2.2.2 h5) hL
        have hv' : a'.tmps[18]?.getD undef = .slice p n c1 := by simpa using hv
        have hk2' : a'.tmps[19]?.getD undef = .agg #[.int .i64 b, .int .i64 h, .int .i64 s, .int .i64 d] := by simpa using hk2
        have hk5' : a'.tmps[22]?.getD undef = .int .i64 (plainC s v) := by simpa using hk5
        unfold Oper.wp
        simp [execOp, Act.eval, hv', hk2', hk5', go_sem, Oper.upon, Result.andThen]
        have hsb := hi.1.size
        refine (bput_any p n c1 l b h s d (plainC s v) w' (w.heap.size + 1) (by simp at hsb; omega) hown hn hbr hhr hur).mono ?_
        rintro e w3 ⟨p2, n2, c2, rfl, hn2, hown2, hb2⟩
        exact ⟨⟨_, rfl⟩, hi.put h5 hL hb2 hn2 hown2 (by omega)⟩
      refine ga_op (fun _ _ => True) monoT_any ?_ ?_
      · intro a' w' L hsz hL haf hi hk
        refine ⟨wanted_none rfl, ?_⟩
        have hsz' : a'.tmps.size = 24 := hsz
        have h6 : L 6 = true := haf ⟨6, .data⟩ (by simp) (by decide)
        have hfin := hi.fin h6 (by omega)
        have hg : a'.tmps.getD 23 undef = a'.tmps[23]?.getD undef := by simp
        rw [hg] at hfin
        unfold Oper.wp
        simp [execOp, Act.eval, go_sem, Oper.upon, Result.andThen]
        exact ⟨⟨_, rfl⟩, hfin⟩
      apply ga_val _ (fun L a' w' _ _ h => h.pure (show (1 : Nat) ≠ 8 by decide) (show (6 : Nat) ≠ 8 by decide) (show (7 : Nat) ≠ 8 by decide) (show (5 : Nat) ≠ 8 by decide) (by decide) (by decide) (by decide) _)
      · intro a' w' L hL haf hi hk
        refine ⟨wanted_none rfl, ?_⟩
        simp [Oper.looksAt, Op.operands, Call.operands, KnownAt, List.lookup, consD] at hk
        simp [execOp, Act.eval, hk, go_sem]
        all_goals rfl
      intro vs w' L hall hi hval
      simp only [AllS, consD] at hval
      obtain ⟨p, n', c', hn', ho, -, h6⟩ := hi.2.2.1 (hall 6 (by decide))
      have h6 := h6 (hall 7 (by decide))
      have hbz := hi.1
      simp only [consD, putAllS, Act.put] at h6 ⊢
      have e6 : vs 6 = .slice p n' c' := by simpa using h6
      obtain ⟨h7, -⟩ := hval
      rw [e6, h7]
      simp only [List.setIfInBounds_toArray, List.set_cons_succ, List.set_cons_zero]
      go_wp2
      go_ret2
      exact ⟨p, n', ⟨c', by rw [he.out]; rfl⟩, by rw [hres.out]; exact ho.len, hn', by rw [hres.out]; exact ho.rd, HBW.out.trans (hbz.mono (by omega))⟩
    · have he := Lib.hid (show putErr b h s d v = 5 by unfold putErr; rw [if_pos hR, if_neg hF])
      have hres := Lib.hid (show putRes l b h s d v = [] by unfold putRes; rw [if_neg hF])
      go_enter Try.func15, Try.ntmps15
      go_wp2_with fail
      refine (bRight_any b h s d _ hb0 hh0 hs0 hd0).mono ?_
      rw [decide_eq_true hR]
      rintro e w1 ⟨rfl, hB⟩
      obtain ⟨hblk, hc0, hc1, hc2, hc3, hB1⟩ := cod_cells hB
      clear hB
      go_wp2_with fail
      refine (bFits_right b h s d v _ hR).mono ?_
      rw [decide_eq_false hF]
      rintro e w2 ⟨rfl, hB2⟩
      have hB3 := hB1.trans (hB2.mono hB1.size)
      clear hR hF
      go_wp2
      go_ret2
      exact ⟨none, 0, 0, by rw [he.out]; rfl, by rw [hres.out]; rfl, by omega, by rw [hres.out]; exact Rd.nil, hB3⟩
  · have he := Lib.hid (show putErr b h s d v = 1 by unfold putErr; rw [if_neg hR])
    have hres := Lib.hid (show putRes l b h s d v = [] by unfold putRes; rw [if_neg (fun h => hR h.1)])
    go_enter Try.func15, Try.ntmps15
    go_wp2_with fail
    refine (bRight_any b h s d _ hb0 hh0 hs0 hd0).mono ?_
    rw [decide_eq_false hR]
    rintro e w1 ⟨rfl, hB⟩
    clear hR
    go_wp2
    go_ret2
    exact ⟨none, 0, 0, by rw [he.out]; rfl, by rw [hres.out]; rfl, by omega, by rw [hres.out]; exact Rd.nil, (below_alloc _ _).trans (hB.mono (by simp))⟩
end Go.Proofs.Ytnmdgmjheopolaa
