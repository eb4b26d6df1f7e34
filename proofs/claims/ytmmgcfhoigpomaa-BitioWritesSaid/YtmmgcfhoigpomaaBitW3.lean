/- bitio.Writer: Align. -/
import Derived.Test.YtmmgcfhoigpomaaBitW2
namespace Go.Proofs.Ytmmgcfhoigpomaa
open Go.RowKit
set_option linter.unusedVariables false
set_option linter.unusedSimpArgs false

/-- Filled up to whole bytes. -/
def alignBits (all : List Bool) : List Bool := all ++ List.replicate ((8 - all.length % 8) % 8) false
theorem alignBits_len (all : List Bool) : (alignBits all).length = 8 * ((all.length + 7) / 8) := by
  unfold alignBits; rw [List.length_append, List.length_replicate]; omega
theorem numF_noughts (k : Nat) : numF (List.replicate k false) = 0 := by
  induction k with
  | zero => rfl
  | succ k ih => rw [List.replicate_succ, numF, ih]; rfl
theorem alignBits_id (all : List Bool) (h : all.length % 8 = 0) : alignBits all = all := by unfold alignBits; rw [h]; simp
theorem align_held (all : List Bool) : numF ((alignBits all).drop (8 * (all.length / 8))) = numF (all.drop (8 * (all.length / 8))) := by
  unfold alignBits
  rw [List.drop_append_of_le_length (by omega), numF_append, numF_noughts, Nat.mul_zero, Nat.add_zero]

set_option maxRecDepth 100000 in
set_option maxHeartbeats 4000000 in
theorem wAlign_any (B g : Nat) (all : List Bool) (w : World) (h : WBits w B g all) (hB : B ≤ w.heap.size) (hlen : all.length ≤ 1000000) :
  Calls Try.prog 28 #[.pointer (some ⟨g, 0, none⟩)] w fun e w' => e = .returned (.tuple #[]) ∧ WBits w' B g (alignBits all) ∧ Below B w w' ∧ BoolKeep w w' := by
  by_cases hz : all.length % 8 = 0
  · rw [alignBits_id all hz]
    have H := Lib.hid h
    obtain ⟨a, nb, c, hb, -⟩ := h.ex
    have c2 := hb.cell (i := 2) rfl
    rw [hz] at c2
    clear hb h
    go_enter Try.func28, Try.ntmps28
    go_wp2
    go_end0
    exact ⟨rfl, H.out, Below.refl _ _, BoolKeep.refl _⟩
  · have hAl := alignBits_len all
    have hq : (all.length + 7) / 8 = all.length / 8 + 1 := by omega
    rw [hq] at hAl
    have hbyte := byte_numF (alignBits all) (all.length / 8)
    rw [align_held] at hbyte
    have hsucc := bytesK_succ (alignBits all) (all.length / 8)
    have hfront : bytesK (alignBits all) (all.length / 8) = bytesK all (all.length / 8) := bytesK_front _ _ _ (by omega)
    rw [hbyte, hfront] at hsucc
    have hfinW : ∀ w', WOk w' B g (bytesK (alignBits all) (all.length / 8 + 1)) 0 0 → WBits w' B g (alignBits all) := by
      intro w' hw
      unfold WBits
      rw [hAl, show 8 * (all.length / 8 + 1) / 8 = all.length / 8 + 1 from by omega, show 8 * (all.length / 8 + 1) % 8 = 0 from by omega, List.drop_of_length_le (by rw [hAl]; exact Nat.le_refl _)]
      exact hw
    have HFW := Lib.hid hfinW
    have hwk := h
    unfold WBits at hwk
    have hk8 : all.length % 8 < 8 := Nat.mod_lt _ (by omega)
    obtain ⟨r, hr⟩ : ∃ r, all.length % 8 = r := ⟨_, rfl⟩
    obtain ⟨held, hh⟩ : ∃ x, numF (all.drop (8 * (all.length / 8))) = x := ⟨_, rfl⟩
    obtain ⟨n, hn⟩ : ∃ n, all.length / 8 = n := ⟨_, rfl⟩
    rw [hr] at hwk hz hk8
    rw [hh] at hwk hsucc
    rw [hn] at hwk hsucc HFW
    obtain ⟨a, n', c, hb, hown, hne, hBg⟩ := hwk.ex
    have hnj : n' = n := by rw [← hown.len, bytesK_length]
    subst hnj
    obtain ⟨y, hy⟩ : ∃ y, UInt8.ofNat (held % 256) = y := ⟨_, rfl⟩
    have hyv : IntKind.u8.wrap (held : Int) = (y.toNat : Int) := by
      rw [← hy, byte_toNat, IntKind.wrap_u8]; rfl
    rw [hy] at hsucc
    have hnn : n' ≤ 200000 := by omega
    have c0 := hb.cell (i := 0) rfl
    have c1 := hb.cell (i := 1) rfl
    have c2 := hb.cell (i := 2) rfl
    obtain ⟨wz, hwz⟩ : ∃ x, w.drew = x := ⟨_, rfl⟩
    have HC0 : Hid (wz.cell? ⟨g, 0, none⟩ = some (.slice a n' c)) := Lib.hid (by rw [← hwz]; exact c0)
    have HC1 : Hid (wz.cell? ⟨g, 1, none⟩ = some (.int .u64 (held : Int))) := Lib.hid (by rw [← hwz]; exact c1)
    have HC0A : Hid ((wz.alloc (.cells #[bE y] 5)).cell? ⟨g, 0, none⟩ = some (.slice a n' c)) := Lib.hid (by
      have hbz : Blk wz g 90 #[.slice a n' c, .int .u64 (held : Int), .int .i64 (r : Int)] := by rw [← hwz]; exact hb
      exact (hbz.alloc _).cell rfl)
    have HBLK : Hid (Blk wz g 90 #[.slice a n' c, .int .u64 (held : Int), .int .i64 (r : Int)]) := Lib.hid (by rw [← hwz]; exact hb)
    have HOWN : Hid (Own wz B 5 bE a n' c (bytesK all n')) := Lib.hid (by rw [← hwz]; exact hown.drew)
    have hBz : B ≤ wz.heap.size := by rw [← hwz]; exact hB
    have hBwz : Below B w wz := by rw [← hwz]; exact (Below.refl _ _).drew
    have HY := Lib.hid hyv
    have HOB : Hid (some g ≠ (Value.slice a n' c).ownBlock) := Lib.hid (by
      rcases hown.blk with ⟨h, _⟩ | ⟨b, h, _⟩
      · rw [h]; simp [Value.ownBlock]
      · rw [h]; simp [Value.ownBlock]; exact fun e => hne b h e.symm)
    have HNE := Lib.hid hne
    have hr0 : (r : Int) > 0 := by omega
    have HN := Lib.hid hn
    clear hbyte hy hyv hwk c1 c0 hb hown hne hfront hAl hq hfinW hh h hn hr
    go_enter Try.func28, Try.ntmps28
    go_wp2
    refine wp_region_growA TS (IApp wz (fun p' c' w' => Own w' B 5 bE p' (n' + 1) c' (bytesK all n' ++ [y]) ∧ wz.grownBy w' (Value.slice a n' c).ownBlock ∧ (∀ b, p' = some ⟨b, 0, none⟩ → b ≠ g)) (n' + 1) (bE y) 5 g 22) (by kernel_rfl) (by kernel_rfl) (by rfl) (by rw [hwz]; exact IApp.start) ?_
    apply ga_val _ (fun L a' w' _ _ h => h.pure (show (9 : Nat) ≠ 0 by decide) (show (10 : Nat) ≠ 0 by decide) (show (11 : Nat) ≠ 0 by decide) (show (14 : Nat) ≠ 0 by decide) (by decide) _)
    · intro a' w' L hL haf hi hk
      refine ⟨wanted_none rfl, ?_⟩
      simp [Oper.looksAt, Op.operands, Call.operands, KnownAt, List.lookup, consD] at hk
      simp [execOp, Act.eval, hk, go_sem]
      all_goals rfl
    apply ga_val _ (fun L a' w' _ _ h => h.pure (show (9 : Nat) ≠ 1 by decide) (show (10 : Nat) ≠ 1 by decide) (show (11 : Nat) ≠ 1 by decide) (show (14 : Nat) ≠ 1 by decide) (by decide) _)
    · intro a' w' L hL haf hi hk
      refine ⟨wanted_none rfl, ?_⟩
      simp [Oper.looksAt, Op.operands, Call.operands, KnownAt, List.lookup, consD] at hk
      simp [execOp, Act.eval, hk, go_sem]
      all_goals rfl
    apply ga_val _ (fun L a' w' _ _ h => h.pure (show (9 : Nat) ≠ 2 by decide) (show (10 : Nat) ≠ 2 by decide) (show (11 : Nat) ≠ 2 by decide) (show (14 : Nat) ≠ 2 by decide) (by decide) _)
    · intro a' w' L hL haf hi hk
      refine ⟨wanted_none rfl, ?_⟩
      simp [Oper.looksAt, Op.operands, Call.operands, KnownAt, List.lookup, consD] at hk
      simp [execOp, Act.eval, hk, go_sem]
      all_goals rfl
    apply ga_val _ (fun L a' w' _ _ h => h.pure (show (9 : Nat) ≠ 3 by decide) (show (10 : Nat) ≠ 3 by decide) (show (11 : Nat) ≠ 3 by decide) (show (14 : Nat) ≠ 3 by decide) (by decide) _)
    · intro a' w' L hL haf hi hk
      refine ⟨wanted_none rfl, ?_⟩
      simp [Oper.looksAt, Op.operands, Call.operands, KnownAt, List.lookup, consD] at hk
      simp [execOp, Act.eval, hk, go_sem]
      all_goals rfl
    refine ga_val (.slice a n' c) (fun L a' w' _ _ h => h.pure (show (9 : Nat) ≠ 4 by decide) (show (10 : Nat) ≠ 4 by decide) (show (11 : Nat) ≠ 4 by decide) (show (14 : Nat) ≠ 4 by decide) (by decide) _) ?_ ?_
    · intro a' w' L hL haf hi hk
      refine ⟨wanted_none rfl, ?_⟩
      simp [Oper.looksAt, Op.operands, Call.operands, KnownAt, List.lookup, consD] at hk
      have hcell : w'.cell? ⟨g, 0, none⟩ = some (.slice a n' c) := by
        rcases hi.early hL with h | h
        · rw [h]; exact HC0.out
        · rw [h]; exact HC0A.out
      simp [execOp, Act.eval, hk, go_sem, hcell]
      all_goals rfl
    apply ga_val _ (fun L a' w' _ _ h => h.pure (show (9 : Nat) ≠ 5 by decide) (show (10 : Nat) ≠ 5 by decide) (show (11 : Nat) ≠ 5 by decide) (show (14 : Nat) ≠ 5 by decide) (by decide) _)
    · intro a' w' L hL haf hi hk
      refine ⟨wanted_none rfl, ?_⟩
      simp [Oper.looksAt, Op.operands, Call.operands, KnownAt, List.lookup, consD] at hk
      simp [execOp, Act.eval, hk, go_sem]
      all_goals rfl
    apply ga_val _ (fun L a' w' _ _ h => h.pure (show (9 : Nat) ≠ 6 by decide) (show (10 : Nat) ≠ 6 by decide) (show (11 : Nat) ≠ 6 by decide) (show (14 : Nat) ≠ 6 by decide) (by decide) _)
    · intro a' w' L hL haf hi hk
      refine ⟨wanted_none rfl, ?_⟩
      simp [Oper.looksAt, Op.operands, Call.operands, KnownAt, List.lookup, consD] at hk
      simp [execOp, Act.eval, hk, go_sem]
      all_goals rfl
    apply ga_val _ (fun L a' w' _ _ h => h.pure (show (9 : Nat) ≠ 7 by decide) (show (10 : Nat) ≠ 7 by decide) (show (11 : Nat) ≠ 7 by decide) (show (14 : Nat) ≠ 7 by decide) (by decide) _)
    · intro a' w' L hL haf hi hk
      refine ⟨wanted_none rfl, ?_⟩
      simp [Oper.looksAt, Op.operands, Call.operands, KnownAt, List.lookup, consD] at hk
      simp [execOp, Act.eval, hk, go_sem]
      all_goals rfl
    refine ga_val (.int .u64 (held : Int)) (fun L a' w' _ _ h => h.pure (show (9 : Nat) ≠ 8 by decide) (show (10 : Nat) ≠ 8 by decide) (show (11 : Nat) ≠ 8 by decide) (show (14 : Nat) ≠ 8 by decide) (by decide) _) ?_ ?_
    · intro a' w' L hL haf hi hk
      refine ⟨wanted_none rfl, ?_⟩
      simp [Oper.looksAt, Op.operands, Call.operands, KnownAt, List.lookup, consD] at hk
      have hcell : w'.cell? ⟨g, 1, none⟩ = some (.int .u64 (held : Int)) := by rw [hi.first hL]; exact HC1.out
      simp [execOp, Act.eval, hk, go_sem, hcell]
      all_goals rfl
    refine ga_val (bE y) (fun L a' w' _ haf h => h.pure9 (haf ⟨8, .data⟩ (by simp) (by decide)) (by decide) _) ?_ ?_
    · intro a' w' L hL haf hi hk
      refine ⟨wanted_none rfl, ?_⟩
      simp [Oper.looksAt, Op.operands, Call.operands, KnownAt, List.lookup, consD] at hk
      simp [execOp, Act.eval, hk, go_sem]
      exact HY.out
    refine ga_op (fun v _ => v = .slice (some ⟨wz.heap.size, 0, none⟩) 1 1) (monoT_eq _) ?_ ?_
    · intro a' w' L hsz hL haf hi hk
      refine ⟨wanted_none rfl, ?_⟩
      simp [Oper.looksAt, Op.operands, Call.operands, KnownAt, List.lookup, consD] at hk
      have h9 : L 9 = true := haf ⟨9, .data⟩ (by simp) (by decide)
      have hw0 := hi.lay0 hL
      subst hw0
      unfold Oper.wp
      simp [execOp, Act.eval, hk, go_sem, Oper.upon, Result.andThen]
      exact ⟨_, rfl, rfl, hi.lay (dst := some 21) hL h9 (by decide) _⟩
    refine ga_op (fun _ _ => True) monoT_any ?_ ?_
    · intro a' w' L hsz hL haf hi hk
      refine ⟨wanted_none rfl, ?_⟩
      have hk4 := hk 15 (by decide)
      have hk10 := hk 21 (by decide)
      simp only [KnownAt, List.lookup, consD] at hk4 hk10
      have h10 : L 10 = true := haf ⟨10, .data⟩ (by simp) (by decide)
      have h4 : L 4 = true := haf ⟨4, .data⟩ (by simp) (by decide)
      have hw0 := hi.app0 hL h10
      refine wp_of_list (ops := #[]) rfl ?_
      refine wpList_push2 slByte rfl rfl _ _ rfl hw0 hk4 HOWN.out y ⟨wz.heap.size, 0, none⟩ hk10 (by rw [hw0]; exact cell_push rfl _ _) rfl (by omega) (by unfold maxLen; omega) hBz ?_
      intro p' c' w1 hown1 hg1 hor1
      refine ⟨rfl, _, rfl, trivial, hi.app hL h10 h4 (by rw [hsz]; simp) ⟨hown1, hg1, ?_⟩⟩
      intro b hb
      rcases hor1 with h | ⟨g', h, hge⟩
      · exact HNE.out b (h ▸ hb)
      · rw [h] at hb; simp at hb; have := HBLK.out.lt; omega
    apply ga_val _ (fun L a' w' _ _ h => h.pure (show (9 : Nat) ≠ 12 by decide) (show (10 : Nat) ≠ 12 by decide) (show (11 : Nat) ≠ 12 by decide) (show (14 : Nat) ≠ 12 by decide) (by decide) _)
    · intro a' w' L hL haf hi hk
      refine ⟨wanted_none rfl, ?_⟩
      simp [Oper.looksAt, Op.operands, Call.operands, KnownAt, List.lookup, consD] at hk
      simp [execOp, Act.eval, hk, go_sem]
      all_goals rfl
    apply ga_val _ (fun L a' w' _ _ h => h.pure (show (9 : Nat) ≠ 13 by decide) (show (10 : Nat) ≠ 13 by decide) (show (11 : Nat) ≠ 13 by decide) (show (14 : Nat) ≠ 13 by decide) (by decide) _)
    · intro a' w' L hL haf hi hk
      refine ⟨wanted_none rfl, ?_⟩
      simp [Oper.looksAt, Op.operands, Call.operands, KnownAt, List.lookup, consD] at hk
      simp [execOp, Act.eval, hk, go_sem]
      all_goals rfl
    refine ga_op (fun _ _ => True) monoT_any ?_ ?_
    · intro a' w' L hsz hL haf hi hk
      refine ⟨wanted_none rfl, ?_⟩
      simp [Oper.looksAt, Op.operands, Call.operands, KnownAt, List.lookup, consD] at hk
      have h11 : L 11 = true := haf ⟨11, .data⟩ (by simp) (by decide)
      obtain ⟨p', c', ⟨ho1, hg1, hp1⟩, h67⟩ := hi.put0 hL h11
      have hbk := HBLK.out.grown hg1 HOB.out
      have hcell := hbk.cell (i := 0) rfl
      have hfz := hbk.frozen 0
      have h67' : a'.tmps[22]?.getD undef = .slice p' (n' + 1) c' := by simpa using h67
      unfold Oper.wp
      simp [execOp, Act.eval, hk, h67', go_sem, hcell, hfz, Oper.upon, Result.andThen]
      exact hi.store h11 ⟨ho1, hg1, hp1⟩ undef
    intro vs w' L hall hi hval
    obtain ⟨p', c', w1, ⟨ho1, hg1, hp1⟩, rfl⟩ := hi.fin (hall 14 (by decide))
    have hbk := (HBLK.out.grown hg1 HOB.out).setCell 0 (.slice p' (n' + 1) c')
    have hKw1 : BoolKeep w w1 := (show BoolKeep w wz by rw [← hwz]; exact (BoolKeep.refl w).drew).trans (BoolKeep.own HOWN.out hg1)
    have hKw := hKw1.setCell (HBLK.out.grown hg1 HOB.out) 0 (.slice p' (n' + 1) c')
    have hown2 := ho1.setCell_ne (p := ⟨g, 0, none⟩) hp1 (.slice p' (n' + 1) c')
    have hBw := (hBwz.grown hg1 hBz (fun q hq => (HOWN.out.1.lt q hq).1)).setCell (p := ⟨g, 0, none⟩) hBg (.slice p' (n' + 1) c')
    rw [← hsucc] at hown2
    have hwk3 : WOk (w1.setCell ⟨g, 0, none⟩ (.slice p' (n' + 1) c')) B g (bytesK (alignBits all) (n' + 1)) held r := ⟨p', n' + 1, c', hbk, hown2, hp1, hBg⟩
    generalize w1.setCell ⟨g, 0, none⟩ (.slice p' (n' + 1) c') = w5 at hbk hBw hKw hwk3 ⊢
    have d1 := hbk.cell (i := 1) rfl
    have d2 := hbk.cell (i := 2) rfl
    have e1 := hbk.frozen 1
    have e2 := hbk.frozen 2
    have hwk4 := (hwk3.setHeld 0).setK 0
    have hB4 := hwk3.set hBw 1 (.int .u64 ((0 : Nat) : Int))
    have hB5 := (hwk3.setHeld 0).set hB4 2 (.int .i64 ((0 : Nat) : Int))
    have hK4 := hwk3.setKeep hKw 1 (.int .u64 ((0 : Nat) : Int))
    have hK5 := (hwk3.setHeld 0).setKeep hK4 2 (.int .i64 ((0 : Nat) : Int))
    have HK5 := Lib.hid hK5
    have HW4 := Lib.hid (HFW.out _ hwk4)
    have HB5 := Lib.hid hB5
    clear hval hi hbk hown2 hwk3 hwk4 hB4 hB5 hBw hB hK4 hK5 hKw hKw1
    simp only [consD, putAllS, Act.put, List.setIfInBounds_toArray, List.set_cons_succ, List.set_cons_zero]
    go_wp2
    go_end0
    exact ⟨rfl, HW4.out, HB5.out, HK5.out⟩
end Go.Proofs.Ytmmgcfhoigpomaa
