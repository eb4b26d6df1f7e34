/- chains.longest. -/
import Derived.Test.YtnfdbljeinlblaaMatC
import Derived.Test.YtnfdbljeinlblaaGrowL
import Derived.Test.YtnfdbljeinlblaaGrowM
namespace Go.Proofs.Ytnfdbljeinlblaa
open Go.RowKit
set_option linter.unusedVariables false
set_option linter.unusedSimpArgs false

/-- The longest copy for a place, of so many tried. -/
def findGo (l : List UInt8) (p : Nat) : Nat → Nat → Nat × Nat → Nat × Nat
  | 0, _, best => best
  | t+1, from_, best => if 0 < from_ ∧ p + 1 ≤ 32768 + from_ then findGo l p t (prevV l (from_ - 1)) (if best.1 < sameN l (from_ - 1) p then (sameN l (from_ - 1) p, p + 1 - from_) else best) else best
def longN (l : List UInt8) (p t : Nat) : Nat × Nat := if p + 3 ≤ l.length then findGo l p t (lastOf l p (l.getD p 0) (l.getD (p + 1) 0) (l.getD (p + 2) 0)) (0, 0) else (0, 0)
theorem sameN_le (l : List UInt8) (p q : Nat) : sameN l p q ≤ 258 := sameF_le l 258 p q
def tokV (q : Nat × Nat) : Value := .agg #[.int .u8 0, .int .i64 (q.1 : Int), .int .i64 (q.2 : Int)]
theorem TokKeep.late {w w1 w2 : World} {o : Nat} (h : TokKeep w w1) (hg : w1.grownBy w2 (some o)) (ho : w.heap.size ≤ o) : TokKeep w w2 := by
  intro k cs hh
  have hk : k < w.heap.size := (Array.getElem?_eq_some_iff.1 hh).1
  have h1 := h k cs hh
  exact (hg.block k (Array.getElem?_eq_some_iff.1 h1).1 (by simp; omega)).trans h1
theorem TokKeep.then {w w1 w2 : World} (h : TokKeep w w1) (hb : Below w1.heap.size w1 w2) : TokKeep w w2 := h.trans (TokKeep.below hb)
def LongPost (w0 : World) (g : Nat) (l : List UInt8) (a : Option Addr) (n c p t : Nat) (w : World) (e : Ending) (w' : World) : Prop :=
  e = .returned (tokV (longN l p t)) ∧ (∃ u, u ≤ p ∧ Chn w' w0.heap.size g l a n c u) ∧ Below w0.heap.size w0 w' ∧ TokKeep w w'
theorem cell_later2 {w w' : World} {a : Addr} {v : Value} (h : w.cell? a = some v) (hb : Below w.drew.heap.size w.drew w') : w'.cell? a = some v :=
  (hb.cell (World.block_lt_of_cell? _ _ h)).trans h
theorem Chn.tok {w w' : World} {B g o : Nat} {l : List UInt8} {a : Option Addr} {n c u : Nat} {cs : Array Value} (h : Chn w B g l a n c u) (hk : Blk w o TT cs) (hg : w.grownBy w' (some o)) : Chn w' B g l a n c u := by
  obtain ⟨m, pq, h1, h2, h3, h4⟩ := h
  refine ⟨m, pq, h1.grown hg ?_, h2.grown hg ?_, h3.kept hg ?_, h4⟩
  · intro e; simp only [Option.some.injEq] at e; subst e; exact nok_blk h1 _ hk
  · intro q hq e; simp only [Option.some.injEq] at e; subst e; subst hq; exact nok_int h2 _ hk
  · intro e; simp only [Option.some.injEq] at e; subst e; exact nok_map h3 _ hk
def tokCs (q : Nat × Nat) : Array Value := #[.int .u8 0, .int .i64 (q.1 : Int), .int .i64 (q.2 : Int)]
theorem tokCs_one (q : Nat × Nat) : ∀ u ∈ (tokCs q).toList, u.oneCell' = true := by intro u hu; simp [tokCs] at hu; rcases hu with rfl | rfl | rfl <;> rfl
theorem tok3_one (x y : Int) : ∀ u ∈ (#[Value.int .u8 0, .int .i64 x, .int .i64 y] : Array Value).toList, u.oneCell' = true := by intro u hu; simp at hu; rcases hu with rfl | rfl | rfl <;> rfl
theorem size_tok : (Try.prog.info? TT).map (·.size) = some 3 := by kernel_rfl
theorem findGo_le (l : List UInt8) (p : Nat) : ∀ (t f : Nat) (b : Nat × Nat), b.1 ≤ 258 → (findGo l p t f b).1 ≤ 258 := by
  intro t
  induction t with
  | zero => intro f b h; exact h
  | succ t ih =>
    intro f b h
    rw [findGo]
    split
    · apply ih; split
      · exact sameN_le _ _ _
      · exact h
    · exact h
set_option maxRecDepth 100000 in
set_option maxHeartbeats 16000000 in
theorem mLongest_any (w0 : World) (a : Option Addr) (n c : Nat) (l : List UInt8) (g u p t : Nat) (w : World) (hl : l.length = n) (hn : n ≤ 1000000000) (hnc : n ≤ c) (hr : Rd w0 bE a l) (hC : Chn w w0.heap.size g l a n c u) (hB : Below w0.heap.size w0 w) (hp : p ≤ n) (hu : u ≤ p) (ht : t ≤ 1000000000) :
  Calls Try.prog 70 #[.pointer (some ⟨g, 0, none⟩), .int .i64 (p : Int), .int .i64 (t : Int)] w (LongPost w0 g l a n c p t w) := by
  have HL := Lib.hid hl
  have HR := Lib.hid hr
  clear hl hr
  have hal := below_alloc w (.cells #[.int .u8 0, .int .i64 0, .int .i64 0] TT)
  have hC1 := hC.below hal
  have hB1 := below_trans0 hB hB.size hal
  have hT1 := TokKeep.below hal
  have hK1 : Blk _ _ TT (tokCs (0, 0)) := Blk.new w TT #[.int .u8 0, .int .i64 0, .int .i64 0]
  have hBs := hB.size
  obtain ⟨hgl, hgB⟩ := hC.lt
  obtain ⟨o, ho⟩ : ∃ o, o = w.heap.size := ⟨_, rfl⟩
  have how : w.heap.size ≤ o := by omega
  rw [← ho] at hK1
  have HC1 := Lib.hid hC1
  have HK1 := Lib.hid hK1
  have HB1 := Lib.hid (And.intro hB1 hT1)
  obtain ⟨m, pq, hblk, -, -, -⟩ := hC
  have c0 := hblk.cell (i := 0) rfl
  clear hal hC1 hB1 hT1 hK1 hblk hB
  go_enter Try.func70, Try.ntmps70
  by_cases h3 : p + 3 ≤ n
  · go_wp2_with fail
    rw [← ho]
    clear c0 ho
    generalize w.alloc (.cells #[.int .u8 0, .int .i64 0, .int .i64 0] TT) = w1 at HC1 HK1 HB1 ⊢
    refine (mReach_any w0 a n c l g u p w1 HL.out hn hnc HR.out HC1.out HB1.out.1 h3 hu).mono ?_
    rintro e w2 ⟨rfl, hC2, hB2, hT2⟩
    have hK2 : Blk w2 o TT (tokCs (0, 0)) := hT2 o _ HK1.out
    have hT := HB1.out.2.trans hT2
    clear HC1 HK1 HB1 hT2
    have hC3 := hC2
    obtain ⟨m, pq, hblk, hprev, hmap, hm, hg, hmg, hq⟩ := hC2
    have c0 := hblk.cell (i := 0) rfl
    have c1 := hblk.cell (i := 1) rfl
    have hrd := HR.out.below hB2
    obtain ⟨b, off, rfl, -, -⟩ := hrd.at (k := p) (by rw [HL.out]; omega)
    have hrun : findGo l p t (lastOf l p (l.getD p 0) (l.getD (p + 1) 0) (l.getD (p + 2) 0)) (0, 0) = longN l p t := by unfold longN; rw [if_pos (by rw [HL.out]; exact h3)]
    have h012 := hrd.get3 p (by rw [HL.out]; exact h3)
    have hfl := lastOf_le l (l.getD p 0) (l.getD (p + 1) 0) (l.getD (p + 2) 0) p
    have hlk := fun (w' : World) (hb' : Below w2.drew.heap.size w2.drew w') => ((hmap.drew).below hb').look (l.getD p 0) (l.getD (p + 1) 0) (l.getD (p + 2) 0)
    generalize l.getD p 0 = x at *
    generalize l.getD (p + 1) 0 = y at *
    generalize l.getD (p + 2) 0 = z at *
    obtain ⟨h0, h1, h2⟩ := h012
    unfold bE at h0 h1 h2
    unfold kV bE at hlk
    generalize lastOf l p x y z = f0 at hrun hfl hlk
    have HSL := Lib.hid (run_slice3 b off n c p (by omega))
    have HLK := Lib.hid hlk
    have HC0 := Lib.hid (And.intro c0 (And.intro c1 (And.intro h0 (And.intro h1 h2))))
    have HRUN := Lib.hid hrun
    have HALL := Lib.hid (And.intro hC3 (And.intro hB2 (And.intro hT hK2)))
    clear hrun hprev hmap hblk hC3 hB2 hT hK2 hrd hq hm hg hmg hlk c0 c1 h0 h1 h2
    go_wp2_with fail
    refine wp_region_grow (by kernel_rfl) (by kernel_rfl) (by rfl) ?_
    apply gw_val
    · intro a' w' hk
      refine ⟨wanted_none rfl, ?_⟩
      simp [Oper.looksAt, Op.operands, Call.operands, KnownAt, List.lookup, consD] at hk
      simp [execOp, Act.eval, hk, go_sem]
      all_goals rfl
    apply gw_val
    · intro a' w' hk
      refine ⟨wanted_none rfl, ?_⟩
      simp [Oper.looksAt, Op.operands, Call.operands, KnownAt, List.lookup, consD] at hk
      simp [execOp, Act.eval, hk, go_sem]
      all_goals rfl
    apply gw_val
    · intro a' w' hk
      refine ⟨wanted_none rfl, ?_⟩
      simp [Oper.looksAt, Op.operands, Call.operands, KnownAt, List.lookup, consD] at hk
      simp [execOp, Act.eval, hk, go_sem]
      all_goals rfl
    refine gw_valB (fun vv _ => vv = .map (some m)) (mono_eq _) ?_ ?_
    · intro a' w' hb' hk
      refine ⟨wanted_none rfl, _, ?_, rfl⟩
      have hq := cell_later2 HC0.out.2.1 hb'
      simp [Oper.looksAt, Op.operands, Call.operands, KnownAt, List.lookup, consD] at hk
      simp [execOp, Act.eval, hk, go_sem, hq]
      all_goals rfl
    apply gw_val
    · intro a' w' hk
      refine ⟨wanted_none rfl, ?_⟩
      simp [Oper.looksAt, Op.operands, Call.operands, KnownAt, List.lookup, consD] at hk
      simp [execOp, Act.eval, hk, go_sem]
      all_goals rfl
    apply gw_val
    · intro a' w' hk
      refine ⟨wanted_none rfl, ?_⟩
      simp [Oper.looksAt, Op.operands, Call.operands, KnownAt, List.lookup, consD] at hk
      simp [execOp, Act.eval, hk, go_sem]
      all_goals rfl
    apply gw_val
    · intro a' w' hk
      refine ⟨wanted_none rfl, ?_⟩
      simp [Oper.looksAt, Op.operands, Call.operands, KnownAt, List.lookup, consD] at hk
      simp [execOp, Act.eval, hk, go_sem]
      all_goals rfl
    refine gw_valB (fun vv _ => vv = .slice (some ⟨b, off, none⟩) n c) (mono_eq _) ?_ ?_
    · intro a' w' hb' hk
      refine ⟨wanted_none rfl, _, ?_, rfl⟩
      have hq := cell_later2 HC0.out.1 hb'
      simp [Oper.looksAt, Op.operands, Call.operands, KnownAt, List.lookup, consD] at hk
      simp [execOp, Act.eval, hk, go_sem, hq]
      all_goals rfl
    apply gw_val
    · intro a' w' hk
      refine ⟨wanted_none rfl, ?_⟩
      simp [Oper.looksAt, Op.operands, Call.operands, KnownAt, List.lookup, consD] at hk
      simp [execOp, Act.eval, hk, go_sem]
      all_goals rfl
    apply gw_val
    · intro a' w' hk
      refine ⟨wanted_none rfl, ?_⟩
      simp [Oper.looksAt, Op.operands, Call.operands, KnownAt, List.lookup, consD] at hk
      simp [execOp, Act.eval, hk, go_sem]
      all_goals rfl
    refine gw_valB (fun vv _ => vv = .int .i64 ((p : Int) + 3)) (mono_eq _) ?_ ?_
    · intro a' w' hb' hk
      refine ⟨wanted_none rfl, _, ?_, rfl⟩
      have hw : IntKind.i64.wrap ((p : Int) + 3) = (p : Int) + 3 := IntWalk.i64_in _ (by omega)
      simp [Oper.looksAt, Op.operands, Call.operands, KnownAt, List.lookup, consD] at hk
      simp [execOp, Act.eval, hk, go_sem, hw]
      all_goals rfl
    refine gw_valB (fun vv _ => vv = .slice (some ⟨b, off + p, none⟩) 3 (c - p)) (mono_eq _) ?_ ?_
    · intro a' w' hb' hk
      refine ⟨wanted_none rfl, _, ?_, rfl⟩
      have hq := HSL.out w'
      simp [Oper.looksAt, Op.operands, Call.operands, KnownAt, List.lookup, consD] at hk
      simp [execOp, Act.eval, hk, go_sem, hq]
      all_goals rfl
    refine gw_valB (fun vv _ => vv = .pointer (some ⟨b, off + p, none⟩)) (mono_eq _) ?_ ?_
    · intro a' w' hb' hk
      refine ⟨wanted_none rfl, _, ?_, rfl⟩
      have hq := run_arr (some ⟨b, off + p, none⟩) 3 (c - p) (by omega) w'
      simp [Oper.looksAt, Op.operands, Call.operands, KnownAt, List.lookup, consD] at hk
      simp [execOp, Act.eval, hk, go_sem, hq]
      all_goals rfl
    refine gw_valB (fun vv _ => vv = .agg #[.int .u8 (x.toNat : Int), .int .u8 (y.toNat : Int), .int .u8 (z.toNat : Int)]) (mono_eq _) ?_ ?_
    · intro a' w' hb' hk
      refine ⟨wanted_none rfl, _, ?_, rfl⟩
      have h0 := cell_later2 HC0.out.2.2.1 hb'
      have h1 := cell_later2 HC0.out.2.2.2.1 hb'
      have h2 := cell_later2 HC0.out.2.2.2.2 hb'
      simp [Oper.looksAt, Op.operands, Call.operands, KnownAt, List.lookup, consD] at hk
      simp [execOp, Act.eval, hk, go_sem, h0, h1, h2]
      all_goals rfl
    refine gw_valB (fun vv _ => vv = .int .i64 (f0 : Int)) (mono_eq _) ?_ ?_
    · intro a' w' hb' hk
      refine ⟨wanted_none rfl, _, ?_, rfl⟩
      have hq := HLK.out w' hb'
      simp [Oper.looksAt, Op.operands, Call.operands, KnownAt, List.lookup, consD] at hk
      simp [execOp, Act.eval, hk, go_sem, hq]
      all_goals rfl
    apply gw_val
    · intro a' w' hk
      refine ⟨wanted_none rfl, ?_⟩
      simp [Oper.looksAt, Op.operands, Call.operands, KnownAt, List.lookup, consD] at hk
      simp [execOp, Act.eval, hk, go_sem]
      all_goals rfl
    intro vs w3 hb3 hall
    simp only [AllS, consD] at hall
    simp only [consD, putAllS, Act.put]
    obtain ⟨h9, -⟩ := hall
    rw [h9]
    simp only [List.setIfInBounds_toArray, List.set_cons_succ, List.set_cons_zero]
    have hb3' : Below w2.heap.size w2 w3 := ((Below.refl w2.heap.size w2).drew).trans hb3
    have hC4 := HALL.out.1.below hb3'
    have hB4 := HALL.out.2.1.trans (hb3'.mono HALL.out.2.1.size)
    have hT4 := HALL.out.2.2.1.then hb3'
    have hK4 := HALL.out.2.2.2.below hb3'
    clear h9 hb3 hb3' HALL HSL HLK HC0
    go_wp2
    go_loopw [2, 7] (fun xt xf wr => ∃ (t1 f : Nat) (best : Nat × Nat), t1 ≤ t ∧ f ≤ p ∧ best.1 ≤ 258 ∧ xt = .int .i64 t1 ∧ xf = .int .i64 f ∧ findGo l p t1 f best = longN l p t ∧ Chn wr w0.heap.size g l (some ⟨b, off, none⟩) n c p ∧ Blk wr o TT (tokCs best) ∧ Below w0.heap.size w0 wr ∧ TokKeep w wr) (fun xt _ _ => (intOf xt).toNat)
    case atStart => exact ⟨t, f0, (0, 0), Nat.le_refl _, hfl, by decide, rfl, rfl, HRUN.out, hC4, hK4, hB4, hT4⟩
    case round =>
      clear hC4 hB4 hT4 hK4 HRUN
      obtain ⟨t1, f, best, ht1, hf, hb1, rfl, rfl, hrun, hC, hK, hB, hT⟩ := hrel
      obtain ⟨bl, bd⟩ := best
      have k1 := hK.cell (i := 1) rfl
      have HK := Lib.hid hK
      have HB := Lib.hid (And.intro hC (And.intro hB hT))
      simp only at hb1 k1
      by_cases hgo : 0 < f ∧ p + 1 ≤ 32768 + f ∧ 0 < t1
      · obtain ⟨t2, rfl⟩ : ∃ t2, t1 = t2 + 1 := ⟨t1 - 1, by omega⟩
        obtain ⟨f2, rfl⟩ : ∃ f2, f = f2 + 1 := ⟨f - 1, by omega⟩
        rw [findGo, if_pos ⟨hgo.1, hgo.2.1⟩, Nat.add_sub_cancel] at hrun
        have HRUN := Lib.hid hrun
        obtain ⟨m, pq, hblk, hprev, hmap, hm, hg, hmg, hq⟩ := hC
        have c0 := hblk.cell (i := 0) rfl
        have c2 := hblk.cell (i := 2) rfl
        obtain ⟨q, pv, rfl, hqB, hql, hpv, hpc, hpf⟩ := hprev.at (i := f2) (by omega)
        rw [prevL_get l n p f2 (by omega) (by omega)] at hpv
        simp only [Option.some.injEq] at hpv
        subst hpv
        unfold iR at hpc
        have hple : prevV l f2 ≤ f2 := lastOf_le _ _ _ _ _
        have HC2 := Lib.hid (And.intro c2 hpc)
        have hqo : q ≠ o := fun e => by subst e; exact nok_int hprev _ hK
        clear hrun hblk hprev hmap hK hB hT hm hg hmg hq hpf hqB hql c2 hpc
        go_wp2_with fail
        refine (mSame_any (some ⟨b, off, none⟩) n c l f2 p wr HL.out hn (HR.out.below HB.out.2.1) (by omega) hp).mono ?_
        rintro e w4 ⟨rfl, hB5⟩
        have k4 := k1
        have HK4 := Lib.hid (HK.out.below hB5)
        have HB4 := Lib.hid (And.intro (HB.out.1.below hB5) (And.intro (HB.out.2.1.trans (hB5.mono HB.out.2.1.size)) (HB.out.2.2.then hB5)))
        have c2 := (hB5.cell (World.block_lt_of_cell? _ _ HC2.out.1)).trans HC2.out.1
        have cq := (hB5.cell (World.block_lt_of_cell? _ _ HC2.out.2)).trans HC2.out.2
        have k5 := HK4.out.cell (i := 1) rfl
        clear hB5 HC2 HB HK k1 k4 c0
        have hs258 := sameN_le l f2 p
        generalize sameN l f2 p = sn at HRUN hs258 ⊢
        have k6 : w4.cell? ⟨o, 1, none⟩ = some (.int .i64 (bl : Int)) := k5
        clear k5
        by_cases hbig : bl < sn
        · have hrun := HRUN.out
          rw [if_pos hbig] at hrun
          have HR2 := Lib.hid hrun
          clear HRUN hrun
          go_wp2_with (first | (refine wpList_storeBlk rfl _ _ rfl rfl rfl HK4.out rfl size_tok (tok3_one _ _) ?_; intro d0 dg; have c2 := dg.cell c2 (by simp; omega); have cq := dg.cell cq (by simp; omega); have HD := Lib.hid (And.intro d0 dg); clear d0 dg k6))
          have hd : (#[Value.int .u8 0, .int .i64 (sn : Int), .int .i64 ((p : Int) - ((f2 : Int) + 1) + 1)] : Array Value) = tokCs (sn, p + 1 - (f2 + 1)) := by
            unfold tokCs
            rw [show ((p : Int) - ((f2 : Int) + 1) + 1) = ((p + 1 - (f2 + 1) : Nat) : Int) from by omega]
          have HFIN : Hid (Chn (w4.setRow o #[Value.int .u8 0, .int .i64 (sn : Int), .int .i64 ((p : Int) - ((f2 : Int) + 1) + 1)]) w0.heap.size g l (some ⟨b, off, none⟩) n c p ∧ Blk (w4.setRow o #[Value.int .u8 0, .int .i64 (sn : Int), .int .i64 ((p : Int) - ((f2 : Int) + 1) + 1)]) o TT (tokCs (sn, p + 1 - (f2 + 1))) ∧ Below w0.heap.size w0 (w4.setRow o #[Value.int .u8 0, .int .i64 (sn : Int), .int .i64 ((p : Int) - ((f2 : Int) + 1) + 1)]) ∧ TokKeep w (w4.setRow o #[Value.int .u8 0, .int .i64 (sn : Int), .int .i64 ((p : Int) - ((f2 : Int) + 1) + 1)])) := Lib.hid ⟨HB4.out.1.tok HK4.out HD.out.2, by rw [← hd]; exact HD.out.1, HB4.out.2.1.grown HD.out.2 HB4.out.2.1.size (fun j hj => by simp at hj; omega), HB4.out.2.2.late HD.out.2 how⟩
          clear hd
          go_roundw
          case rel => exact ⟨t2, prevV l f2, (sn, p + 1 - (f2 + 1)), by omega, by omega, hs258, by go_num, rfl, HR2.out, HFIN.out⟩
          case measure => simp [intOf] <;> omega
        · have hrun := HRUN.out
          rw [if_neg hbig] at hrun
          have HR2 := Lib.hid hrun
          clear HRUN hrun
          go_wp2
          go_roundw
          case rel => exact ⟨t2, prevV l f2, (bl, bd), by omega, by omega, hb1, by go_num, rfl, HR2.out, HB4.out.1, HK4.out, HB4.out.2.1, HB4.out.2.2⟩
          case measure => simp [intOf] <;> omega
      · have hres : longN l p t = (bl, bd) := by
          rw [← hrun]
          cases t1 with
          | zero => rfl
          | succ t1 => rw [findGo, if_neg (by omega)]
        have HRES := Lib.hid hres
        clear hrun hres hC hK hB hT k1
        by_cases hf0 : 0 < f
        · by_cases hfp : p + 1 ≤ 32768 + f
          · have ht0 : t1 = 0 := by omega
            subst ht0
            clear hgo
            go_wp2_with (first | (refine wpList_load_row rfl _ _ rfl _ rfl _ _ _ _ HK.out Try.underlying48 rfl size_tok ?_) | (refine wpList_storeBlk rfl _ _ rfl rfl rfl HK.out rfl size_tok (tokCs_one _) ?_; intro d0 dg))
            refine bodyPost_ret (results_cell_row (p := 6) rfl _ _ o _ (tokCs (bl, bd)) _ _ rfl d0 Try.underlying48 rfl size_tok) rfl ⟨by rw [HRES.out]; rfl, ⟨p, Nat.le_refl _, HB.out.1.tok HK.out dg⟩, HB.out.2.1.grown dg HB.out.2.1.size (fun j hj => by simp at hj; omega), HB.out.2.2.late dg how⟩
          · clear hgo
            go_wp2_with (first | (refine wpList_load_row rfl _ _ rfl _ rfl _ _ _ _ HK.out Try.underlying48 rfl size_tok ?_) | (refine wpList_storeBlk rfl _ _ rfl rfl rfl HK.out rfl size_tok (tokCs_one _) ?_; intro d0 dg))
            refine bodyPost_ret (results_cell_row (p := 6) rfl _ _ o _ (tokCs (bl, bd)) _ _ rfl d0 Try.underlying48 rfl size_tok) rfl ⟨by rw [HRES.out]; rfl, ⟨p, Nat.le_refl _, HB.out.1.tok HK.out dg⟩, HB.out.2.1.grown dg HB.out.2.1.size (fun j hj => by simp at hj; omega), HB.out.2.2.late dg how⟩
        · have hf00 : f = 0 := by omega
          subst hf00
          clear hgo
          go_wp2_with (first | (refine wpList_load_row rfl _ _ rfl _ rfl _ _ _ _ HK.out Try.underlying48 rfl size_tok ?_) | (refine wpList_storeBlk rfl _ _ rfl rfl rfl HK.out rfl size_tok (tokCs_one _) ?_; intro d0 dg))
          refine bodyPost_ret (results_cell_row (p := 6) rfl _ _ o _ (tokCs (bl, bd)) _ _ rfl d0 Try.underlying48 rfl size_tok) rfl ⟨by rw [HRES.out]; rfl, ⟨p, Nat.le_refl _, HB.out.1.tok HK.out dg⟩, HB.out.2.1.grown dg HB.out.2.1.size (fun j hj => by simp at hj; omega), HB.out.2.2.late dg how⟩
  · have HRES : Hid (longN l p t = (0, 0)) := Lib.hid (by unfold longN; rw [if_neg (by rw [HL.out]; exact h3)])
    subst ho
    go_wp2_with (first | (refine wpList_load_row rfl _ _ rfl _ rfl _ _ _ _ HK1.out Try.underlying48 rfl size_tok ?_) | (refine wpList_storeBlk rfl _ _ rfl rfl rfl HK1.out rfl size_tok (tokCs_one _) ?_; intro d0 dg))
    refine bodyPost_ret (results_cell_row (p := 6) rfl _ _ w.heap.size _ (tokCs (0, 0)) _ _ rfl d0 Try.underlying48 rfl size_tok) rfl ⟨by rw [HRES.out]; rfl, ⟨u, hu, HC1.out.tok HK1.out dg⟩, HB1.out.1.grown dg HB1.out.1.size (fun j hj => by simp at hj; omega), HB1.out.2.late dg how⟩
end Go.Proofs.Ytnfdbljeinlblaa
