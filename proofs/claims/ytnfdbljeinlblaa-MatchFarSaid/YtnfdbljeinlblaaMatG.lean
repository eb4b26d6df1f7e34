/- match.Tokens. -/
import Derived.Test.YtnfdbljeinlblaaMatF
namespace Go.Proofs.Ytnfdbljeinlblaa
open Go.RowKit
set_option linter.unusedVariables false
set_option linter.unusedSimpArgs false

/-- A cell of tokens, reads, one call (operation N). -/
def ICl (w0 : World) (N o : Nat) (cs : Array Value) (R : World → Prop) (L : Nat → Bool) (a : Act) (w : World) : Prop := Blk w o TT cs ∧ (L N = false → w = w0) ∧ (L N = true → R w)
section
variable {w0 : World} {N o : Nat} {cs : Array Value} {R : World → Prop} {L : Nat → Bool} {a : Act} {w : World}
theorem ICl.start (h : Blk w0 o TT cs) : ICl w0 N o cs R (fun _ => false) a w0 := ⟨h, fun _ => rfl, (fun h => by cases h)⟩
theorem ICl.pure (h : ICl w0 N o cs R L a w) {k : Nat} (h1 : N ≠ k) (dst : Option Tmp) (V : Value) : ICl w0 N o cs R (setL L k) (a.put dst V) w := by
  unfold ICl
  rw [setL_ne h1]
  exact h
theorem ICl.done (h : ICl w0 N o cs R L a w) {w' : World} (hb : Blk w' o TT cs) (hR : R w') (dst : Option Tmp) (V : Value) : ICl w0 N o cs R (setL L N) (a.put dst V) w' := by
  unfold ICl
  rw [setL_same]
  exact ⟨hb, (fun h => by cases h), fun _ => hR⟩
end
set_option maxRecDepth 100000 in
set_option maxHeartbeats 16000000 in
theorem mTokens_any (a : Option Addr) (n c : Nat) (l : List UInt8) (w : World) (hl : l.length = n) (hn : n ≤ 1000000) (hnc : n ≤ c) (hr : Rd w bE a l) :
  Calls Try.prog 38 #[.slice a n c] w fun e w' => ∃ pt nt ct ts, e = .returned (.slice pt nt ct) ∧ nt ≤ n ∧ RdT w' pt nt ts ∧ TokOk l ts n ∧ Below w.heap.size w w' := by
  have HL := Lib.hid hl
  have HR := Lib.hid hr
  clear hl hr
  go_enter Try.func38, Try.ntmps38
  go_wp2_with fail
  refine (mStart_any a n c l w (by omega)).mono ?_
  rintro e w1 ⟨g, rfl, hC1, hB1⟩
  go_wp2
  go_loopw [4, 5] (fun x4 x5 wr => ∃ (p nt ct : Nat) (pt : Option Addr) (ts : List Tok), p ≤ n ∧ x5 = .int .i64 p ∧ x4 = .slice pt nt ct ∧ nt ≤ p ∧ OwnT wr w.heap.size pt nt ct ts ∧ TokOk l ts p ∧ (∃ u, u ≤ p ∧ Chn wr w.heap.size g l a n c u) ∧ Below w.heap.size w wr) (fun _ x5 _ => n - (intOf x5).toNat)
  case atStart => exact ⟨0, 0, 0, none, [], by omega, rfl, rfl, by omega, OwnT.nil, TokOk.start l, ⟨0, Nat.le_refl _, hC1⟩, hB1⟩
  case round =>
    clear hC1 hB1
    obtain ⟨p, nt, ct, pt, ts, hp, rfl, rfl, hnt, hown, htk, ⟨u, hu, hC⟩, hB⟩ := hrel
    by_cases hpn : p < n
    · have HC := Lib.hid hC
      have HO := Lib.hid hown
      have HB := Lib.hid hB
      have HTK := Lib.hid htk
      clear hC hown hB htk
      go_wp2_with fail
      refine (mLongest_any w a n c l g u p 64 wr HL.out (by omega) hnc HR.out HC.out HB.out (by omega) hu (by decide)).mono ?_
      rintro e w2 ⟨rfl, ⟨u1, hu1, hC2⟩, hB2, hT2⟩
      have HGD := Lib.hid (longN_good l p 64)
      have hqle := longN_le l p 64 (by rw [HL.out]; omega)
      rw [HL.out] at hqle
      have hown2 := HO.out.keep hT2
      clear HC HO HB hT2
      generalize longN l p 64 = q at HGD hqle ⊢
      obtain ⟨ql, qd⟩ := q
      simp only at hqle
      simp only [tokV]
      have hal := below_alloc w2 (.cells #[.int .u8 0, .int .i64 (ql : Int), .int .i64 (qd : Int)] TT)
      have HK := Lib.hid (Blk.new w2 TT #[.int .u8 0, .int .i64 (ql : Int), .int .i64 (qd : Int)])
      have HNE0 := Lib.hid (fun (k : Nat) (hk : (Value.slice pt nt ct).ownBlock = some k) => Nat.ne_of_lt (hown2.row k hk).2.1)
      have HALL := Lib.hid (And.intro (hC2.below hal) (And.intro (below_trans0 hB2 hB2.size hal) (And.intro hu1 (hown2.below hal))))
      have HWS := Lib.hid hB2.size
      clear hal hC2 hB2 hown2 hu1
      obtain ⟨o, ho⟩ : ∃ o, o = w2.heap.size := ⟨_, rfl⟩
      have k0 := HK.out.cell (i := 0) rfl
      have k1 := HK.out.cell (i := 1) rfl
      have k2 := HK.out.cell (i := 2) rfl
      by_cases hpos : 0 < ql
      · by_cases hlow : ql < 258
        · clear k0 k1 k2
          have hlowi : (ql : Int) < 258 := by omega
          go_wp2_with fail
          have how : w.heap.size ≤ o := by rw [ho]; have := HALL.out.2.1.size; simp at this; have h9 := HWS.out; omega
          rw [← ho] at HK HNE0 ⊢
          clear ho
          generalize w2.alloc (.cells #[.int .u8 0, .int .i64 (ql : Int), .int .i64 (qd : Int)] TT) = w3 at HK HALL ⊢
          obtain ⟨wz, hwz⟩ : ∃ x, w3.drew = x := ⟨_, rfl⟩
          have HZ : Hid (Chn wz w.heap.size g l a n c u1 ∧ Below w.heap.size w wz ∧ u1 ≤ p ∧ OwnT wz w.heap.size pt nt ct ts) := Lib.hid (by
            rw [← hwz]
            exact ⟨HALL.out.1.below ⟨rfl, rfl, rfl, Nat.le_refl _, fun _ _ => rfl⟩, HALL.out.2.1.drew, HALL.out.2.2.1, HALL.out.2.2.2.below ⟨rfl, rfl, rfl, Nat.le_refl _, fun _ _ => rfl⟩⟩)
          have HKZ : Hid (Blk wz o TT #[.int .u8 0, .int .i64 (ql : Int), .int .i64 (qd : Int)]) := Lib.hid (by rw [← hwz]; exact HK.out)
          have hu1 := HZ.out.2.2.1
          obtain ⟨m, hm⟩ : ∃ m, (longN l (p + 1) 64).1 = m := ⟨_, rfl⟩
          obtain ⟨md, hmd⟩ : ∃ m, (longN l (p + 1) 64).2 = m := ⟨_, rfl⟩
          have hm258 : m ≤ 258 := by rw [← hm]; exact (longN_le l (p + 1) 64 (by rw [HL.out]; omega)).2
          have HM : Hid (longN l (p + 1) 64 = (m, md)) := Lib.hid (by rw [← hm, ← hmd])
          clear HK HALL hm hmd
          refine wp_region_growA TS (ICl wz 12 o #[.int .u8 0, .int .i64 (ql : Int), .int .i64 (qd : Int)] (fun w' => (∃ u2, u2 ≤ p + 1 ∧ Chn w' w.heap.size g l a n c u2) ∧ Below w.heap.size w w' ∧ OwnT w' w.heap.size pt nt ct ts)) (by kernel_rfl) (by kernel_rfl) (by rfl) (by rw [hwz]; exact ICl.start HKZ.out) ?_
          apply ga_val _ (fun L a' w' _ _ h => h.pure (by decide) _ _)
          · intro a' w' L hL haf hi hk
            refine ⟨wanted_none rfl, ?_⟩
            simp [Oper.looksAt, Op.operands, Call.operands, KnownAt, List.lookup, consD] at hk
            simp [execOp, Act.eval, hk, go_sem]
            all_goals rfl
          refine ga_val (.int .i64 (ql : Int)) (fun L a' w' _ _ h => h.pure (by decide) _ _) ?_ ?_
          · intro a' w' L hL haf hi hk
            refine ⟨wanted_none rfl, ?_⟩
            have hq := hi.1.cell (i := 1) rfl
            simp [Oper.looksAt, Op.operands, Call.operands, KnownAt, List.lookup, consD] at hk
            simp [execOp, Act.eval, hk, go_sem, hq]
            all_goals rfl
          refine ga_val (.bool true) (fun L a' w' _ _ h => h.pure (by decide) _ _) ?_ ?_
          · intro a' w' L hL haf hi hk
            refine ⟨wanted_none rfl, ?_⟩
            simp [Oper.looksAt, Op.operands, Call.operands, KnownAt, List.lookup, consD] at hk
            simp [execOp, Act.eval, hk, go_sem, hpos]
            all_goals rfl
          apply ga_val _ (fun L a' w' _ _ h => h.pure (by decide) _ _)
          · intro a' w' L hL haf hi hk
            refine ⟨wanted_none rfl, ?_⟩
            simp [Oper.looksAt, Op.operands, Call.operands, KnownAt, List.lookup, consD] at hk
            simp [execOp, Act.eval, hk, go_sem]
            all_goals rfl
          apply ga_val _ (fun L a' w' _ _ h => h.pure (by decide) _ _)
          · intro a' w' L hL haf hi hk
            refine ⟨wanted_guard (t := 19) rfl rfl (by simpa [KnownAt, List.lookup, consD] using hk 19 (by decide)), ?_⟩
            simp [Oper.looksAt, Op.operands, Call.operands, KnownAt, List.lookup, consD] at hk
            simp [execOp, Act.eval, hk, go_sem]
            all_goals rfl
          refine ga_val (.int .i64 (ql : Int)) (fun L a' w' _ _ h => h.pure (by decide) _ _) ?_ ?_
          · intro a' w' L hL haf hi hk
            refine ⟨wanted_guard (t := 19) rfl rfl (by simpa [KnownAt, List.lookup, consD] using hk 19 (by decide)), ?_⟩
            have hq := hi.1.cell (i := 1) rfl
            simp [Oper.looksAt, Op.operands, Call.operands, KnownAt, List.lookup, consD] at hk
            simp [execOp, Act.eval, hk, go_sem, hq]
            all_goals rfl
          refine ga_val (.bool true) (fun L a' w' _ _ h => h.pure (by decide) _ _) ?_ ?_
          · intro a' w' L hL haf hi hk
            refine ⟨wanted_guard (t := 19) rfl rfl (by simpa [KnownAt, List.lookup, consD] using hk 19 (by decide)), ?_⟩
            simp [Oper.looksAt, Op.operands, Call.operands, KnownAt, List.lookup, consD] at hk
            simp [execOp, Act.eval, hk, go_sem, hlowi]
            all_goals rfl
          refine ga_val (.bool true) (fun L a' w' _ _ h => h.pure (by decide) _ _) ?_ ?_
          · intro a' w' L hL haf hi hk
            refine ⟨wanted_none rfl, ?_⟩
            simp [Oper.looksAt, Op.operands, Call.operands, KnownAt, List.lookup, consD] at hk
            simp [execOp, Act.eval, hk, go_sem]
            all_goals rfl
          apply ga_val _ (fun L a' w' _ _ h => h.pure (by decide) _ _)
          · intro a' w' L hL haf hi hk
            refine ⟨wanted_none rfl, ?_⟩
            simp [Oper.looksAt, Op.operands, Call.operands, KnownAt, List.lookup, consD] at hk
            simp [execOp, Act.eval, hk, go_sem]
            all_goals rfl
          apply ga_val _ (fun L a' w' _ _ h => h.pure (by decide) _ _)
          · intro a' w' L hL haf hi hk
            refine ⟨wanted_guard (t := 24) rfl rfl (by simpa [KnownAt, List.lookup, consD] using hk 24 (by decide)), ?_⟩
            simp [Oper.looksAt, Op.operands, Call.operands, KnownAt, List.lookup, consD] at hk
            simp [execOp, Act.eval, hk, go_sem]
            all_goals rfl
          apply ga_val _ (fun L a' w' _ _ h => h.pure (by decide) _ _)
          · intro a' w' L hL haf hi hk
            refine ⟨wanted_guard (t := 24) rfl rfl (by simpa [KnownAt, List.lookup, consD] using hk 24 (by decide)), ?_⟩
            simp [Oper.looksAt, Op.operands, Call.operands, KnownAt, List.lookup, consD] at hk
            simp [execOp, Act.eval, hk, go_sem]
            all_goals rfl
          refine ga_val (.int .i64 ((p : Int) + 1)) (fun L a' w' _ _ h => h.pure (by decide) _ _) ?_ ?_
          · intro a' w' L hL haf hi hk
            refine ⟨wanted_guard (t := 24) rfl rfl (by simpa [KnownAt, List.lookup, consD] using hk 24 (by decide)), ?_⟩
            have hw : IntKind.i64.wrap ((p : Int) + 1) = (p : Int) + 1 := IntWalk.i64_in _ (by omega)
            simp [Oper.looksAt, Op.operands, Call.operands, KnownAt, List.lookup, consD] at hk
            simp [execOp, Act.eval, hk, go_sem, hw]
            all_goals rfl
          refine ga_op (fun v _ => v = tokV (m, md)) (monoT_eq _) ?_ ?_
          · intro a' w' L hsz hL haf hi hk
            have hw := hi.2.1 hL
            subst hw
            refine ⟨wanted_guard (t := 24) rfl rfl (by simpa [KnownAt, List.lookup, consD] using hk 24 (by decide)), ?_⟩
            simp [Oper.looksAt, Op.operands, Call.operands, KnownAt, List.lookup, consD] at hk
            unfold Oper.wp
            simp [execOp, Act.eval, hk, go_sem, Oper.upon, Result.andThen]
            refine (mLongest_any w a n c l g u1 (p + 1) 64 w' HL.out (by omega) hnc HR.out HZ.out.1 HZ.out.2.1 (by omega) (by omega) (by decide)).mono ?_
            rintro e w'' ⟨rfl, ⟨u2, hu2, hC2⟩, hB2, hT2⟩
            rw [HM.out]
            exact ⟨_, rfl, rfl, hi.done (hT2 _ _ hi.1) ⟨⟨u2, hu2, hC2⟩, hB2, HZ.out.2.2.2.keep hT2⟩ (some 28) (tokV (m, md))⟩
          refine ga_val (.int .i64 (m : Int)) (fun L a' w' _ _ h => h.pure (by decide) _ _) ?_ ?_
          · intro a' w' L hL haf hi hk
            refine ⟨wanted_guard (t := 24) rfl rfl (by simpa [KnownAt, List.lookup, consD] using hk 24 (by decide)), ?_⟩
            simp [Oper.looksAt, Op.operands, Call.operands, KnownAt, List.lookup, consD] at hk
            simp [execOp, Act.eval, hk, go_sem]
            all_goals rfl
          apply ga_val _ (fun L a' w' _ _ h => h.pure (by decide) _ _)
          · intro a' w' L hL haf hi hk
            refine ⟨wanted_guard (t := 24) rfl rfl (by simpa [KnownAt, List.lookup, consD] using hk 24 (by decide)), ?_⟩
            simp [Oper.looksAt, Op.operands, Call.operands, KnownAt, List.lookup, consD] at hk
            simp [execOp, Act.eval, hk, go_sem]
            all_goals rfl
          refine ga_val (.int .i64 (ql : Int)) (fun L a' w' _ _ h => h.pure (by decide) _ _) ?_ ?_
          · intro a' w' L hL haf hi hk
            refine ⟨wanted_guard (t := 24) rfl rfl (by simpa [KnownAt, List.lookup, consD] using hk 24 (by decide)), ?_⟩
            have hq := hi.1.cell (i := 1) rfl
            simp [Oper.looksAt, Op.operands, Call.operands, KnownAt, List.lookup, consD] at hk
            simp [execOp, Act.eval, hk, go_sem, hq]
            all_goals rfl
          refine ga_val (.bool (decide ((ql : Int) < m))) (fun L a' w' _ _ h => h.pure (by decide) _ _) ?_ ?_
          · intro a' w' L hL haf hi hk
            refine ⟨wanted_guard (t := 24) rfl rfl (by simpa [KnownAt, List.lookup, consD] using hk 24 (by decide)), ?_⟩
            simp [Oper.looksAt, Op.operands, Call.operands, KnownAt, List.lookup, consD] at hk
            simp [execOp, Act.eval, hk, go_sem]
            all_goals rfl
          refine ga_val (.bool (decide ((ql : Int) < m))) (fun L a' w' _ _ h => h.pure (by decide) _ _) ?_ ?_
          · intro a' w' L hL haf hi hk
            refine ⟨wanted_none rfl, ?_⟩
            simp [Oper.looksAt, Op.operands, Call.operands, KnownAt, List.lookup, consD] at hk
            simp [execOp, Act.eval, hk, go_sem]
            all_goals rfl
          intro vs w' L hall hi hval
          have hR := hi.2.2 (hall 12 (by decide))
          have hk6 := hi.1
          simp only [AllS, consD] at hval
          simp only [consD, putAllS, Act.put]
          obtain ⟨h9, -⟩ := hval
          rw [h9]
          simp only [List.setIfInBounds_toArray, List.set_cons_succ, List.set_cons_zero]
          have HNE : Hid (∀ k, (Value.slice pt nt ct).ownBlock = some k → k ≠ o) := HNE0
          obtain ⟨hch, hB', hown'⟩ := hR
          clear h9 hi hall hwz HZ HKZ HNE0
          by_cases hlong : ql < m
          · have hli : (ql : Int) < m := by omega
            have HH := Lib.hid (And.intro hch (And.intro hB' (And.intro hown' hk6)))
            clear hch hB' hown' hk6
            obtain ⟨b, off, rfl, hbl, hc0⟩ := HR.out.at (k := p) (by rw [HL.out]; exact hpn)
            have hx : l.getD p 0 = l[p]'(by rw [HL.out]; exact hpn) := by simp [HL.out, hpn]
            have htl := HTK.out.lit (by rw [HL.out]; exact hpn)
            rw [hx] at htl
            have HTL := Lib.hid htl
            generalize l[p]'(by rw [HL.out]; exact hpn) = x at hc0 HTL htl
            clear hx htl
            unfold bE at hc0
            have hcw := (HH.out.2.1.cell (p := ⟨b, off + p, none⟩) hbl).trans hc0
            clear hc0
            go_wp2_with (first
              | (refine wpList_storeBlk rfl _ _ rfl rfl rfl HH.out.2.2.2 rfl size_tok (tokA_one (0, 0, 0)) ?_; intro d0 dg; have kz := d0.cell (i := 1) rfl; have HOWN := Lib.hid (HH.out.2.2.1.grown dg (fun k hk e => by simp at e; exact HNE.out k hk e)); have HBW := Lib.hid (HH.out.2.1.grown dg HH.out.2.1.size (fun j hj => by simp at hj; omega)); have HCH := Lib.hid (HH.out.1.imp fun u h => And.intro h.1 (h.2.tok HH.out.2.2.2 dg)); have hcx := dg.cell hcw (by simp; omega); have hbase := HBW.out.size; clear d0 dg hcw; generalize w'.setRow o #[.int .u8 0, .int .i64 0, .int .i64 0] = ws at HOWN HBW HCH hcx hbase kz ⊢)
              | (at_builtin; go_loud (refine wpList_pushT rfl _ _ rfl (q := ((x.toNat : Int), 0, 0)) rfl rfl HOWN.out rfl (by omega) hbase ?_; intro p3 c3 w3 hown3 hg3)))
            have hB3 := HBW.out.grown hg3 hbase (fun k hk => (HOWN.out.row k hk).1)
            obtain ⟨u3, hu3, hC3⟩ := HCH.out
            have hC4 := HOWN.out.chn hC3 hg3
            go_roundw
            case rel => exact ⟨p + 1, nt + 1, c3, p3, _, by omega, by go_num, rfl, by omega, hown3, HTL.out, ⟨u3, by omega, hC4⟩, hB3⟩
            case measure => simp [intOf] <;> omega
          · have hli : ¬ (ql : Int) < m := by omega
            have HH := Lib.hid (And.intro hch (And.intro hB' (And.intro hown' hk6)))
            clear hch hB' hown' hk6
            have HTC := Lib.hid (HTK.out.copy HGD.out hpos (by rw [HL.out]; omega))
            have hbase : w.heap.size ≤ (w').heap.size := HH.out.2.1.size
            have HOWN := Lib.hid HH.out.2.2.1
            have HCH := Lib.hid HH.out.1
            have HBW := Lib.hid HH.out.2.1
            have HKB := Lib.hid HH.out.2.2.2
            have kc0 := HKB.out.cell (i := 0) rfl
            have kc1 := HKB.out.cell (i := 1) rfl
            have kc2 := HKB.out.cell (i := 2) rfl
            go_wp2_with (at_builtin; refine wpList_pushT rfl _ _ rfl (q := (0, (ql : Int), (qd : Int))) rfl rfl HOWN.out rfl (by omega) hbase ?_; intro p3 c3 w3 hown3 hg3; have kd1 := (HKB.out.grown hg3 (fun e => HNE.out _ e.symm rfl)).cell (i := 1) rfl; clear kc0 kc1 kc2)
            have hB3 := HBW.out.grown hg3 hbase (fun k hk => (HOWN.out.row k hk).1)
            obtain ⟨u3, hu3, hC3⟩ := HCH.out
            have hC4 := HOWN.out.chn hC3 hg3
            clear kd1
            go_roundw
            case rel => exact ⟨p + ql, nt + 1, c3, p3, _, by omega, by go_num, rfl, by omega, hown3, HTC.out, ⟨u3, by omega, hC4⟩, hB3⟩
            case measure => simp [intOf] <;> omega
        · have hd1 : decide ((0 : Int) < ql) = true := decide_eq_true (by omega)
          have hd2 : decide ((ql : Int) < 258) = false := decide_eq_false (by omega)
          rw [ho] at *
          clear ho
          go_wp2
          go_quiet (fail)
          have HH : Hid ((∃ u2, u2 ≤ p + 1 ∧ Chn ((w2.alloc (.cells #[.int .u8 0, .int .i64 (ql : Int), .int .i64 (qd : Int)] TT)).drewN nq) w.heap.size g l a n c u2) ∧ Below w.heap.size w ((w2.alloc (.cells #[.int .u8 0, .int .i64 (ql : Int), .int .i64 (qd : Int)] TT)).drewN nq) ∧ OwnT ((w2.alloc (.cells #[.int .u8 0, .int .i64 (ql : Int), .int .i64 (qd : Int)] TT)).drewN nq) w.heap.size pt nt ct ts ∧ Blk ((w2.alloc (.cells #[.int .u8 0, .int .i64 (ql : Int), .int .i64 (qd : Int)] TT)).drewN nq) w2.heap.size TT #[.int .u8 0, .int .i64 (ql : Int), .int .i64 (qd : Int)]) := Lib.hid ⟨⟨u1, by have := HALL.out.2.2.1; omega, HALL.out.1.below ⟨rfl, rfl, rfl, Nat.le_refl _, fun _ _ => rfl⟩⟩, HALL.out.2.1.trans ⟨rfl, rfl, rfl, Nat.le_refl _, fun _ _ => rfl⟩, HALL.out.2.2.2.below ⟨rfl, rfl, rfl, Nat.le_refl _, fun _ _ => rfl⟩, HK.out⟩
          have HNE : Hid (∀ k, (Value.slice pt nt ct).ownBlock = some k → k ≠ w2.heap.size) := HNE0
          clear HK HALL HNE0 HWS k0 k1 k2
          generalize (w2.alloc (.cells #[.int .u8 0, .int .i64 (ql : Int), .int .i64 (qd : Int)] TT)).drewN nq = wq at HH ⊢
          have HTC := Lib.hid (HTK.out.copy HGD.out hpos (by rw [HL.out]; omega))
          have hbase : w.heap.size ≤ (wq).heap.size := HH.out.2.1.size
          have HOWN := Lib.hid HH.out.2.2.1
          have HCH := Lib.hid HH.out.1
          have HBW := Lib.hid HH.out.2.1
          have HKB := Lib.hid HH.out.2.2.2
          have kc0 := HKB.out.cell (i := 0) rfl
          have kc1 := HKB.out.cell (i := 1) rfl
          have kc2 := HKB.out.cell (i := 2) rfl
          go_wp2_with (at_builtin; refine wpList_pushT rfl _ _ rfl (q := (0, (ql : Int), (qd : Int))) rfl rfl HOWN.out rfl (by omega) hbase ?_; intro p3 c3 w3 hown3 hg3; have kd1 := (HKB.out.grown hg3 (fun e => HNE.out _ e.symm rfl)).cell (i := 1) rfl; clear kc0 kc1 kc2)
          have hB3 := HBW.out.grown hg3 hbase (fun k hk => (HOWN.out.row k hk).1)
          obtain ⟨u3, hu3, hC3⟩ := HCH.out
          have hC4 := HOWN.out.chn hC3 hg3
          clear kd1
          go_roundw
          case rel => exact ⟨p + ql, nt + 1, c3, p3, _, by omega, by go_num, rfl, by omega, hown3, HTC.out, ⟨u3, by omega, hC4⟩, hB3⟩
          case measure => simp [intOf] <;> omega
      · have hd1 : decide ((0 : Int) < ql) = false := decide_eq_false (by omega)
        have hz : ((ql : Int) == 0) = true := beq_iff_eq.2 (by omega)
        rw [ho] at *
        clear ho
        go_wp2
        go_quiet (fail)
        have HH : Hid ((∃ u2, u2 ≤ p + 1 ∧ Chn ((w2.alloc (.cells #[.int .u8 0, .int .i64 (ql : Int), .int .i64 (qd : Int)] TT)).drewN nq) w.heap.size g l a n c u2) ∧ Below w.heap.size w ((w2.alloc (.cells #[.int .u8 0, .int .i64 (ql : Int), .int .i64 (qd : Int)] TT)).drewN nq) ∧ OwnT ((w2.alloc (.cells #[.int .u8 0, .int .i64 (ql : Int), .int .i64 (qd : Int)] TT)).drewN nq) w.heap.size pt nt ct ts ∧ Blk ((w2.alloc (.cells #[.int .u8 0, .int .i64 (ql : Int), .int .i64 (qd : Int)] TT)).drewN nq) w2.heap.size TT #[.int .u8 0, .int .i64 (ql : Int), .int .i64 (qd : Int)]) := Lib.hid ⟨⟨u1, by have := HALL.out.2.2.1; omega, HALL.out.1.below ⟨rfl, rfl, rfl, Nat.le_refl _, fun _ _ => rfl⟩⟩, HALL.out.2.1.trans ⟨rfl, rfl, rfl, Nat.le_refl _, fun _ _ => rfl⟩, HALL.out.2.2.2.below ⟨rfl, rfl, rfl, Nat.le_refl _, fun _ _ => rfl⟩, HK.out⟩
        clear HK HALL HNE0 HWS k0 k1 k2
        generalize (w2.alloc (.cells #[.int .u8 0, .int .i64 (ql : Int), .int .i64 (qd : Int)] TT)).drewN nq = wq at HH ⊢
        have k1 := HH.out.2.2.2.cell (i := 1) rfl
        obtain ⟨b, off, rfl, hbl, hc0⟩ := HR.out.at (k := p) (by rw [HL.out]; exact hpn)
        have hx : l.getD p 0 = l[p]'(by rw [HL.out]; exact hpn) := by simp [HL.out, hpn]
        have htl := HTK.out.lit (by rw [HL.out]; exact hpn)
        rw [hx] at htl
        have HTL := Lib.hid htl
        generalize l[p]'(by rw [HL.out]; exact hpn) = x at hc0 HTL htl
        clear hx htl
        unfold bE at hc0
        have hcx := (HH.out.2.1.cell (p := ⟨b, off + p, none⟩) hbl).trans hc0
        have hbase : w.heap.size ≤ (wq).heap.size := HH.out.2.1.size
        have HOWN := Lib.hid HH.out.2.2.1
        have HCH := Lib.hid HH.out.1
        have HBW := Lib.hid HH.out.2.1
        clear hc0
        go_wp2_with (at_builtin; refine wpList_pushT rfl _ _ rfl (q := ((x.toNat : Int), 0, 0)) rfl rfl HOWN.out rfl (by omega) hbase ?_; intro p3 c3 w3 hown3 hg3)
        have hB3 := HBW.out.grown hg3 hbase (fun k hk => (HOWN.out.row k hk).1)
        obtain ⟨u3, hu3, hC3⟩ := HCH.out
        have hC4 := HOWN.out.chn hC3 hg3
        go_roundw
        case rel => exact ⟨p + 1, nt + 1, c3, p3, _, by omega, by go_num, rfl, by omega, hown3, HTL.out, ⟨u3, by omega, hC4⟩, hB3⟩
        case measure => simp [intOf] <;> omega
    · have hpe : p = n := by omega
      subst hpe
      have HF := Lib.hid (And.intro hnt (And.intro hown.rd (And.intro htk hB)))
      clear hown htk hC hB
      go_wp2
      go_ret
      exact ⟨pt, nt, ct, ts, rfl, HF.out⟩
end Go.Proofs.Ytnfdbljeinlblaa
