/- chains.reach. -/
import Derived.Test.YtnfdbljeinlblaaMatB
import Derived.Test.YtnfdbljeinlblaaGrowP
namespace Go.Proofs.Ytnfdbljeinlblaa
open Go.RowKit
set_option linter.unusedVariables false
set_option linter.unusedSimpArgs false

def cntC (g : Nat) (w : World) : Nat := match w.cell? ⟨g, 3, none⟩ with | some v => (intOf v).toNat | none => 0
theorem cntC_eq {g : Nat} {w : World} {cs : Array Value} {k : Nat} (h : Blk w g CT cs) (hc : cs[3]? = some (.int .i64 (k : Int))) : cntC g w = k := by
  have := h.cell hc
  simp [cntC, this, intOf]
theorem MapOf.drew {w : World} {m n : Nat} {f : UInt8 → UInt8 → UInt8 → Nat} (h : MapOf w m n f) : MapOf w.drew m n f := h
theorem Rd.get3 {w : World} {b off : Nat} {l : List UInt8} (h : Rd w bE (some ⟨b, off, none⟩) l) (k : Nat) (hk : k + 3 ≤ l.length) :
    w.cell? ⟨b, off + k, none⟩ = some (bE (l.getD k 0)) ∧ w.cell? ⟨b, off + k + 1, none⟩ = some (bE (l.getD (k + 1) 0)) ∧ w.cell? ⟨b, off + k + 2, none⟩ = some (bE (l.getD (k + 2) 0)) := by
  have key : ∀ j, j < l.length → w.cell? ⟨b, off + j, none⟩ = some (bE (l.getD j 0)) := fun j hj => by
    obtain ⟨b', off', he, -, hc⟩ := h.at hj
    simp only [Option.some.injEq, Addr.mk.injEq, and_true] at he
    obtain ⟨rfl, rfl⟩ := he
    rw [hc]; simp [hj]
  exact ⟨key k (by omega), key (k + 1) (by omega), key (k + 2) (by omega)⟩
theorem run_slice3 (b off n c k : Nat) (h1 : k + 3 ≤ c) (w : World) :
    (Instr.slice 32 (.slice (some ⟨b, off, none⟩) n c) (some (.int .i64 (k : Int))) (some (.int .i64 ((k : Int) + 3))) none).run Try.prog w = .ok (.slice (some ⟨b, off + k, none⟩) 3 (c - k)) w := by
  have := run_slice_lh1 slByte (some ⟨b, off, none⟩) n c k (k + 3) (by omega) h1 (k : Int) ((k : Int) + 3) rfl (by omega) w
  rw [this]
  have hne : ¬ c = k := by omega
  unfold slP
  rw [if_neg hne]
  simp [Addr.add]
set_option maxRecDepth 100000 in
set_option maxHeartbeats 16000000 in
theorem mReach_any (w0 : World) (a : Option Addr) (n c : Nat) (l : List UInt8) (g u at_ : Nat) (w : World) (hl : l.length = n) (hn : n ≤ 1000000000) (hnc : n ≤ c) (hr : Rd w0 bE a l) (hC : Chn w w0.heap.size g l a n c u) (hB : Below w0.heap.size w0 w) (hat : at_ + 3 ≤ n) (hu : u ≤ at_) :
  Calls Try.prog 78 #[.pointer (some ⟨g, 0, none⟩), .int .i64 (at_ : Int)] w fun e w' => e = .returned (.tuple #[]) ∧ Chn w' w0.heap.size g l a n c at_ ∧ Below w0.heap.size w0 w' ∧ TokKeep w w' := by
  have HL := Lib.hid hl
  have HR := Lib.hid hr
  have hT := TokKeep.refl w
  clear hl hr
  go_enter Try.func78, Try.ntmps78
  go_wp2
  go_loopw [] (fun wr => ∃ k : Nat, (u ≤ k ∧ k ≤ at_) ∧ Chn wr w0.heap.size g l a n c k ∧ Below w0.heap.size w0 wr ∧ TokKeep w wr) (fun wr => at_ - cntC g wr)
  case atStart => exact ⟨u, ⟨Nat.le_refl _, hu⟩, hC, hB, hT⟩
  case round =>
    clear hC hB hT
    obtain ⟨k, hk, hC, hB, hT⟩ := hrel
    obtain ⟨m, pq, hblk, hprev, hmap, hm, hg, hmg, hq⟩ := hC
    have c0 := hblk.cell (i := 0) rfl
    have c3 := hblk.cell (i := 3) rfl
    by_cases hlt : k < at_
    · have hd1 : decide ((k : Int) < at_) = true := decide_eq_true (by omega)
      have hd2 : decide ((k : Int) + 3 ≤ n) = true := decide_eq_true (by omega)
      obtain ⟨q, pv, rfl, hqB, hql, hpv, hpc, hpf⟩ := hprev.at (i := k) (by omega)
      have hrd := HR.out.below hB
      obtain ⟨b, off, rfl, -, -⟩ := hrd.at (k := k) (by rw [HL.out]; omega)
      have HX := Lib.hid (fun (w' : World) (hb : Below wr.drew.heap.size wr.drew w') => (hrd.below (w' := w') (show Below wr.heap.size wr w' from (Below.refl _ wr).drew.trans hb)).get3 k (by rw [HL.out]; omega))
      have HCNT := Lib.hid (cntC_eq hblk rfl)
      have HALL := Lib.hid (And.intro hblk (And.intro hprev (And.intro hmap (And.intro hB hT))))
      have HQ := Lib.hid (hq q rfl)
      clear hrd hprev hmap hB hT hpv hpc hq hblk
      go_wp2
      go_quiet (fail)
      go_wp2
      obtain ⟨wz, hwz⟩ : ∃ x, (wr.drewN nq).drew = x := ⟨_, rfl⟩
      obtain ⟨x, hx⟩ : ∃ x, l.getD k 0 = x := ⟨_, rfl⟩
      obtain ⟨y, hy⟩ : ∃ x, l.getD (k + 1) 0 = x := ⟨_, rfl⟩
      obtain ⟨z, hz⟩ : ∃ x, l.getD (k + 2) 0 = x := ⟨_, rfl⟩
      have HZ : Hid (Blk wz g CT #[.slice (some ⟨b, off, none⟩) n c, .map (some m), .slice (some ⟨q, 0, none⟩) n n, .int .i64 (k : Int)] ∧ Own wz w0.heap.size 3 iR (some ⟨q, 0, none⟩) n n (prevL l n k) ∧ MapOf wz m k (lastOf l k) ∧ Below w0.heap.size w0 wz ∧ TokKeep w wz) := Lib.hid (by
        rw [← hwz]
        exact ⟨HALL.out.1, HALL.out.2.1.below ⟨rfl, rfl, rfl, Nat.le_refl _, fun _ _ => rfl⟩, HALL.out.2.2.1, HALL.out.2.2.2.1.trans ⟨rfl, rfl, rfl, Nat.le_refl _, fun _ _ => rfl⟩, HALL.out.2.2.2.2⟩)
      have HBLK := Lib.hid HZ.out.1
      have HXYZ : Hid (∀ w', Below wz.heap.size wz w' → w'.cell? ⟨b, off + k, none⟩ = some (.int .u8 (x.toNat : Int)) ∧ w'.cell? ⟨b, off + k + 1, none⟩ = some (.int .u8 (y.toNat : Int)) ∧ w'.cell? ⟨b, off + k + 2, none⟩ = some (.int .u8 (z.toNat : Int))) := Lib.hid (fun w' hb => by
        have hr2 := (HR.out.below HZ.out.2.2.2.1).below hb
        have := hr2.get3 k (by rw [HL.out]; omega)
        rw [hx, hy, hz] at this
        exact this)
      have HSL := Lib.hid (run_slice3 b off n c k (by omega))
      have HPV : Hid (lastOf l k x y z = prevV l k) := Lib.hid (by unfold prevV; rw [hx, hy, hz])
      have HF : Hid (∀ x' y' z', (if x' = x ∧ y' = y ∧ z' = z then k + 1 else lastOf l k x' y' z') = lastOf l (k + 1) x' y' z') := Lib.hid (fun x' y' z' => by rw [lastOf, hx, hy, hz])
      have hgz : g < wz.heap.size := HBLK.out.lt
      have hmz : m < wz.heap.size := HZ.out.2.2.1.lt
      have hqz : q < wz.heap.size := by rw [← hwz]; exact hql
      clear HX HALL c0 c3 hx hy hz hql
      refine wp_region_growA TS (IAl wz 4 16 17 #[.int .u8 0, .int .u8 0, .int .u8 0] #[.int .u8 (x.toNat : Int), .int .u8 (y.toNat : Int), .int .u8 (z.toNat : Int)] KT) (by kernel_rfl) (by kernel_rfl) (by rfl) (by rw [hwz]; exact IAl.start _) ?_
      apply ga_val _ (fun L a' w' _ _ h => h.pure (by decide) (by decide) (by decide) _)
      · intro a' w' L hL haf hi hk
        refine ⟨wanted_none rfl, ?_⟩
        simp [Oper.looksAt, Op.operands, Call.operands, KnownAt, List.lookup, consD] at hk
        simp [execOp, Act.eval, hk, go_sem]
        all_goals rfl
      apply ga_val _ (fun L a' w' _ _ h => h.pure (by decide) (by decide) (by decide) _)
      · intro a' w' L hL haf hi hk
        refine ⟨wanted_none rfl, ?_⟩
        simp [Oper.looksAt, Op.operands, Call.operands, KnownAt, List.lookup, consD] at hk
        simp [execOp, Act.eval, hk, go_sem]
        all_goals rfl
      apply ga_val _ (fun L a' w' _ _ h => h.pure (by decide) (by decide) (by decide) _)
      · intro a' w' L hL haf hi hk
        refine ⟨wanted_none rfl, ?_⟩
        simp [Oper.looksAt, Op.operands, Call.operands, KnownAt, List.lookup, consD] at hk
        simp [execOp, Act.eval, hk, go_sem]
        all_goals rfl
      refine ga_val (.slice (some ⟨b, off, none⟩) n c) (fun L a' w' _ _ h => h.pure (by decide) (by decide) (by decide) _) ?_ ?_
      · intro a' w' L hL haf hi hk
        refine ⟨wanted_none rfl, ?_⟩
        have hq := (HBLK.out.below hi.below).cell (i := 0) rfl
        simp [Oper.looksAt, Op.operands, Call.operands, KnownAt, List.lookup, consD] at hk
        simp [execOp, Act.eval, hk, go_sem, hq]
        all_goals rfl
      apply ga_val _ (fun L a' w' _ _ h => h.pure (by decide) (by decide) (by decide) _)
      · intro a' w' L hL haf hi hk
        refine ⟨wanted_none rfl, ?_⟩
        simp [Oper.looksAt, Op.operands, Call.operands, KnownAt, List.lookup, consD] at hk
        simp [execOp, Act.eval, hk, go_sem]
        all_goals rfl
      apply ga_val _ (fun L a' w' _ _ h => h.pure (by decide) (by decide) (by decide) _)
      · intro a' w' L hL haf hi hk
        refine ⟨wanted_none rfl, ?_⟩
        simp [Oper.looksAt, Op.operands, Call.operands, KnownAt, List.lookup, consD] at hk
        simp [execOp, Act.eval, hk, go_sem]
        all_goals rfl
      apply ga_val _ (fun L a' w' _ _ h => h.pure (by decide) (by decide) (by decide) _)
      · intro a' w' L hL haf hi hk
        refine ⟨wanted_none rfl, ?_⟩
        simp [Oper.looksAt, Op.operands, Call.operands, KnownAt, List.lookup, consD] at hk
        simp [execOp, Act.eval, hk, go_sem]
        all_goals rfl
      refine ga_val (.int .i64 (k : Int)) (fun L a' w' _ _ h => h.pure (by decide) (by decide) (by decide) _) ?_ ?_
      · intro a' w' L hL haf hi hk
        refine ⟨wanted_none rfl, ?_⟩
        have hq := (HBLK.out.below hi.below).cell (i := 3) rfl
        simp [Oper.looksAt, Op.operands, Call.operands, KnownAt, List.lookup, consD] at hk
        simp [execOp, Act.eval, hk, go_sem, hq]
        all_goals rfl
      apply ga_val _ (fun L a' w' _ _ h => h.pure (by decide) (by decide) (by decide) _)
      · intro a' w' L hL haf hi hk
        refine ⟨wanted_none rfl, ?_⟩
        simp [Oper.looksAt, Op.operands, Call.operands, KnownAt, List.lookup, consD] at hk
        simp [execOp, Act.eval, hk, go_sem]
        all_goals rfl
      apply ga_val _ (fun L a' w' _ _ h => h.pure (by decide) (by decide) (by decide) _)
      · intro a' w' L hL haf hi hk
        refine ⟨wanted_none rfl, ?_⟩
        simp [Oper.looksAt, Op.operands, Call.operands, KnownAt, List.lookup, consD] at hk
        simp [execOp, Act.eval, hk, go_sem]
        all_goals rfl
      apply ga_val _ (fun L a' w' _ _ h => h.pure (by decide) (by decide) (by decide) _)
      · intro a' w' L hL haf hi hk
        refine ⟨wanted_none rfl, ?_⟩
        simp [Oper.looksAt, Op.operands, Call.operands, KnownAt, List.lookup, consD] at hk
        simp [execOp, Act.eval, hk, go_sem]
        all_goals rfl
      refine ga_val (.int .i64 (k : Int)) (fun L a' w' _ _ h => h.pure (by decide) (by decide) (by decide) _) ?_ ?_
      · intro a' w' L hL haf hi hk
        refine ⟨wanted_none rfl, ?_⟩
        have hq := (HBLK.out.below hi.below).cell (i := 3) rfl
        simp [Oper.looksAt, Op.operands, Call.operands, KnownAt, List.lookup, consD] at hk
        simp [execOp, Act.eval, hk, go_sem, hq]
        all_goals rfl
      refine ga_val (.int .i64 ((k : Int) + 3)) (fun L a' w' _ _ h => h.pure (by decide) (by decide) (by decide) _) ?_ ?_
      · intro a' w' L hL haf hi hk
        refine ⟨wanted_none rfl, ?_⟩
        have hw : IntKind.i64.wrap ((k : Int) + 3) = (k : Int) + 3 := IntWalk.i64_in _ (by omega)
        simp [Oper.looksAt, Op.operands, Call.operands, KnownAt, List.lookup, consD] at hk
        simp [execOp, Act.eval, hk, go_sem, hw]
        all_goals rfl
      refine ga_val (.slice (some ⟨b, off + k, none⟩) 3 (c - k)) (fun L a' w' _ _ h => h.pure (by decide) (by decide) (by decide) _) ?_ ?_
      · intro a' w' L hL haf hi hk
        refine ⟨wanted_none rfl, ?_⟩
        have hq := HSL.out w'
        simp [Oper.looksAt, Op.operands, Call.operands, KnownAt, List.lookup, consD] at hk
        simp [execOp, Act.eval, hk, go_sem, hq]
        all_goals rfl
      refine ga_val (.pointer (some ⟨b, off + k, none⟩)) (fun L a' w' _ _ h => h.pure (by decide) (by decide) (by decide) _) ?_ ?_
      · intro a' w' L hL haf hi hk
        refine ⟨wanted_none rfl, ?_⟩
        have hq := run_arr (some ⟨b, off + k, none⟩) 3 (c - k) (by omega) w'
        simp [Oper.looksAt, Op.operands, Call.operands, KnownAt, List.lookup, consD] at hk
        simp [execOp, Act.eval, hk, go_sem, hq]
        all_goals rfl
      refine ga_val (.agg #[.int .u8 (x.toNat : Int), .int .u8 (y.toNat : Int), .int .u8 (z.toNat : Int)]) (fun L a' w' _ _ h => h.pure (by decide) (by decide) (by decide) _) ?_ ?_
      · intro a' w' L hL haf hi hk
        refine ⟨wanted_none rfl, ?_⟩
        obtain ⟨h0, h1, h2⟩ := HXYZ.out w' hi.below
        simp [Oper.looksAt, Op.operands, Call.operands, KnownAt, List.lookup, consD] at hk
        simp [execOp, Act.eval, hk, go_sem, h0, h1, h2]
        all_goals rfl
      refine ga_at (fun _ w' => .pointer (some ⟨w'.heap.size, 0, none⟩)) (fun w' => w'.alloc (.cells #[.int .u8 0, .int .u8 0, .int .u8 0] KT)) ?_ ?_
      · intro a' w' L hsz hL haf hi hk
        have hsz' : a'.tmps.size = 72 := hsz
        refine ⟨wanted_none rfl, ?_, hi.lay hL (by omega)⟩
        simp [execOp, Act.eval, go_sem]
        all_goals rfl
      refine ga_op (fun _ _ => True) monoT_any ?_ ?_
      · intro a' w' L hsz hL haf hi hk
        have h16 : L 16 = true := haf ⟨16, .data⟩ (by simp) (by decide)
        obtain ⟨h4, hw⟩ := hi.mid h16 hL
        have hst := hi.store hL h16
        have hv : a'.tmps.getD 46 undef = .agg #[.int .u8 (x.toNat : Int), .int .u8 (y.toNat : Int), .int .u8 (z.toNat : Int)] := known_of (hk 46 (by decide)) rfl
        refine ⟨wanted_none rfl, ?_⟩
        refine wp_store_row KT (.tmp 4) (.tmp 46) rfl wz.heap.size #[.int .u8 (x.toNat : Int), .int .u8 (y.toNat : Int), .int .u8 (z.toNat : Int)] h4 hv KT #[.int .u8 0, .int .u8 0, .int .u8 0] (by rw [hw]; exact heap_alloc_new _ _) (by kernel_rfl) rfl (by simp [Value.oneCell']) ?_
        exact ⟨_, rfl, trivial, hst⟩
      intro vs w' L hall hi hval
      obtain ⟨e4, hw⟩ := hi.2.2.2.1 (hall 17 (by decide))
      subst hw
      simp only [consD, putAllS, Act.put] at e4 ⊢
      have e4' : vs 4 = .pointer (some ⟨wz.heap.size, 0, none⟩) := by simpa using e4
      rw [e4']
      simp only [List.setIfInBounds_toArray, List.set_cons_succ, List.set_cons_zero]
      clear e4 e4' hi hval hall HXYZ HSL
      have HZ2 : Hid (Blk (wz.alloc (.cells #[.int .u8 (x.toNat : Int), .int .u8 (y.toNat : Int), .int .u8 (z.toNat : Int)] KT)) wz.heap.size KT #[.int .u8 (x.toNat : Int), .int .u8 (y.toNat : Int), .int .u8 (z.toNat : Int)]) := Lib.hid (Blk.new _ _ _)
      have hal := below_alloc wz (.cells #[.int .u8 (x.toNat : Int), .int .u8 (y.toNat : Int), .int .u8 (z.toNat : Int)] KT)
      have HZ3 := Lib.hid (And.intro (HZ.out.1.below hal) (And.intro (HZ.out.2.1.below hal) (And.intro (HZ.out.2.2.1.below hal) (And.intro (HZ.out.2.2.2.1.trans (hal.mono HZ.out.2.2.2.1.size)) (HZ.out.2.2.2.2.trans (TokKeep.below hal))))))
      obtain ⟨q4, hq4⟩ : ∃ q4, q4 = wz.heap.size := ⟨_, rfl⟩
      rw [← hq4] at HZ2 hgz hmz hqz ⊢
      clear hal HZ HBLK hq4
      go_wp2
      generalize (wz.alloc (.cells #[.int .u8 (x.toNat : Int), .int .u8 (y.toNat : Int), .int .u8 (z.toNat : Int)] KT)) = w2 at HZ2 HZ3 ⊢
      obtain ⟨w3, hw3⟩ : ∃ x, w2.drew = x := ⟨_, rfl⟩
      have HB : Hid (Blk w3 g CT #[.slice (some ⟨b, off, none⟩) n c, .map (some m), .slice (some ⟨q, 0, none⟩) n n, .int .i64 (k : Int)]) := Lib.hid (by rw [← hw3]; exact HZ3.out.1)
      have HO : Hid (Own w3 w0.heap.size 3 iR (some ⟨q, 0, none⟩) n n (prevL l n k)) := Lib.hid (by rw [← hw3]; exact HZ3.out.2.1.drew)
      have HM : Hid (MapOf w3 m k (lastOf l k)) := Lib.hid (by rw [← hw3]; exact HZ3.out.2.2.1)
      have HW : Hid (Below w0.heap.size w0 w3 ∧ TokKeep w w3) := Lib.hid (by rw [← hw3]; exact ⟨HZ3.out.2.2.2.1.drew, HZ3.out.2.2.2.2⟩)
      have HK : Hid (Blk w3 q4 KT #[.int .u8 (x.toNat : Int), .int .u8 (y.toNat : Int), .int .u8 (z.toNat : Int)]) := Lib.hid (by rw [← hw3]; exact HZ2.out)
      have HFR : Hid (w3.frozen? ⟨q, k, none⟩ = false ∧ ∃ v, w3.cell? ⟨q, k, none⟩ = some v) := Lib.hid (by
        obtain ⟨q', pv', he, -, -, -, hcl, hf⟩ := HO.out.at (i := k) (by omega)
        simp only [Option.some.injEq, Addr.mk.injEq, and_true] at he
        subst he
        exact ⟨hf, _, hcl⟩)
      have hkn : k < n := by omega
      have hki : (k : Int) < n := by omega
      clear HZ2 HZ3
      refine wp_region_growA TS (IT w3 15 q (fun w' => w' = w3.setCell ⟨q, k, none⟩ (.int .i64 (lastOf l k x y z : Int)))) (by kernel_rfl) (by kernel_rfl) (by rfl) (by rw [hw3]; exact IT.start _) ?_
      apply ga_val _ (fun L a' w' _ _ h => h.pure (by decide) _ _)
      · intro a' w' L hL haf hi hk
        refine ⟨wanted_none rfl, ?_⟩
        simp [Oper.looksAt, Op.operands, Call.operands, KnownAt, List.lookup, consD] at hk
        simp [execOp, Act.eval, hk, go_sem]
        all_goals rfl
      apply ga_val _ (fun L a' w' _ _ h => h.pure (by decide) _ _)
      · intro a' w' L hL haf hi hk
        refine ⟨wanted_none rfl, ?_⟩
        simp [Oper.looksAt, Op.operands, Call.operands, KnownAt, List.lookup, consD] at hk
        simp [execOp, Act.eval, hk, go_sem]
        all_goals rfl
      apply ga_val _ (fun L a' w' _ _ h => h.pure (by decide) _ _)
      · intro a' w' L hL haf hi hk
        refine ⟨wanted_none rfl, ?_⟩
        simp [Oper.looksAt, Op.operands, Call.operands, KnownAt, List.lookup, consD] at hk
        simp [execOp, Act.eval, hk, go_sem]
        all_goals rfl
      refine ga_val (.slice (some ⟨q, 0, none⟩) n n) (fun L a' w' _ _ h => h.pure (by decide) _ _) ?_ ?_
      · intro a' w' L hL haf hi hk
        refine ⟨wanted_none rfl, ?_⟩
        have hq := (HB.out.grown hi.1 (by have := HQ.out; simp; omega)).cell (i := 2) rfl
        simp [Oper.looksAt, Op.operands, Call.operands, KnownAt, List.lookup, consD] at hk
        simp [execOp, Act.eval, hk, go_sem, hq]
        all_goals rfl
      apply ga_val _ (fun L a' w' _ _ h => h.pure (by decide) _ _)
      · intro a' w' L hL haf hi hk
        refine ⟨wanted_none rfl, ?_⟩
        simp [Oper.looksAt, Op.operands, Call.operands, KnownAt, List.lookup, consD] at hk
        simp [execOp, Act.eval, hk, go_sem]
        all_goals rfl
      apply ga_val _ (fun L a' w' _ _ h => h.pure (by decide) _ _)
      · intro a' w' L hL haf hi hk
        refine ⟨wanted_none rfl, ?_⟩
        simp [Oper.looksAt, Op.operands, Call.operands, KnownAt, List.lookup, consD] at hk
        simp [execOp, Act.eval, hk, go_sem]
        all_goals rfl
      apply ga_val _ (fun L a' w' _ _ h => h.pure (by decide) _ _)
      · intro a' w' L hL haf hi hk
        refine ⟨wanted_none rfl, ?_⟩
        simp [Oper.looksAt, Op.operands, Call.operands, KnownAt, List.lookup, consD] at hk
        simp [execOp, Act.eval, hk, go_sem]
        all_goals rfl
      refine ga_val (.int .i64 (k : Int)) (fun L a' w' _ _ h => h.pure (by decide) _ _) ?_ ?_
      · intro a' w' L hL haf hi hk
        refine ⟨wanted_none rfl, ?_⟩
        have hq := (HB.out.grown hi.1 (by have := HQ.out; simp; omega)).cell (i := 3) rfl
        simp [Oper.looksAt, Op.operands, Call.operands, KnownAt, List.lookup, consD] at hk
        simp [execOp, Act.eval, hk, go_sem, hq]
        all_goals rfl
      apply ga_val _ (fun L a' w' _ _ h => h.pure (by decide) _ _)
      · intro a' w' L hL haf hi hk
        refine ⟨wanted_none rfl, ?_⟩
        simp [Oper.looksAt, Op.operands, Call.operands, KnownAt, List.lookup, consD] at hk
        simp [execOp, Act.eval, hk, go_sem]
        all_goals rfl
      apply ga_val _ (fun L a' w' _ _ h => h.pure (by decide) _ _)
      · intro a' w' L hL haf hi hk
        refine ⟨wanted_none rfl, ?_⟩
        simp [Oper.looksAt, Op.operands, Call.operands, KnownAt, List.lookup, consD] at hk
        simp [execOp, Act.eval, hk, go_sem]
        all_goals rfl
      apply ga_val _ (fun L a' w' _ _ h => h.pure (by decide) _ _)
      · intro a' w' L hL haf hi hk
        refine ⟨wanted_none rfl, ?_⟩
        simp [Oper.looksAt, Op.operands, Call.operands, KnownAt, List.lookup, consD] at hk
        simp [execOp, Act.eval, hk, go_sem]
        all_goals rfl
      refine ga_val (.map (some m)) (fun L a' w' _ _ h => h.pure (by decide) _ _) ?_ ?_
      · intro a' w' L hL haf hi hk
        refine ⟨wanted_none rfl, ?_⟩
        have hq := (HB.out.grown hi.1 (by have := HQ.out; simp; omega)).cell (i := 1) rfl
        simp [Oper.looksAt, Op.operands, Call.operands, KnownAt, List.lookup, consD] at hk
        simp [execOp, Act.eval, hk, go_sem, hq]
        all_goals rfl
      refine ga_val (.agg #[.int .u8 (x.toNat : Int), .int .u8 (y.toNat : Int), .int .u8 (z.toNat : Int)]) (fun L a' w' _ _ h => h.pure (by decide) _ _) ?_ ?_
      · intro a' w' L hL haf hi hk
        refine ⟨wanted_none rfl, ?_⟩
        have hkb := HK.out.grown hi.1 (by have := HQ.out; simp; omega)
        have h0 := hkb.cell (i := 0) rfl
        have h1 := hkb.cell (i := 1) rfl
        have h2 := hkb.cell (i := 2) rfl
        simp [Oper.looksAt, Op.operands, Call.operands, KnownAt, List.lookup, consD] at hk
        simp [execOp, Act.eval, hk, go_sem, h0, h1, h2]
        all_goals rfl
      refine ga_val (.int .i64 (lastOf l k x y z : Int)) (fun L a' w' _ _ h => h.pure (by decide) _ _) ?_ ?_
      · intro a' w' L hL haf hi hk
        refine ⟨wanted_none rfl, ?_⟩
        have hq := (HM.out.kept hi.1 (by have := HQ.out; simp; omega)).look x y z
        unfold kV bE at hq
        simp [Oper.looksAt, Op.operands, Call.operands, KnownAt, List.lookup, consD] at hk
        simp [execOp, Act.eval, hk, go_sem, hq]
        all_goals rfl
      refine ga_val (.pointer (some ⟨q, k, none⟩)) (fun L a' w' _ _ h => h.pure (by decide) _ _) ?_ ?_
      · intro a' w' L hL haf hi hk
        refine ⟨wanted_none rfl, ?_⟩
        simp [Oper.looksAt, Op.operands, Call.operands, KnownAt, List.lookup, consD] at hk
        simp [execOp, Act.eval, hk, go_sem, hkn, hki]
        all_goals rfl
      refine ga_op (fun _ _ => True) monoT_any ?_ ?_
      · intro a' w' L hsz hL haf hi hk
        have hw := hi.2.1 hL
        subst hw
        refine ⟨wanted_none rfl, ?_⟩
        obtain ⟨hfr, vq, hcl⟩ := HFR.out
        simp [Oper.looksAt, Op.operands, Call.operands, KnownAt, List.lookup, consD] at hk
        unfold Oper.wp
        simp [execOp, Act.eval, hk, hfr, hcl, go_sem, Oper.upon, Result.andThen]
        exact hi.done (grownBy_setCell _ _ _) rfl none undef
      intro vs w' L hall hi hval
      have hw := hi.2.2 (hall 15 (by decide))
      subst hw
      simp only [consD, putAllS, Act.put]
      simp only [List.setIfInBounds_toArray, List.set_cons_succ, List.set_cons_zero]
      clear hi hval hall hw3
      have hg3 := grownBy_setCell w3 ⟨q, k, none⟩ (.int .i64 (lastOf l k x y z : Int))
      have HB4 := Lib.hid (HB.out.grown hg3 (by have := HQ.out; simp; omega))
      have HM4 := Lib.hid (HM.out.kept hg3 (by have := HQ.out; simp; omega))
      have HK4 := Lib.hid (HK.out.grown hg3 (by simp; omega))
      have HO4 : Hid (Own (w3.setCell ⟨q, k, none⟩ (.int .i64 (lastOf l k x y z : Int))) w0.heap.size 3 iR (some ⟨q, 0, none⟩) n n (prevL l n (k + 1))) := Lib.hid (by
        have := HO.out.set k hkn (lastOf l k x y z : Int)
        rw [HPV.out, prevL_set] at this
        rw [HPV.out]; exact this)
      have HW4 := Lib.hid (And.intro (HW.out.1.grown hg3 (Nat.le_trans HW.out.1.size (Nat.le_refl _)) (fun j hj => by simp at hj; omega)) (HW.out.2.trans (TokKeep.grown hg3 (nok_int HO.out))))
      clear hg3 HB HM HK HO HW HFR HPV
      generalize w3.setCell ⟨q, k, none⟩ (.int .i64 (lastOf l k x y z : Int)) = w4 at HB4 HM4 HK4 HO4 HW4 ⊢
      go_wp2
      obtain ⟨w5, hw5⟩ : ∃ x, w4.drew = x := ⟨_, rfl⟩
      have HB : Hid (Blk w5 g CT #[.slice (some ⟨b, off, none⟩) n c, .map (some m), .slice (some ⟨q, 0, none⟩) n n, .int .i64 (k : Int)]) := Lib.hid (by rw [← hw5]; exact HB4.out)
      have HO : Hid (Own w5 w0.heap.size 3 iR (some ⟨q, 0, none⟩) n n (prevL l n (k + 1))) := Lib.hid (by rw [← hw5]; exact HO4.out.drew)
      have HM : Hid (MapOf w5 m k (lastOf l k)) := Lib.hid (by rw [← hw5]; exact HM4.out)
      have HW : Hid (Below w0.heap.size w0 w5 ∧ TokKeep w w5) := Lib.hid (by rw [← hw5]; exact ⟨HW4.out.1.drew, HW4.out.2⟩)
      have HK : Hid (Blk w5 q4 KT #[.int .u8 (x.toNat : Int), .int .u8 (y.toNat : Int), .int .u8 (z.toNat : Int)]) := Lib.hid (by rw [← hw5]; exact HK4.out)
      clear HB4 HM4 HK4 HO4 HW4
      refine wp_region_growA TS (IT w5 10 m (fun w' => MapOf w' m (k + 1) (lastOf l (k + 1)))) (by kernel_rfl) (by kernel_rfl) (by rfl) (by rw [hw5]; exact IT.start _) ?_
      apply ga_val _ (fun L a' w' _ _ h => h.pure (by decide) _ _)
      · intro a' w' L hL haf hi hk
        refine ⟨wanted_none rfl, ?_⟩
        simp [Oper.looksAt, Op.operands, Call.operands, KnownAt, List.lookup, consD] at hk
        simp [execOp, Act.eval, hk, go_sem]
        all_goals rfl
      apply ga_val _ (fun L a' w' _ _ h => h.pure (by decide) _ _)
      · intro a' w' L hL haf hi hk
        refine ⟨wanted_none rfl, ?_⟩
        simp [Oper.looksAt, Op.operands, Call.operands, KnownAt, List.lookup, consD] at hk
        simp [execOp, Act.eval, hk, go_sem]
        all_goals rfl
      apply ga_val _ (fun L a' w' _ _ h => h.pure (by decide) _ _)
      · intro a' w' L hL haf hi hk
        refine ⟨wanted_none rfl, ?_⟩
        simp [Oper.looksAt, Op.operands, Call.operands, KnownAt, List.lookup, consD] at hk
        simp [execOp, Act.eval, hk, go_sem]
        all_goals rfl
      refine ga_val (.map (some m)) (fun L a' w' _ _ h => h.pure (by decide) _ _) ?_ ?_
      · intro a' w' L hL haf hi hk
        refine ⟨wanted_none rfl, ?_⟩
        have hq := (HB.out.grown hi.1 (by simp; omega)).cell (i := 1) rfl
        simp [Oper.looksAt, Op.operands, Call.operands, KnownAt, List.lookup, consD] at hk
        simp [execOp, Act.eval, hk, go_sem, hq]
        all_goals rfl
      refine ga_val (.agg #[.int .u8 (x.toNat : Int), .int .u8 (y.toNat : Int), .int .u8 (z.toNat : Int)]) (fun L a' w' _ _ h => h.pure (by decide) _ _) ?_ ?_
      · intro a' w' L hL haf hi hk
        refine ⟨wanted_none rfl, ?_⟩
        have hkb := HK.out.grown hi.1 (by simp; omega)
        have h0 := hkb.cell (i := 0) rfl
        have h1 := hkb.cell (i := 1) rfl
        have h2 := hkb.cell (i := 2) rfl
        simp [Oper.looksAt, Op.operands, Call.operands, KnownAt, List.lookup, consD] at hk
        simp [execOp, Act.eval, hk, go_sem, h0, h1, h2]
        all_goals rfl
      apply ga_val _ (fun L a' w' _ _ h => h.pure (by decide) _ _)
      · intro a' w' L hL haf hi hk
        refine ⟨wanted_none rfl, ?_⟩
        simp [Oper.looksAt, Op.operands, Call.operands, KnownAt, List.lookup, consD] at hk
        simp [execOp, Act.eval, hk, go_sem]
        all_goals rfl
      apply ga_val _ (fun L a' w' _ _ h => h.pure (by decide) _ _)
      · intro a' w' L hL haf hi hk
        refine ⟨wanted_none rfl, ?_⟩
        simp [Oper.looksAt, Op.operands, Call.operands, KnownAt, List.lookup, consD] at hk
        simp [execOp, Act.eval, hk, go_sem]
        all_goals rfl
      apply ga_val _ (fun L a' w' _ _ h => h.pure (by decide) _ _)
      · intro a' w' L hL haf hi hk
        refine ⟨wanted_none rfl, ?_⟩
        simp [Oper.looksAt, Op.operands, Call.operands, KnownAt, List.lookup, consD] at hk
        simp [execOp, Act.eval, hk, go_sem]
        all_goals rfl
      refine ga_val (.int .i64 (k : Int)) (fun L a' w' _ _ h => h.pure (by decide) _ _) ?_ ?_
      · intro a' w' L hL haf hi hk
        refine ⟨wanted_none rfl, ?_⟩
        have hq := (HB.out.grown hi.1 (by simp; omega)).cell (i := 3) rfl
        simp [Oper.looksAt, Op.operands, Call.operands, KnownAt, List.lookup, consD] at hk
        simp [execOp, Act.eval, hk, go_sem, hq]
        all_goals rfl
      refine ga_val (.int .i64 ((k : Int) + 1)) (fun L a' w' _ _ h => h.pure (by decide) _ _) ?_ ?_
      · intro a' w' L hL haf hi hk
        refine ⟨wanted_none rfl, ?_⟩
        have hw : IntKind.i64.wrap ((k : Int) + 1) = (k : Int) + 1 := IntWalk.i64_in _ (by omega)
        simp [Oper.looksAt, Op.operands, Call.operands, KnownAt, List.lookup, consD] at hk
        simp [execOp, Act.eval, hk, go_sem, hw]
        all_goals rfl
      refine ga_op (fun _ _ => True) monoT_any ?_ ?_
      · intro a' w' L hsz hL haf hi hk
        have hw := hi.2.1 hL
        subst hw
        refine ⟨wanted_none rfl, ?_⟩
        obtain ⟨w6, hrun, hm6, hg6⟩ := HM.out.put (by unfold maxLen; omega) x y z (k + 1) (by omega)
        have hm6' : MapOf w6 m (k + 1) (lastOf l (k + 1)) := by
          obtain ⟨D, h1, h2⟩ := hm6
          exact ⟨D, h1, fun x' y' z' kl hkl => (h2 x' y' z' kl hkl).trans (by show DataW.lit (Lit.int .i64 (((if x' = x ∧ y' = y ∧ z' = z then k + 1 else lastOf l k x' y' z') : Nat) : Int)) = _; rw [HF.out x' y' z'])⟩
        unfold kV bE at hrun
        rw [show ((k + 1 : Nat) : Int) = (k : Int) + 1 from by omega] at hrun
        simp [Oper.looksAt, Op.operands, Call.operands, KnownAt, List.lookup, consD] at hk
        unfold Oper.wp
        simp [execOp, Act.eval, hk, hrun, go_sem, Oper.upon, Result.andThen]
        exact hi.done hg6 hm6' none undef
      intro vs w' L hall hi hval
      have hm6 := hi.2.2 (hall 10 (by decide))
      have hg6 := hi.1
      simp only [consD, putAllS, Act.put]
      simp only [List.setIfInBounds_toArray, List.set_cons_succ, List.set_cons_zero]
      have HB6 := HB.out.grown hg6 (by simp; omega)
      have HO6 := HO.out.grown hg6 (fun q' hq' => by simp at hq'; subst hq'; have := HQ.out; simp; omega)
      have HW6 := HW.out.1.grown hg6 HW.out.1.size (fun j hj => by simp at hj; omega)
      have HT6 := HW.out.2.trans (TokKeep.grown hg6 (nok_map HM.out))
      clear hi hval hall hw5 hg6 HB HO HM HK HW
      have c3 := HB6.cell (i := 3) rfl
      have f3 := HB6.frozen 3
      have hb7 := HB6.setCell 3 (.int .i64 ((k : Int) + 1))
      have hg7 := grownBy_setCell w' ⟨g, 3, none⟩ (.int .i64 ((k : Int) + 1))
      have HF7 : Hid (Chn (w'.setCell ⟨g, 3, none⟩ (.int .i64 ((k : Int) + 1))) w0.heap.size g l (some ⟨b, off, none⟩) n c (k + 1) ∧ Below w0.heap.size w0 (w'.setCell ⟨g, 3, none⟩ (.int .i64 ((k : Int) + 1))) ∧ TokKeep w (w'.setCell ⟨g, 3, none⟩ (.int .i64 ((k : Int) + 1)))) := Lib.hid (by
        refine ⟨⟨m, some ⟨q, 0, none⟩, hb7, HO6.grown hg7 (fun q' hq' => by simp at hq'; subst hq'; have := HQ.out; simp; omega), hm6.kept hg7 (by simp; omega), hm, hg, hmg, fun q' hq' => by simp at hq'; subst hq'; exact HQ.out⟩, HW6.grown hg7 HW6.size (fun j hj => by simp at hj; omega), HT6.trans (TokKeep.grown hg7 (nok_blk HB6))⟩)
      have HC7 : Hid (cntC g (w'.setCell ⟨g, 3, none⟩ (.int .i64 ((k : Int) + 1))) = k + 1) := Lib.hid (cntC_eq (k := k + 1) hb7 rfl)
      clear HB6 HO6 HW6 HT6 hb7 hg7 hm6
      go_wp2
      go_roundw
      case rel => exact ⟨k + 1, by omega, HF7.out⟩
      case measure => rw [HC7.out, HCNT.out]; omega
    · have hka : k = at_ := by omega
      have hd1 : decide ((k : Int) < at_) = false := decide_eq_false (by omega)
      subst hka
      have HF : Hid (∀ kd, Chn (wr.drewN kd) w0.heap.size g l a n c k ∧ Below w0.heap.size w0 (wr.drewN kd) ∧ TokKeep w (wr.drewN kd)) := Lib.hid (fun kd => ⟨⟨m, pq, hblk, hprev, hmap, hm, hg, hmg, hq⟩, hB.trans ⟨rfl, rfl, rfl, Nat.le_refl _, fun _ _ => rfl⟩, hT⟩)
      clear hblk hprev hmap hB hT
      go_wp2
      go_quiet (fail)
      go_wp2
      go_end0
      exact ⟨rfl, HF.out _⟩
end Go.Proofs.Ytnfdbljeinlblaa
