/- PoolOrder walked. -/
import Derived.Test.YtbknkahakmfhkaaPooX
namespace Go.Proofs.Ytbknkahakmfhkaa
open Go.RowKit
set_option linter.unusedVariables false
set_option linter.unusedSimpArgs false

/-- What the two comparisons are. -/
structure OrdF (e : Bool) (n m : Int) (x y : Bool) : Prop where
  nx : decide (n < 0) = x
  my : decide (m < 0) = y
  n0 : (n == 0) = e
  m0 : (m == 0) = e
theorem ordF (a b : ValK) (e : Bool) (he : e = true ↔ a = b) : OrdF e (cmpK a b) (cmpK b a) (lessK a b) (lessK b a) := by
  have h1 := cmpK_law a b
  have h2 := cmpK_law b a
  refine ⟨?_, ?_, ?_, ?_⟩
  · cases hx : lessK a b <;> simp [h1.1, hx]
  · cases hx : lessK b a <;> simp [h2.1, hx]
  · cases e
    · have : ¬ a = b := fun h => by have := he.2 h; cases this
      simpa [h1.2] using this
    · simpa [h1.2] using he.1 rfl
  · cases e
    · have : ¬ a = b := fun h => by have := he.2 h; cases this
      have h3 : ¬ b = a := fun h => this h.symm
      simpa [h2.2] using h3
    · simpa [h2.2] using (he.1 rfl).symm
theorem wide_eq (t : Int) : (wideT t == (t == 5 || t == 6)) = true := by unfold wideT; simp
set_option maxRecDepth 100000 in
set_option maxHeartbeats 16000000 in
theorem order_tail (e : Bool) (n m : Int) (x y : Bool) (h : OrdF e n m x y) : True := trivial
set_option maxRecDepth 100000 in
set_option maxHeartbeats 16000000 in
theorem walkPoolOrder (a b : ValK) (tag : Int) (w : World) (ha : a.Ok) (hb : b.Ok) (ht : -9223372036854775808 ≤ tag ∧ tag ≤ 9223372036854775807) : Calls Try.prog 11 #[.agg a.arr, .agg b.arr, .int .i64 tag] w fun e w' => e = .returned (.bool true) ∧ Below w.heap.size w w' := by
  have mixed : Try.prog.follows .mixedOrders = true := by kernel_rfl
  have HA : Hid (Blk ((w.alloc (.cells a.arr VAL)).alloc (.cells b.arr VAL)) w.heap.size VAL a.arr) := Lib.hid ((Blk.new _ _ _).below (below_alloc _ _))
  have HB : Hid (Blk ((w.alloc (.cells a.arr VAL)).alloc (.cells b.arr VAL)) (w.heap.size + 1) VAL b.arr) := Lib.hid (by
    have := Blk.new (w.alloc (.cells a.arr VAL)) VAL b.arr
    rwa [show (w.alloc (.cells a.arr VAL)).heap.size = w.heap.size + 1 by simp] at this)
  have HW : Hid (Below w.heap.size w ((w.alloc (.cells a.arr VAL)).alloc (.cells b.arr VAL))) := Lib.hid ((below_alloc _ _).alloc (below_alloc _ _).size _)
  have HC1 : Hid (∀ w', Calls Try.prog 48 #[.agg a.arr, .agg b.arr] w' fun e w'' => e = .returned (.int .i64 (cmpK a b)) ∧ Below w'.heap.size w' w'') := Lib.hid (compare_any a b)
  have HC2 : Hid (∀ w', Calls Try.prog 48 #[.agg b.arr, .agg a.arr] w' fun e w'' => e = .returned (.int .i64 (cmpK b a)) ∧ Below w'.heap.size w' w'') := Lib.hid (compare_any b a)
  have HL1 : Hid (∀ w', Calls Try.prog 49 #[.agg a.arr, .agg b.arr] w' fun e w'' => e = .returned (.bool (lessK a b)) ∧ Below w'.heap.size w' w'') := Lib.hid (less_any a b)
  have HL2 : Hid (∀ w', Calls Try.prog 49 #[.agg b.arr, .agg a.arr] w' fun e w'' => e = .returned (.bool (lessK b a)) ∧ Below w'.heap.size w' w'') := Lib.hid (less_any b a)
  have HO : Hid (∀ e : Bool, (e = true ↔ a = b) → OrdF e (cmpK a b) (cmpK b a) (lessK a b) (lessK b a)) := Lib.hid (ordF a b)
  generalize cmpK a b = n at *
  generalize cmpK b a = m at *
  generalize lessK a b = x at *
  generalize lessK b a = y at *
  clear ha hb ht
  obtain ⟨t, s, bi, cl, nm, ds⟩ := a
  obtain ⟨t', s', bi', cl', nm', ds'⟩ := b
  simp only [ValK.arr, ValK.mk.injEq] at HA HB HW HC1 HC2 HL1 HL2 HO ⊢
  go_enter Try.func11, Try.ntmps11
  go_wp2_with fail
  obtain ⟨w2, hw2⟩ : ∃ w2, w2 = ((w.alloc (.cells #[.int .i64 t, .string s, .int .u64 bi, .string cl, .string nm, .string ds] VAL)).alloc (.cells #[.int .i64 t', .string s', .int .u64 bi', .string cl', .string nm', .string ds'] VAL)) := ⟨_, rfl⟩
  obtain ⟨o2, ho2⟩ : ∃ o, o = w.heap.size := ⟨_, rfl⟩
  obtain ⟨o3, ho3⟩ : ∃ o, o = w.heap.size + 1 := ⟨_, rfl⟩
  have HA2 : Hid (Blk w2 o2 VAL #[.int .i64 t, .string s, .int .u64 bi, .string cl, .string nm, .string ds]) := Lib.hid (by rw [hw2, ho2]; exact HA.out)
  have HB2 : Hid (Blk w2 o3 VAL #[.int .i64 t', .string s', .int .u64 bi', .string cl', .string nm', .string ds']) := Lib.hid (by rw [hw2, ho3]; exact HB.out)
  have HW2 : Hid (Below w.heap.size w w2) := Lib.hid (by rw [hw2]; exact HW.out)
  rw [← hw2, ← ho3, ← ho2]
  clear hw2 ho2 ho3 HA HB HW
  refine (fixed16_any w2).mono ?_
  rintro e w3 ⟨rfl, hb3⟩
  have HA3 := Lib.hid (HA2.out.below hb3)
  have HB3 := Lib.hid (HB2.out.below hb3)
  have HW3 := Lib.hid (HW2.out.trans (hb3.mono HW2.out.size))
  clear hb3 HA2 HB2 HW2
  go_wp2_with fail
  refine wp_region_grow (by kernel_rfl) (by kernel_rfl) (by rfl) ?_
  refine gw_valB (fun v _ => v = (.agg #[.int .i64 t, .string s, .int .u64 bi, .string cl, .string nm, .string ds])) (mono_eq _) ?_ ?_
  · intro a' w' hb' hk
    refine ⟨wanted_none rfl, _, ?_, rfl⟩
    have hc0 := ((Blk.drew HA3.out).below hb').cell (i := 0) rfl
    have hc1 := ((Blk.drew HA3.out).below hb').cell (i := 1) rfl
    have hc2 := ((Blk.drew HA3.out).below hb').cell (i := 2) rfl
    have hc3 := ((Blk.drew HA3.out).below hb').cell (i := 3) rfl
    have hc4 := ((Blk.drew HA3.out).below hb').cell (i := 4) rfl
    have hc5 := ((Blk.drew HA3.out).below hb').cell (i := 5) rfl
    simp [Oper.looksAt, Op.operands, Call.operands, KnownAt, List.lookup, consD] at hk
    simp [execOp, Act.eval, hk, hc0, hc1, hc2, hc3, hc4, hc5, go_sem]
    all_goals rfl
  refine gw_valB (fun v _ => v = (.agg #[.int .i64 t', .string s', .int .u64 bi', .string cl', .string nm', .string ds'])) (mono_eq _) ?_ ?_
  · intro a' w' hb' hk
    refine ⟨wanted_none rfl, _, ?_, rfl⟩
    have hc0 := ((Blk.drew HB3.out).below hb').cell (i := 0) rfl
    have hc1 := ((Blk.drew HB3.out).below hb').cell (i := 1) rfl
    have hc2 := ((Blk.drew HB3.out).below hb').cell (i := 2) rfl
    have hc3 := ((Blk.drew HB3.out).below hb').cell (i := 3) rfl
    have hc4 := ((Blk.drew HB3.out).below hb').cell (i := 4) rfl
    have hc5 := ((Blk.drew HB3.out).below hb').cell (i := 5) rfl
    simp [Oper.looksAt, Op.operands, Call.operands, KnownAt, List.lookup, consD] at hk
    simp [execOp, Act.eval, hk, hc0, hc1, hc2, hc3, hc4, hc5, go_sem]
    all_goals rfl
  refine gw_call _ _ (fun v _ => v = .int .i64 n) (mono_eq _) (fun a' w' hk => ?_) (fun w' hb => (HC1.out w').mono ?_) ?_
  · refine ⟨wanted_none rfl, ?_⟩
    simp [Oper.looksAt, Op.operands, Call.operands, KnownAt, List.lookup, consD] at hk
    simp [execOp, Act.eval, hk, go_sem]
    all_goals rfl
  · rintro e w'' ⟨rfl, hB⟩
    exact ⟨_, rfl, rfl, hB⟩
  refine gw_valB (fun v _ => v = (.agg #[.int .i64 t', .string s', .int .u64 bi', .string cl', .string nm', .string ds'])) (mono_eq _) ?_ ?_
  · intro a' w' hb' hk
    refine ⟨wanted_none rfl, _, ?_, rfl⟩
    have hc0 := ((Blk.drew HB3.out).below hb').cell (i := 0) rfl
    have hc1 := ((Blk.drew HB3.out).below hb').cell (i := 1) rfl
    have hc2 := ((Blk.drew HB3.out).below hb').cell (i := 2) rfl
    have hc3 := ((Blk.drew HB3.out).below hb').cell (i := 3) rfl
    have hc4 := ((Blk.drew HB3.out).below hb').cell (i := 4) rfl
    have hc5 := ((Blk.drew HB3.out).below hb').cell (i := 5) rfl
    simp [Oper.looksAt, Op.operands, Call.operands, KnownAt, List.lookup, consD] at hk
    simp [execOp, Act.eval, hk, hc0, hc1, hc2, hc3, hc4, hc5, go_sem]
    all_goals rfl
  refine gw_valB (fun v _ => v = (.agg #[.int .i64 t, .string s, .int .u64 bi, .string cl, .string nm, .string ds])) (mono_eq _) ?_ ?_
  · intro a' w' hb' hk
    refine ⟨wanted_none rfl, _, ?_, rfl⟩
    have hc0 := ((Blk.drew HA3.out).below hb').cell (i := 0) rfl
    have hc1 := ((Blk.drew HA3.out).below hb').cell (i := 1) rfl
    have hc2 := ((Blk.drew HA3.out).below hb').cell (i := 2) rfl
    have hc3 := ((Blk.drew HA3.out).below hb').cell (i := 3) rfl
    have hc4 := ((Blk.drew HA3.out).below hb').cell (i := 4) rfl
    have hc5 := ((Blk.drew HA3.out).below hb').cell (i := 5) rfl
    simp [Oper.looksAt, Op.operands, Call.operands, KnownAt, List.lookup, consD] at hk
    simp [execOp, Act.eval, hk, hc0, hc1, hc2, hc3, hc4, hc5, go_sem]
    all_goals rfl
  refine gw_call _ _ (fun v _ => v = .int .i64 m) (mono_eq _) (fun a' w' hk => ?_) (fun w' hb => (HC2.out w').mono ?_) ?_
  · refine ⟨wanted_none rfl, ?_⟩
    simp [Oper.looksAt, Op.operands, Call.operands, KnownAt, List.lookup, consD] at hk
    simp [execOp, Act.eval, hk, go_sem]
    all_goals rfl
  · rintro e w'' ⟨rfl, hB⟩
    exact ⟨_, rfl, rfl, hB⟩
  apply gw_val
  · intro a' w' hk
    refine ⟨wanted_none rfl, ?_⟩
    simp [Oper.looksAt, Op.operands, Call.operands, KnownAt, List.lookup, consD] at hk
    simp [execOp, Act.eval, hk, go_sem]
    all_goals rfl
  apply gw_val
  · intro a' w' hk
    refine ⟨wanted_none rfl, ?_⟩
    simp [Oper.looksAt, Op.operands, Call.operands, KnownAt, List.lookup, consD] at hk
    simp [execOp, Act.eval, hk, go_sem]
    all_goals rfl
  intro vs w8 hb8 hall
  simp only [AllS, consD] at hall
  simp only [consD, putAllS, Act.put]
  obtain ⟨h8, h7, -⟩ := hall
  rw [h8, h7]
  simp only [List.setIfInBounds_toArray, List.set_cons_succ, List.set_cons_zero]
  have hb38 : Below w3.heap.size w3 w8 := ((Below.refl w3.heap.size w3).drew).trans hb8
  have HA8 := Lib.hid (HA3.out.below hb38)
  have HB8 := Lib.hid (HB3.out.below hb38)
  have HW8 := Lib.hid (HW3.out.trans (hb38.mono HW3.out.size))
  clear hb8 hb38 HA3 HB3 HW3 h8 h7 HC1 HC2
  by_cases h0 : t = t'
  · subst h0
    by_cases h1 : s = s'
    · subst h1
      by_cases h2 : bi = bi'
      · subst h2
        by_cases h3 : cl = cl'
        · subst h3
          by_cases h4 : nm = nm'
          · subst h4
            by_cases h5 : ds = ds'
            · subst h5
              have HF := Lib.hid (HO.out true (by simp))
              have gn := HF.out.n0
              have gm := HF.out.m0
              cases x with
              | true =>
                have gx : n < 0 := of_decide_eq_true HF.out.nx; have gxd : decide (n < 0) = true := HF.out.nx
                cases y with
                | true =>
                  have gy : m < 0 := of_decide_eq_true HF.out.my; have gyd : decide (m < 0) = true := HF.out.my
                  have c0 : w8.cell? ⟨o2, 0, none⟩ = some (.int .i64 t) := HA8.out.cell (i := 0) rfl
                  have d0 : w8.cell? ⟨o3, 0, none⟩ = some (.int .i64 t) := HB8.out.cell (i := 0) rfl
                  have c1 : w8.cell? ⟨o2, 1, none⟩ = some (.string s) := HA8.out.cell (i := 1) rfl
                  have d1 : w8.cell? ⟨o3, 1, none⟩ = some (.string s) := HB8.out.cell (i := 1) rfl
                  have c2 : w8.cell? ⟨o2, 2, none⟩ = some (.int .u64 bi) := HA8.out.cell (i := 2) rfl
                  have d2 : w8.cell? ⟨o3, 2, none⟩ = some (.int .u64 bi) := HB8.out.cell (i := 2) rfl
                  have c3 : w8.cell? ⟨o2, 3, none⟩ = some (.string cl) := HA8.out.cell (i := 3) rfl
                  have d3 : w8.cell? ⟨o3, 3, none⟩ = some (.string cl) := HB8.out.cell (i := 3) rfl
                  have c4 : w8.cell? ⟨o2, 4, none⟩ = some (.string nm) := HA8.out.cell (i := 4) rfl
                  have d4 : w8.cell? ⟨o3, 4, none⟩ = some (.string nm) := HB8.out.cell (i := 4) rfl
                  have c5 : w8.cell? ⟨o2, 5, none⟩ = some (.string ds) := HA8.out.cell (i := 5) rfl
                  have d5 : w8.cell? ⟨o3, 5, none⟩ = some (.string ds) := HB8.out.cell (i := 5) rfl
                  go_wp2_with fail
                  refine (HL1.out w8).mono ?_
                  rintro e w9 ⟨rfl, hb9⟩
                  have HA9 := Lib.hid (HA8.out.below hb9)
                  have HB9 := Lib.hid (HB8.out.below hb9)
                  have HW9 := Lib.hid (HW8.out.trans (hb9.mono HW8.out.size))
                  clear hb9 c0 c1 c2 c3 c4 c5 d0 d1 d2 d3 d4 d5 HA8 HB8 HW8
                  have c0 : w9.cell? ⟨o2, 0, none⟩ = some (.int .i64 t) := HA9.out.cell (i := 0) rfl
                  have d0 : w9.cell? ⟨o3, 0, none⟩ = some (.int .i64 t) := HB9.out.cell (i := 0) rfl
                  have c1 : w9.cell? ⟨o2, 1, none⟩ = some (.string s) := HA9.out.cell (i := 1) rfl
                  have d1 : w9.cell? ⟨o3, 1, none⟩ = some (.string s) := HB9.out.cell (i := 1) rfl
                  have c2 : w9.cell? ⟨o2, 2, none⟩ = some (.int .u64 bi) := HA9.out.cell (i := 2) rfl
                  have d2 : w9.cell? ⟨o3, 2, none⟩ = some (.int .u64 bi) := HB9.out.cell (i := 2) rfl
                  have c3 : w9.cell? ⟨o2, 3, none⟩ = some (.string cl) := HA9.out.cell (i := 3) rfl
                  have d3 : w9.cell? ⟨o3, 3, none⟩ = some (.string cl) := HB9.out.cell (i := 3) rfl
                  have c4 : w9.cell? ⟨o2, 4, none⟩ = some (.string nm) := HA9.out.cell (i := 4) rfl
                  have d4 : w9.cell? ⟨o3, 4, none⟩ = some (.string nm) := HB9.out.cell (i := 4) rfl
                  have c5 : w9.cell? ⟨o2, 5, none⟩ = some (.string ds) := HA9.out.cell (i := 5) rfl
                  have d5 : w9.cell? ⟨o3, 5, none⟩ = some (.string ds) := HB9.out.cell (i := 5) rfl
                  go_wp2_with fail
                  refine (HL2.out w9).mono ?_
                  rintro e w10 ⟨rfl, hb10⟩
                  have HA10 := Lib.hid (HA9.out.below hb10)
                  have HB10 := Lib.hid (HB9.out.below hb10)
                  have HW10 := Lib.hid (HW9.out.trans (hb10.mono HW9.out.size))
                  clear hb10 c0 c1 c2 c3 c4 c5 d0 d1 d2 d3 d4 d5 HA9 HB9 HW9
                  have c0 : w10.cell? ⟨o2, 0, none⟩ = some (.int .i64 t) := HA10.out.cell (i := 0) rfl
                  have d0 : w10.cell? ⟨o3, 0, none⟩ = some (.int .i64 t) := HB10.out.cell (i := 0) rfl
                  have c1 : w10.cell? ⟨o2, 1, none⟩ = some (.string s) := HA10.out.cell (i := 1) rfl
                  have d1 : w10.cell? ⟨o3, 1, none⟩ = some (.string s) := HB10.out.cell (i := 1) rfl
                  have c2 : w10.cell? ⟨o2, 2, none⟩ = some (.int .u64 bi) := HA10.out.cell (i := 2) rfl
                  have d2 : w10.cell? ⟨o3, 2, none⟩ = some (.int .u64 bi) := HB10.out.cell (i := 2) rfl
                  have c3 : w10.cell? ⟨o2, 3, none⟩ = some (.string cl) := HA10.out.cell (i := 3) rfl
                  have d3 : w10.cell? ⟨o3, 3, none⟩ = some (.string cl) := HB10.out.cell (i := 3) rfl
                  have c4 : w10.cell? ⟨o2, 4, none⟩ = some (.string nm) := HA10.out.cell (i := 4) rfl
                  have d4 : w10.cell? ⟨o3, 4, none⟩ = some (.string nm) := HB10.out.cell (i := 4) rfl
                  have c5 : w10.cell? ⟨o2, 5, none⟩ = some (.string ds) := HA10.out.cell (i := 5) rfl
                  have d5 : w10.cell? ⟨o3, 5, none⟩ = some (.string ds) := HB10.out.cell (i := 5) rfl
                  go_wp2_with fail
                  refine (wide_any tag w10).mono ?_
                  rintro e w11 ⟨rfl, hw11⟩
                  replace hw11 := hw11.symm
                  subst hw11
                  have HWD := Lib.hid (wide_eq tag)
                  unfold wideT
                  by_cases ht5 : tag = 5
                  · subst ht5
                    go_wp2_with fail
                    go_ret
                    exact ⟨rfl, HW10.out⟩
                  · have g5 : (tag == 5) = false := by simpa using ht5
                    by_cases ht6 : tag = 6
                    · subst ht6
                      go_wp2_with fail
                      go_ret
                      exact ⟨rfl, HW10.out⟩
                    · have g6 : (tag == 6) = false := by simpa using ht6
                      go_wp2_with fail
                      go_ret
                      exact ⟨rfl, HW10.out⟩
                | false =>
                  have gy : ¬ m < 0 := of_decide_eq_false HF.out.my; have gyd : decide (m < 0) = false := HF.out.my
                  have c0 : w8.cell? ⟨o2, 0, none⟩ = some (.int .i64 t) := HA8.out.cell (i := 0) rfl
                  have d0 : w8.cell? ⟨o3, 0, none⟩ = some (.int .i64 t) := HB8.out.cell (i := 0) rfl
                  have c1 : w8.cell? ⟨o2, 1, none⟩ = some (.string s) := HA8.out.cell (i := 1) rfl
                  have d1 : w8.cell? ⟨o3, 1, none⟩ = some (.string s) := HB8.out.cell (i := 1) rfl
                  have c2 : w8.cell? ⟨o2, 2, none⟩ = some (.int .u64 bi) := HA8.out.cell (i := 2) rfl
                  have d2 : w8.cell? ⟨o3, 2, none⟩ = some (.int .u64 bi) := HB8.out.cell (i := 2) rfl
                  have c3 : w8.cell? ⟨o2, 3, none⟩ = some (.string cl) := HA8.out.cell (i := 3) rfl
                  have d3 : w8.cell? ⟨o3, 3, none⟩ = some (.string cl) := HB8.out.cell (i := 3) rfl
                  have c4 : w8.cell? ⟨o2, 4, none⟩ = some (.string nm) := HA8.out.cell (i := 4) rfl
                  have d4 : w8.cell? ⟨o3, 4, none⟩ = some (.string nm) := HB8.out.cell (i := 4) rfl
                  have c5 : w8.cell? ⟨o2, 5, none⟩ = some (.string ds) := HA8.out.cell (i := 5) rfl
                  have d5 : w8.cell? ⟨o3, 5, none⟩ = some (.string ds) := HB8.out.cell (i := 5) rfl
                  go_wp2_with fail
                  refine (HL1.out w8).mono ?_
                  rintro e w9 ⟨rfl, hb9⟩
                  have HA9 := Lib.hid (HA8.out.below hb9)
                  have HB9 := Lib.hid (HB8.out.below hb9)
                  have HW9 := Lib.hid (HW8.out.trans (hb9.mono HW8.out.size))
                  clear hb9 c0 c1 c2 c3 c4 c5 d0 d1 d2 d3 d4 d5 HA8 HB8 HW8
                  have c0 : w9.cell? ⟨o2, 0, none⟩ = some (.int .i64 t) := HA9.out.cell (i := 0) rfl
                  have d0 : w9.cell? ⟨o3, 0, none⟩ = some (.int .i64 t) := HB9.out.cell (i := 0) rfl
                  have c1 : w9.cell? ⟨o2, 1, none⟩ = some (.string s) := HA9.out.cell (i := 1) rfl
                  have d1 : w9.cell? ⟨o3, 1, none⟩ = some (.string s) := HB9.out.cell (i := 1) rfl
                  have c2 : w9.cell? ⟨o2, 2, none⟩ = some (.int .u64 bi) := HA9.out.cell (i := 2) rfl
                  have d2 : w9.cell? ⟨o3, 2, none⟩ = some (.int .u64 bi) := HB9.out.cell (i := 2) rfl
                  have c3 : w9.cell? ⟨o2, 3, none⟩ = some (.string cl) := HA9.out.cell (i := 3) rfl
                  have d3 : w9.cell? ⟨o3, 3, none⟩ = some (.string cl) := HB9.out.cell (i := 3) rfl
                  have c4 : w9.cell? ⟨o2, 4, none⟩ = some (.string nm) := HA9.out.cell (i := 4) rfl
                  have d4 : w9.cell? ⟨o3, 4, none⟩ = some (.string nm) := HB9.out.cell (i := 4) rfl
                  have c5 : w9.cell? ⟨o2, 5, none⟩ = some (.string ds) := HA9.out.cell (i := 5) rfl
                  have d5 : w9.cell? ⟨o3, 5, none⟩ = some (.string ds) := HB9.out.cell (i := 5) rfl
                  go_wp2_with fail
                  refine (HL2.out w9).mono ?_
                  rintro e w10 ⟨rfl, hb10⟩
                  have HA10 := Lib.hid (HA9.out.below hb10)
                  have HB10 := Lib.hid (HB9.out.below hb10)
                  have HW10 := Lib.hid (HW9.out.trans (hb10.mono HW9.out.size))
                  clear hb10 c0 c1 c2 c3 c4 c5 d0 d1 d2 d3 d4 d5 HA9 HB9 HW9
                  have c0 : w10.cell? ⟨o2, 0, none⟩ = some (.int .i64 t) := HA10.out.cell (i := 0) rfl
                  have d0 : w10.cell? ⟨o3, 0, none⟩ = some (.int .i64 t) := HB10.out.cell (i := 0) rfl
                  have c1 : w10.cell? ⟨o2, 1, none⟩ = some (.string s) := HA10.out.cell (i := 1) rfl
                  have d1 : w10.cell? ⟨o3, 1, none⟩ = some (.string s) := HB10.out.cell (i := 1) rfl
                  have c2 : w10.cell? ⟨o2, 2, none⟩ = some (.int .u64 bi) := HA10.out.cell (i := 2) rfl
                  have d2 : w10.cell? ⟨o3, 2, none⟩ = some (.int .u64 bi) := HB10.out.cell (i := 2) rfl
                  have c3 : w10.cell? ⟨o2, 3, none⟩ = some (.string cl) := HA10.out.cell (i := 3) rfl
                  have d3 : w10.cell? ⟨o3, 3, none⟩ = some (.string cl) := HB10.out.cell (i := 3) rfl
                  have c4 : w10.cell? ⟨o2, 4, none⟩ = some (.string nm) := HA10.out.cell (i := 4) rfl
                  have d4 : w10.cell? ⟨o3, 4, none⟩ = some (.string nm) := HB10.out.cell (i := 4) rfl
                  have c5 : w10.cell? ⟨o2, 5, none⟩ = some (.string ds) := HA10.out.cell (i := 5) rfl
                  have d5 : w10.cell? ⟨o3, 5, none⟩ = some (.string ds) := HB10.out.cell (i := 5) rfl
                  go_wp2_with fail
                  refine (wide_any tag w10).mono ?_
                  rintro e w11 ⟨rfl, hw11⟩
                  replace hw11 := hw11.symm
                  subst hw11
                  have HWD := Lib.hid (wide_eq tag)
                  unfold wideT
                  by_cases ht5 : tag = 5
                  · subst ht5
                    go_wp2_with fail
                    go_ret
                    exact ⟨rfl, HW10.out⟩
                  · have g5 : (tag == 5) = false := by simpa using ht5
                    by_cases ht6 : tag = 6
                    · subst ht6
                      go_wp2_with fail
                      go_ret
                      exact ⟨rfl, HW10.out⟩
                    · have g6 : (tag == 6) = false := by simpa using ht6
                      go_wp2_with fail
                      go_ret
                      exact ⟨rfl, HW10.out⟩
              | false =>
                have gx : ¬ n < 0 := of_decide_eq_false HF.out.nx; have gxd : decide (n < 0) = false := HF.out.nx
                cases y with
                | true =>
                  have gy : m < 0 := of_decide_eq_true HF.out.my; have gyd : decide (m < 0) = true := HF.out.my
                  have c0 : w8.cell? ⟨o2, 0, none⟩ = some (.int .i64 t) := HA8.out.cell (i := 0) rfl
                  have d0 : w8.cell? ⟨o3, 0, none⟩ = some (.int .i64 t) := HB8.out.cell (i := 0) rfl
                  have c1 : w8.cell? ⟨o2, 1, none⟩ = some (.string s) := HA8.out.cell (i := 1) rfl
                  have d1 : w8.cell? ⟨o3, 1, none⟩ = some (.string s) := HB8.out.cell (i := 1) rfl
                  have c2 : w8.cell? ⟨o2, 2, none⟩ = some (.int .u64 bi) := HA8.out.cell (i := 2) rfl
                  have d2 : w8.cell? ⟨o3, 2, none⟩ = some (.int .u64 bi) := HB8.out.cell (i := 2) rfl
                  have c3 : w8.cell? ⟨o2, 3, none⟩ = some (.string cl) := HA8.out.cell (i := 3) rfl
                  have d3 : w8.cell? ⟨o3, 3, none⟩ = some (.string cl) := HB8.out.cell (i := 3) rfl
                  have c4 : w8.cell? ⟨o2, 4, none⟩ = some (.string nm) := HA8.out.cell (i := 4) rfl
                  have d4 : w8.cell? ⟨o3, 4, none⟩ = some (.string nm) := HB8.out.cell (i := 4) rfl
                  have c5 : w8.cell? ⟨o2, 5, none⟩ = some (.string ds) := HA8.out.cell (i := 5) rfl
                  have d5 : w8.cell? ⟨o3, 5, none⟩ = some (.string ds) := HB8.out.cell (i := 5) rfl
                  go_wp2_with fail
                  refine (HL1.out w8).mono ?_
                  rintro e w9 ⟨rfl, hb9⟩
                  have HA9 := Lib.hid (HA8.out.below hb9)
                  have HB9 := Lib.hid (HB8.out.below hb9)
                  have HW9 := Lib.hid (HW8.out.trans (hb9.mono HW8.out.size))
                  clear hb9 c0 c1 c2 c3 c4 c5 d0 d1 d2 d3 d4 d5 HA8 HB8 HW8
                  have c0 : w9.cell? ⟨o2, 0, none⟩ = some (.int .i64 t) := HA9.out.cell (i := 0) rfl
                  have d0 : w9.cell? ⟨o3, 0, none⟩ = some (.int .i64 t) := HB9.out.cell (i := 0) rfl
                  have c1 : w9.cell? ⟨o2, 1, none⟩ = some (.string s) := HA9.out.cell (i := 1) rfl
                  have d1 : w9.cell? ⟨o3, 1, none⟩ = some (.string s) := HB9.out.cell (i := 1) rfl
                  have c2 : w9.cell? ⟨o2, 2, none⟩ = some (.int .u64 bi) := HA9.out.cell (i := 2) rfl
                  have d2 : w9.cell? ⟨o3, 2, none⟩ = some (.int .u64 bi) := HB9.out.cell (i := 2) rfl
                  have c3 : w9.cell? ⟨o2, 3, none⟩ = some (.string cl) := HA9.out.cell (i := 3) rfl
                  have d3 : w9.cell? ⟨o3, 3, none⟩ = some (.string cl) := HB9.out.cell (i := 3) rfl
                  have c4 : w9.cell? ⟨o2, 4, none⟩ = some (.string nm) := HA9.out.cell (i := 4) rfl
                  have d4 : w9.cell? ⟨o3, 4, none⟩ = some (.string nm) := HB9.out.cell (i := 4) rfl
                  have c5 : w9.cell? ⟨o2, 5, none⟩ = some (.string ds) := HA9.out.cell (i := 5) rfl
                  have d5 : w9.cell? ⟨o3, 5, none⟩ = some (.string ds) := HB9.out.cell (i := 5) rfl
                  go_wp2_with fail
                  refine (HL2.out w9).mono ?_
                  rintro e w10 ⟨rfl, hb10⟩
                  have HA10 := Lib.hid (HA9.out.below hb10)
                  have HB10 := Lib.hid (HB9.out.below hb10)
                  have HW10 := Lib.hid (HW9.out.trans (hb10.mono HW9.out.size))
                  clear hb10 c0 c1 c2 c3 c4 c5 d0 d1 d2 d3 d4 d5 HA9 HB9 HW9
                  have c0 : w10.cell? ⟨o2, 0, none⟩ = some (.int .i64 t) := HA10.out.cell (i := 0) rfl
                  have d0 : w10.cell? ⟨o3, 0, none⟩ = some (.int .i64 t) := HB10.out.cell (i := 0) rfl
                  have c1 : w10.cell? ⟨o2, 1, none⟩ = some (.string s) := HA10.out.cell (i := 1) rfl
                  have d1 : w10.cell? ⟨o3, 1, none⟩ = some (.string s) := HB10.out.cell (i := 1) rfl
                  have c2 : w10.cell? ⟨o2, 2, none⟩ = some (.int .u64 bi) := HA10.out.cell (i := 2) rfl
                  have d2 : w10.cell? ⟨o3, 2, none⟩ = some (.int .u64 bi) := HB10.out.cell (i := 2) rfl
                  have c3 : w10.cell? ⟨o2, 3, none⟩ = some (.string cl) := HA10.out.cell (i := 3) rfl
                  have d3 : w10.cell? ⟨o3, 3, none⟩ = some (.string cl) := HB10.out.cell (i := 3) rfl
                  have c4 : w10.cell? ⟨o2, 4, none⟩ = some (.string nm) := HA10.out.cell (i := 4) rfl
                  have d4 : w10.cell? ⟨o3, 4, none⟩ = some (.string nm) := HB10.out.cell (i := 4) rfl
                  have c5 : w10.cell? ⟨o2, 5, none⟩ = some (.string ds) := HA10.out.cell (i := 5) rfl
                  have d5 : w10.cell? ⟨o3, 5, none⟩ = some (.string ds) := HB10.out.cell (i := 5) rfl
                  go_wp2_with fail
                  refine (wide_any tag w10).mono ?_
                  rintro e w11 ⟨rfl, hw11⟩
                  replace hw11 := hw11.symm
                  subst hw11
                  have HWD := Lib.hid (wide_eq tag)
                  unfold wideT
                  by_cases ht5 : tag = 5
                  · subst ht5
                    go_wp2_with fail
                    go_ret
                    exact ⟨rfl, HW10.out⟩
                  · have g5 : (tag == 5) = false := by simpa using ht5
                    by_cases ht6 : tag = 6
                    · subst ht6
                      go_wp2_with fail
                      go_ret
                      exact ⟨rfl, HW10.out⟩
                    · have g6 : (tag == 6) = false := by simpa using ht6
                      go_wp2_with fail
                      go_ret
                      exact ⟨rfl, HW10.out⟩
                | false =>
                  have gy : ¬ m < 0 := of_decide_eq_false HF.out.my; have gyd : decide (m < 0) = false := HF.out.my
                  have c0 : w8.cell? ⟨o2, 0, none⟩ = some (.int .i64 t) := HA8.out.cell (i := 0) rfl
                  have d0 : w8.cell? ⟨o3, 0, none⟩ = some (.int .i64 t) := HB8.out.cell (i := 0) rfl
                  have c1 : w8.cell? ⟨o2, 1, none⟩ = some (.string s) := HA8.out.cell (i := 1) rfl
                  have d1 : w8.cell? ⟨o3, 1, none⟩ = some (.string s) := HB8.out.cell (i := 1) rfl
                  have c2 : w8.cell? ⟨o2, 2, none⟩ = some (.int .u64 bi) := HA8.out.cell (i := 2) rfl
                  have d2 : w8.cell? ⟨o3, 2, none⟩ = some (.int .u64 bi) := HB8.out.cell (i := 2) rfl
                  have c3 : w8.cell? ⟨o2, 3, none⟩ = some (.string cl) := HA8.out.cell (i := 3) rfl
                  have d3 : w8.cell? ⟨o3, 3, none⟩ = some (.string cl) := HB8.out.cell (i := 3) rfl
                  have c4 : w8.cell? ⟨o2, 4, none⟩ = some (.string nm) := HA8.out.cell (i := 4) rfl
                  have d4 : w8.cell? ⟨o3, 4, none⟩ = some (.string nm) := HB8.out.cell (i := 4) rfl
                  have c5 : w8.cell? ⟨o2, 5, none⟩ = some (.string ds) := HA8.out.cell (i := 5) rfl
                  have d5 : w8.cell? ⟨o3, 5, none⟩ = some (.string ds) := HB8.out.cell (i := 5) rfl
                  go_wp2_with fail
                  refine (HL1.out w8).mono ?_
                  rintro e w9 ⟨rfl, hb9⟩
                  have HA9 := Lib.hid (HA8.out.below hb9)
                  have HB9 := Lib.hid (HB8.out.below hb9)
                  have HW9 := Lib.hid (HW8.out.trans (hb9.mono HW8.out.size))
                  clear hb9 c0 c1 c2 c3 c4 c5 d0 d1 d2 d3 d4 d5 HA8 HB8 HW8
                  have c0 : w9.cell? ⟨o2, 0, none⟩ = some (.int .i64 t) := HA9.out.cell (i := 0) rfl
                  have d0 : w9.cell? ⟨o3, 0, none⟩ = some (.int .i64 t) := HB9.out.cell (i := 0) rfl
                  have c1 : w9.cell? ⟨o2, 1, none⟩ = some (.string s) := HA9.out.cell (i := 1) rfl
                  have d1 : w9.cell? ⟨o3, 1, none⟩ = some (.string s) := HB9.out.cell (i := 1) rfl
                  have c2 : w9.cell? ⟨o2, 2, none⟩ = some (.int .u64 bi) := HA9.out.cell (i := 2) rfl
                  have d2 : w9.cell? ⟨o3, 2, none⟩ = some (.int .u64 bi) := HB9.out.cell (i := 2) rfl
                  have c3 : w9.cell? ⟨o2, 3, none⟩ = some (.string cl) := HA9.out.cell (i := 3) rfl
                  have d3 : w9.cell? ⟨o3, 3, none⟩ = some (.string cl) := HB9.out.cell (i := 3) rfl
                  have c4 : w9.cell? ⟨o2, 4, none⟩ = some (.string nm) := HA9.out.cell (i := 4) rfl
                  have d4 : w9.cell? ⟨o3, 4, none⟩ = some (.string nm) := HB9.out.cell (i := 4) rfl
                  have c5 : w9.cell? ⟨o2, 5, none⟩ = some (.string ds) := HA9.out.cell (i := 5) rfl
                  have d5 : w9.cell? ⟨o3, 5, none⟩ = some (.string ds) := HB9.out.cell (i := 5) rfl
                  go_wp2_with fail
                  refine (HL2.out w9).mono ?_
                  rintro e w10 ⟨rfl, hb10⟩
                  have HA10 := Lib.hid (HA9.out.below hb10)
                  have HB10 := Lib.hid (HB9.out.below hb10)
                  have HW10 := Lib.hid (HW9.out.trans (hb10.mono HW9.out.size))
                  clear hb10 c0 c1 c2 c3 c4 c5 d0 d1 d2 d3 d4 d5 HA9 HB9 HW9
                  have c0 : w10.cell? ⟨o2, 0, none⟩ = some (.int .i64 t) := HA10.out.cell (i := 0) rfl
                  have d0 : w10.cell? ⟨o3, 0, none⟩ = some (.int .i64 t) := HB10.out.cell (i := 0) rfl
                  have c1 : w10.cell? ⟨o2, 1, none⟩ = some (.string s) := HA10.out.cell (i := 1) rfl
                  have d1 : w10.cell? ⟨o3, 1, none⟩ = some (.string s) := HB10.out.cell (i := 1) rfl
                  have c2 : w10.cell? ⟨o2, 2, none⟩ = some (.int .u64 bi) := HA10.out.cell (i := 2) rfl
                  have d2 : w10.cell? ⟨o3, 2, none⟩ = some (.int .u64 bi) := HB10.out.cell (i := 2) rfl
                  have c3 : w10.cell? ⟨o2, 3, none⟩ = some (.string cl) := HA10.out.cell (i := 3) rfl
                  have d3 : w10.cell? ⟨o3, 3, none⟩ = some (.string cl) := HB10.out.cell (i := 3) rfl
                  have c4 : w10.cell? ⟨o2, 4, none⟩ = some (.string nm) := HA10.out.cell (i := 4) rfl
                  have d4 : w10.cell? ⟨o3, 4, none⟩ = some (.string nm) := HB10.out.cell (i := 4) rfl
                  have c5 : w10.cell? ⟨o2, 5, none⟩ = some (.string ds) := HA10.out.cell (i := 5) rfl
                  have d5 : w10.cell? ⟨o3, 5, none⟩ = some (.string ds) := HB10.out.cell (i := 5) rfl
                  go_wp2_with fail
                  refine (wide_any tag w10).mono ?_
                  rintro e w11 ⟨rfl, hw11⟩
                  replace hw11 := hw11.symm
                  subst hw11
                  have HWD := Lib.hid (wide_eq tag)
                  unfold wideT
                  by_cases ht5 : tag = 5
                  · subst ht5
                    go_wp2_with fail
                    go_ret
                    exact ⟨rfl, HW10.out⟩
                  · have g5 : (tag == 5) = false := by simpa using ht5
                    by_cases ht6 : tag = 6
                    · subst ht6
                      go_wp2_with fail
                      go_ret
                      exact ⟨rfl, HW10.out⟩
                    · have g6 : (tag == 6) = false := by simpa using ht6
                      go_wp2_with fail
                      go_ret
                      exact ⟨rfl, HW10.out⟩
            · have HF := Lib.hid (HO.out false (by simp [h5]))
              have g0 : ¬ ds.toList = ds'.toList := fun e => h5 (str_inj e)
              have g1 : (ds.toList == ds'.toList) = false := by simpa using g0
              have gn := HF.out.n0
              have gm := HF.out.m0
              cases x with
              | true =>
                have gx : n < 0 := of_decide_eq_true HF.out.nx; have gxd : decide (n < 0) = true := HF.out.nx
                cases y with
                | true =>
                  have gy : m < 0 := of_decide_eq_true HF.out.my; have gyd : decide (m < 0) = true := HF.out.my
                  have c0 : w8.cell? ⟨o2, 0, none⟩ = some (.int .i64 t) := HA8.out.cell (i := 0) rfl
                  have d0 : w8.cell? ⟨o3, 0, none⟩ = some (.int .i64 t) := HB8.out.cell (i := 0) rfl
                  have c1 : w8.cell? ⟨o2, 1, none⟩ = some (.string s) := HA8.out.cell (i := 1) rfl
                  have d1 : w8.cell? ⟨o3, 1, none⟩ = some (.string s) := HB8.out.cell (i := 1) rfl
                  have c2 : w8.cell? ⟨o2, 2, none⟩ = some (.int .u64 bi) := HA8.out.cell (i := 2) rfl
                  have d2 : w8.cell? ⟨o3, 2, none⟩ = some (.int .u64 bi) := HB8.out.cell (i := 2) rfl
                  have c3 : w8.cell? ⟨o2, 3, none⟩ = some (.string cl) := HA8.out.cell (i := 3) rfl
                  have d3 : w8.cell? ⟨o3, 3, none⟩ = some (.string cl) := HB8.out.cell (i := 3) rfl
                  have c4 : w8.cell? ⟨o2, 4, none⟩ = some (.string nm) := HA8.out.cell (i := 4) rfl
                  have d4 : w8.cell? ⟨o3, 4, none⟩ = some (.string nm) := HB8.out.cell (i := 4) rfl
                  have c5 : w8.cell? ⟨o2, 5, none⟩ = some (.string ds) := HA8.out.cell (i := 5) rfl
                  have d5 : w8.cell? ⟨o3, 5, none⟩ = some (.string ds') := HB8.out.cell (i := 5) rfl
                  go_wp2_with fail
                  refine (HL1.out w8).mono ?_
                  rintro e w9 ⟨rfl, hb9⟩
                  have HA9 := Lib.hid (HA8.out.below hb9)
                  have HB9 := Lib.hid (HB8.out.below hb9)
                  have HW9 := Lib.hid (HW8.out.trans (hb9.mono HW8.out.size))
                  clear hb9 c0 c1 c2 c3 c4 c5 d0 d1 d2 d3 d4 d5 HA8 HB8 HW8
                  have c0 : w9.cell? ⟨o2, 0, none⟩ = some (.int .i64 t) := HA9.out.cell (i := 0) rfl
                  have d0 : w9.cell? ⟨o3, 0, none⟩ = some (.int .i64 t) := HB9.out.cell (i := 0) rfl
                  have c1 : w9.cell? ⟨o2, 1, none⟩ = some (.string s) := HA9.out.cell (i := 1) rfl
                  have d1 : w9.cell? ⟨o3, 1, none⟩ = some (.string s) := HB9.out.cell (i := 1) rfl
                  have c2 : w9.cell? ⟨o2, 2, none⟩ = some (.int .u64 bi) := HA9.out.cell (i := 2) rfl
                  have d2 : w9.cell? ⟨o3, 2, none⟩ = some (.int .u64 bi) := HB9.out.cell (i := 2) rfl
                  have c3 : w9.cell? ⟨o2, 3, none⟩ = some (.string cl) := HA9.out.cell (i := 3) rfl
                  have d3 : w9.cell? ⟨o3, 3, none⟩ = some (.string cl) := HB9.out.cell (i := 3) rfl
                  have c4 : w9.cell? ⟨o2, 4, none⟩ = some (.string nm) := HA9.out.cell (i := 4) rfl
                  have d4 : w9.cell? ⟨o3, 4, none⟩ = some (.string nm) := HB9.out.cell (i := 4) rfl
                  have c5 : w9.cell? ⟨o2, 5, none⟩ = some (.string ds) := HA9.out.cell (i := 5) rfl
                  have d5 : w9.cell? ⟨o3, 5, none⟩ = some (.string ds') := HB9.out.cell (i := 5) rfl
                  go_wp2_with fail
                  refine (HL2.out w9).mono ?_
                  rintro e w10 ⟨rfl, hb10⟩
                  have HA10 := Lib.hid (HA9.out.below hb10)
                  have HB10 := Lib.hid (HB9.out.below hb10)
                  have HW10 := Lib.hid (HW9.out.trans (hb10.mono HW9.out.size))
                  clear hb10 c0 c1 c2 c3 c4 c5 d0 d1 d2 d3 d4 d5 HA9 HB9 HW9
                  have c0 : w10.cell? ⟨o2, 0, none⟩ = some (.int .i64 t) := HA10.out.cell (i := 0) rfl
                  have d0 : w10.cell? ⟨o3, 0, none⟩ = some (.int .i64 t) := HB10.out.cell (i := 0) rfl
                  have c1 : w10.cell? ⟨o2, 1, none⟩ = some (.string s) := HA10.out.cell (i := 1) rfl
                  have d1 : w10.cell? ⟨o3, 1, none⟩ = some (.string s) := HB10.out.cell (i := 1) rfl
                  have c2 : w10.cell? ⟨o2, 2, none⟩ = some (.int .u64 bi) := HA10.out.cell (i := 2) rfl
                  have d2 : w10.cell? ⟨o3, 2, none⟩ = some (.int .u64 bi) := HB10.out.cell (i := 2) rfl
                  have c3 : w10.cell? ⟨o2, 3, none⟩ = some (.string cl) := HA10.out.cell (i := 3) rfl
                  have d3 : w10.cell? ⟨o3, 3, none⟩ = some (.string cl) := HB10.out.cell (i := 3) rfl
                  have c4 : w10.cell? ⟨o2, 4, none⟩ = some (.string nm) := HA10.out.cell (i := 4) rfl
                  have d4 : w10.cell? ⟨o3, 4, none⟩ = some (.string nm) := HB10.out.cell (i := 4) rfl
                  have c5 : w10.cell? ⟨o2, 5, none⟩ = some (.string ds) := HA10.out.cell (i := 5) rfl
                  have d5 : w10.cell? ⟨o3, 5, none⟩ = some (.string ds') := HB10.out.cell (i := 5) rfl
                  go_wp2_with fail
                  refine (wide_any tag w10).mono ?_
                  rintro e w11 ⟨rfl, hw11⟩
                  replace hw11 := hw11.symm
                  subst hw11
                  have HWD := Lib.hid (wide_eq tag)
                  unfold wideT
                  by_cases ht5 : tag = 5
                  · subst ht5
                    go_wp2_with fail
                    go_ret
                    exact ⟨rfl, HW10.out⟩
                  · have g5 : (tag == 5) = false := by simpa using ht5
                    by_cases ht6 : tag = 6
                    · subst ht6
                      go_wp2_with fail
                      go_ret
                      exact ⟨rfl, HW10.out⟩
                    · have g6 : (tag == 6) = false := by simpa using ht6
                      go_wp2_with fail
                      go_ret
                      exact ⟨rfl, HW10.out⟩
                | false =>
                  have gy : ¬ m < 0 := of_decide_eq_false HF.out.my; have gyd : decide (m < 0) = false := HF.out.my
                  have c0 : w8.cell? ⟨o2, 0, none⟩ = some (.int .i64 t) := HA8.out.cell (i := 0) rfl
                  have d0 : w8.cell? ⟨o3, 0, none⟩ = some (.int .i64 t) := HB8.out.cell (i := 0) rfl
                  have c1 : w8.cell? ⟨o2, 1, none⟩ = some (.string s) := HA8.out.cell (i := 1) rfl
                  have d1 : w8.cell? ⟨o3, 1, none⟩ = some (.string s) := HB8.out.cell (i := 1) rfl
                  have c2 : w8.cell? ⟨o2, 2, none⟩ = some (.int .u64 bi) := HA8.out.cell (i := 2) rfl
                  have d2 : w8.cell? ⟨o3, 2, none⟩ = some (.int .u64 bi) := HB8.out.cell (i := 2) rfl
                  have c3 : w8.cell? ⟨o2, 3, none⟩ = some (.string cl) := HA8.out.cell (i := 3) rfl
                  have d3 : w8.cell? ⟨o3, 3, none⟩ = some (.string cl) := HB8.out.cell (i := 3) rfl
                  have c4 : w8.cell? ⟨o2, 4, none⟩ = some (.string nm) := HA8.out.cell (i := 4) rfl
                  have d4 : w8.cell? ⟨o3, 4, none⟩ = some (.string nm) := HB8.out.cell (i := 4) rfl
                  have c5 : w8.cell? ⟨o2, 5, none⟩ = some (.string ds) := HA8.out.cell (i := 5) rfl
                  have d5 : w8.cell? ⟨o3, 5, none⟩ = some (.string ds') := HB8.out.cell (i := 5) rfl
                  go_wp2_with fail
                  refine (HL1.out w8).mono ?_
                  rintro e w9 ⟨rfl, hb9⟩
                  have HA9 := Lib.hid (HA8.out.below hb9)
                  have HB9 := Lib.hid (HB8.out.below hb9)
                  have HW9 := Lib.hid (HW8.out.trans (hb9.mono HW8.out.size))
                  clear hb9 c0 c1 c2 c3 c4 c5 d0 d1 d2 d3 d4 d5 HA8 HB8 HW8
                  have c0 : w9.cell? ⟨o2, 0, none⟩ = some (.int .i64 t) := HA9.out.cell (i := 0) rfl
                  have d0 : w9.cell? ⟨o3, 0, none⟩ = some (.int .i64 t) := HB9.out.cell (i := 0) rfl
                  have c1 : w9.cell? ⟨o2, 1, none⟩ = some (.string s) := HA9.out.cell (i := 1) rfl
                  have d1 : w9.cell? ⟨o3, 1, none⟩ = some (.string s) := HB9.out.cell (i := 1) rfl
                  have c2 : w9.cell? ⟨o2, 2, none⟩ = some (.int .u64 bi) := HA9.out.cell (i := 2) rfl
                  have d2 : w9.cell? ⟨o3, 2, none⟩ = some (.int .u64 bi) := HB9.out.cell (i := 2) rfl
                  have c3 : w9.cell? ⟨o2, 3, none⟩ = some (.string cl) := HA9.out.cell (i := 3) rfl
                  have d3 : w9.cell? ⟨o3, 3, none⟩ = some (.string cl) := HB9.out.cell (i := 3) rfl
                  have c4 : w9.cell? ⟨o2, 4, none⟩ = some (.string nm) := HA9.out.cell (i := 4) rfl
                  have d4 : w9.cell? ⟨o3, 4, none⟩ = some (.string nm) := HB9.out.cell (i := 4) rfl
                  have c5 : w9.cell? ⟨o2, 5, none⟩ = some (.string ds) := HA9.out.cell (i := 5) rfl
                  have d5 : w9.cell? ⟨o3, 5, none⟩ = some (.string ds') := HB9.out.cell (i := 5) rfl
                  go_wp2_with fail
                  refine (HL2.out w9).mono ?_
                  rintro e w10 ⟨rfl, hb10⟩
                  have HA10 := Lib.hid (HA9.out.below hb10)
                  have HB10 := Lib.hid (HB9.out.below hb10)
                  have HW10 := Lib.hid (HW9.out.trans (hb10.mono HW9.out.size))
                  clear hb10 c0 c1 c2 c3 c4 c5 d0 d1 d2 d3 d4 d5 HA9 HB9 HW9
                  have c0 : w10.cell? ⟨o2, 0, none⟩ = some (.int .i64 t) := HA10.out.cell (i := 0) rfl
                  have d0 : w10.cell? ⟨o3, 0, none⟩ = some (.int .i64 t) := HB10.out.cell (i := 0) rfl
                  have c1 : w10.cell? ⟨o2, 1, none⟩ = some (.string s) := HA10.out.cell (i := 1) rfl
                  have d1 : w10.cell? ⟨o3, 1, none⟩ = some (.string s) := HB10.out.cell (i := 1) rfl
                  have c2 : w10.cell? ⟨o2, 2, none⟩ = some (.int .u64 bi) := HA10.out.cell (i := 2) rfl
                  have d2 : w10.cell? ⟨o3, 2, none⟩ = some (.int .u64 bi) := HB10.out.cell (i := 2) rfl
                  have c3 : w10.cell? ⟨o2, 3, none⟩ = some (.string cl) := HA10.out.cell (i := 3) rfl
                  have d3 : w10.cell? ⟨o3, 3, none⟩ = some (.string cl) := HB10.out.cell (i := 3) rfl
                  have c4 : w10.cell? ⟨o2, 4, none⟩ = some (.string nm) := HA10.out.cell (i := 4) rfl
                  have d4 : w10.cell? ⟨o3, 4, none⟩ = some (.string nm) := HB10.out.cell (i := 4) rfl
                  have c5 : w10.cell? ⟨o2, 5, none⟩ = some (.string ds) := HA10.out.cell (i := 5) rfl
                  have d5 : w10.cell? ⟨o3, 5, none⟩ = some (.string ds') := HB10.out.cell (i := 5) rfl
                  go_wp2_with fail
                  refine (wide_any tag w10).mono ?_
                  rintro e w11 ⟨rfl, hw11⟩
                  replace hw11 := hw11.symm
                  subst hw11
                  have HWD := Lib.hid (wide_eq tag)
                  unfold wideT
                  by_cases ht5 : tag = 5
                  · subst ht5
                    go_wp2_with fail
                    go_ret
                    exact ⟨rfl, HW10.out⟩
                  · have g5 : (tag == 5) = false := by simpa using ht5
                    by_cases ht6 : tag = 6
                    · subst ht6
                      go_wp2_with fail
                      go_ret
                      exact ⟨rfl, HW10.out⟩
                    · have g6 : (tag == 6) = false := by simpa using ht6
                      go_wp2_with fail
                      go_ret
                      exact ⟨rfl, HW10.out⟩
              | false =>
                have gx : ¬ n < 0 := of_decide_eq_false HF.out.nx; have gxd : decide (n < 0) = false := HF.out.nx
                cases y with
                | true =>
                  have gy : m < 0 := of_decide_eq_true HF.out.my; have gyd : decide (m < 0) = true := HF.out.my
                  have c0 : w8.cell? ⟨o2, 0, none⟩ = some (.int .i64 t) := HA8.out.cell (i := 0) rfl
                  have d0 : w8.cell? ⟨o3, 0, none⟩ = some (.int .i64 t) := HB8.out.cell (i := 0) rfl
                  have c1 : w8.cell? ⟨o2, 1, none⟩ = some (.string s) := HA8.out.cell (i := 1) rfl
                  have d1 : w8.cell? ⟨o3, 1, none⟩ = some (.string s) := HB8.out.cell (i := 1) rfl
                  have c2 : w8.cell? ⟨o2, 2, none⟩ = some (.int .u64 bi) := HA8.out.cell (i := 2) rfl
                  have d2 : w8.cell? ⟨o3, 2, none⟩ = some (.int .u64 bi) := HB8.out.cell (i := 2) rfl
                  have c3 : w8.cell? ⟨o2, 3, none⟩ = some (.string cl) := HA8.out.cell (i := 3) rfl
                  have d3 : w8.cell? ⟨o3, 3, none⟩ = some (.string cl) := HB8.out.cell (i := 3) rfl
                  have c4 : w8.cell? ⟨o2, 4, none⟩ = some (.string nm) := HA8.out.cell (i := 4) rfl
                  have d4 : w8.cell? ⟨o3, 4, none⟩ = some (.string nm) := HB8.out.cell (i := 4) rfl
                  have c5 : w8.cell? ⟨o2, 5, none⟩ = some (.string ds) := HA8.out.cell (i := 5) rfl
                  have d5 : w8.cell? ⟨o3, 5, none⟩ = some (.string ds') := HB8.out.cell (i := 5) rfl
                  go_wp2_with fail
                  refine (HL1.out w8).mono ?_
                  rintro e w9 ⟨rfl, hb9⟩
                  have HA9 := Lib.hid (HA8.out.below hb9)
                  have HB9 := Lib.hid (HB8.out.below hb9)
                  have HW9 := Lib.hid (HW8.out.trans (hb9.mono HW8.out.size))
                  clear hb9 c0 c1 c2 c3 c4 c5 d0 d1 d2 d3 d4 d5 HA8 HB8 HW8
                  have c0 : w9.cell? ⟨o2, 0, none⟩ = some (.int .i64 t) := HA9.out.cell (i := 0) rfl
                  have d0 : w9.cell? ⟨o3, 0, none⟩ = some (.int .i64 t) := HB9.out.cell (i := 0) rfl
                  have c1 : w9.cell? ⟨o2, 1, none⟩ = some (.string s) := HA9.out.cell (i := 1) rfl
                  have d1 : w9.cell? ⟨o3, 1, none⟩ = some (.string s) := HB9.out.cell (i := 1) rfl
                  have c2 : w9.cell? ⟨o2, 2, none⟩ = some (.int .u64 bi) := HA9.out.cell (i := 2) rfl
                  have d2 : w9.cell? ⟨o3, 2, none⟩ = some (.int .u64 bi) := HB9.out.cell (i := 2) rfl
                  have c3 : w9.cell? ⟨o2, 3, none⟩ = some (.string cl) := HA9.out.cell (i := 3) rfl
                  have d3 : w9.cell? ⟨o3, 3, none⟩ = some (.string cl) := HB9.out.cell (i := 3) rfl
                  have c4 : w9.cell? ⟨o2, 4, none⟩ = some (.string nm) := HA9.out.cell (i := 4) rfl
                  have d4 : w9.cell? ⟨o3, 4, none⟩ = some (.string nm) := HB9.out.cell (i := 4) rfl
                  have c5 : w9.cell? ⟨o2, 5, none⟩ = some (.string ds) := HA9.out.cell (i := 5) rfl
                  have d5 : w9.cell? ⟨o3, 5, none⟩ = some (.string ds') := HB9.out.cell (i := 5) rfl
                  go_wp2_with fail
                  refine (HL2.out w9).mono ?_
                  rintro e w10 ⟨rfl, hb10⟩
                  have HA10 := Lib.hid (HA9.out.below hb10)
                  have HB10 := Lib.hid (HB9.out.below hb10)
                  have HW10 := Lib.hid (HW9.out.trans (hb10.mono HW9.out.size))
                  clear hb10 c0 c1 c2 c3 c4 c5 d0 d1 d2 d3 d4 d5 HA9 HB9 HW9
                  have c0 : w10.cell? ⟨o2, 0, none⟩ = some (.int .i64 t) := HA10.out.cell (i := 0) rfl
                  have d0 : w10.cell? ⟨o3, 0, none⟩ = some (.int .i64 t) := HB10.out.cell (i := 0) rfl
                  have c1 : w10.cell? ⟨o2, 1, none⟩ = some (.string s) := HA10.out.cell (i := 1) rfl
                  have d1 : w10.cell? ⟨o3, 1, none⟩ = some (.string s) := HB10.out.cell (i := 1) rfl
                  have c2 : w10.cell? ⟨o2, 2, none⟩ = some (.int .u64 bi) := HA10.out.cell (i := 2) rfl
                  have d2 : w10.cell? ⟨o3, 2, none⟩ = some (.int .u64 bi) := HB10.out.cell (i := 2) rfl
                  have c3 : w10.cell? ⟨o2, 3, none⟩ = some (.string cl) := HA10.out.cell (i := 3) rfl
                  have d3 : w10.cell? ⟨o3, 3, none⟩ = some (.string cl) := HB10.out.cell (i := 3) rfl
                  have c4 : w10.cell? ⟨o2, 4, none⟩ = some (.string nm) := HA10.out.cell (i := 4) rfl
                  have d4 : w10.cell? ⟨o3, 4, none⟩ = some (.string nm) := HB10.out.cell (i := 4) rfl
                  have c5 : w10.cell? ⟨o2, 5, none⟩ = some (.string ds) := HA10.out.cell (i := 5) rfl
                  have d5 : w10.cell? ⟨o3, 5, none⟩ = some (.string ds') := HB10.out.cell (i := 5) rfl
                  go_wp2_with fail
                  refine (wide_any tag w10).mono ?_
                  rintro e w11 ⟨rfl, hw11⟩
                  replace hw11 := hw11.symm
                  subst hw11
                  have HWD := Lib.hid (wide_eq tag)
                  unfold wideT
                  by_cases ht5 : tag = 5
                  · subst ht5
                    go_wp2_with fail
                    go_ret
                    exact ⟨rfl, HW10.out⟩
                  · have g5 : (tag == 5) = false := by simpa using ht5
                    by_cases ht6 : tag = 6
                    · subst ht6
                      go_wp2_with fail
                      go_ret
                      exact ⟨rfl, HW10.out⟩
                    · have g6 : (tag == 6) = false := by simpa using ht6
                      go_wp2_with fail
                      go_ret
                      exact ⟨rfl, HW10.out⟩
                | false =>
                  have gy : ¬ m < 0 := of_decide_eq_false HF.out.my; have gyd : decide (m < 0) = false := HF.out.my
                  have c0 : w8.cell? ⟨o2, 0, none⟩ = some (.int .i64 t) := HA8.out.cell (i := 0) rfl
                  have d0 : w8.cell? ⟨o3, 0, none⟩ = some (.int .i64 t) := HB8.out.cell (i := 0) rfl
                  have c1 : w8.cell? ⟨o2, 1, none⟩ = some (.string s) := HA8.out.cell (i := 1) rfl
                  have d1 : w8.cell? ⟨o3, 1, none⟩ = some (.string s) := HB8.out.cell (i := 1) rfl
                  have c2 : w8.cell? ⟨o2, 2, none⟩ = some (.int .u64 bi) := HA8.out.cell (i := 2) rfl
                  have d2 : w8.cell? ⟨o3, 2, none⟩ = some (.int .u64 bi) := HB8.out.cell (i := 2) rfl
                  have c3 : w8.cell? ⟨o2, 3, none⟩ = some (.string cl) := HA8.out.cell (i := 3) rfl
                  have d3 : w8.cell? ⟨o3, 3, none⟩ = some (.string cl) := HB8.out.cell (i := 3) rfl
                  have c4 : w8.cell? ⟨o2, 4, none⟩ = some (.string nm) := HA8.out.cell (i := 4) rfl
                  have d4 : w8.cell? ⟨o3, 4, none⟩ = some (.string nm) := HB8.out.cell (i := 4) rfl
                  have c5 : w8.cell? ⟨o2, 5, none⟩ = some (.string ds) := HA8.out.cell (i := 5) rfl
                  have d5 : w8.cell? ⟨o3, 5, none⟩ = some (.string ds') := HB8.out.cell (i := 5) rfl
                  go_wp2_with fail
                  refine (HL1.out w8).mono ?_
                  rintro e w9 ⟨rfl, hb9⟩
                  have HA9 := Lib.hid (HA8.out.below hb9)
                  have HB9 := Lib.hid (HB8.out.below hb9)
                  have HW9 := Lib.hid (HW8.out.trans (hb9.mono HW8.out.size))
                  clear hb9 c0 c1 c2 c3 c4 c5 d0 d1 d2 d3 d4 d5 HA8 HB8 HW8
                  have c0 : w9.cell? ⟨o2, 0, none⟩ = some (.int .i64 t) := HA9.out.cell (i := 0) rfl
                  have d0 : w9.cell? ⟨o3, 0, none⟩ = some (.int .i64 t) := HB9.out.cell (i := 0) rfl
                  have c1 : w9.cell? ⟨o2, 1, none⟩ = some (.string s) := HA9.out.cell (i := 1) rfl
                  have d1 : w9.cell? ⟨o3, 1, none⟩ = some (.string s) := HB9.out.cell (i := 1) rfl
                  have c2 : w9.cell? ⟨o2, 2, none⟩ = some (.int .u64 bi) := HA9.out.cell (i := 2) rfl
                  have d2 : w9.cell? ⟨o3, 2, none⟩ = some (.int .u64 bi) := HB9.out.cell (i := 2) rfl
                  have c3 : w9.cell? ⟨o2, 3, none⟩ = some (.string cl) := HA9.out.cell (i := 3) rfl
                  have d3 : w9.cell? ⟨o3, 3, none⟩ = some (.string cl) := HB9.out.cell (i := 3) rfl
                  have c4 : w9.cell? ⟨o2, 4, none⟩ = some (.string nm) := HA9.out.cell (i := 4) rfl
                  have d4 : w9.cell? ⟨o3, 4, none⟩ = some (.string nm) := HB9.out.cell (i := 4) rfl
                  have c5 : w9.cell? ⟨o2, 5, none⟩ = some (.string ds) := HA9.out.cell (i := 5) rfl
                  have d5 : w9.cell? ⟨o3, 5, none⟩ = some (.string ds') := HB9.out.cell (i := 5) rfl
                  go_wp2_with fail
                  refine (HL2.out w9).mono ?_
                  rintro e w10 ⟨rfl, hb10⟩
                  have HA10 := Lib.hid (HA9.out.below hb10)
                  have HB10 := Lib.hid (HB9.out.below hb10)
                  have HW10 := Lib.hid (HW9.out.trans (hb10.mono HW9.out.size))
                  clear hb10 c0 c1 c2 c3 c4 c5 d0 d1 d2 d3 d4 d5 HA9 HB9 HW9
                  have c0 : w10.cell? ⟨o2, 0, none⟩ = some (.int .i64 t) := HA10.out.cell (i := 0) rfl
                  have d0 : w10.cell? ⟨o3, 0, none⟩ = some (.int .i64 t) := HB10.out.cell (i := 0) rfl
                  have c1 : w10.cell? ⟨o2, 1, none⟩ = some (.string s) := HA10.out.cell (i := 1) rfl
                  have d1 : w10.cell? ⟨o3, 1, none⟩ = some (.string s) := HB10.out.cell (i := 1) rfl
                  have c2 : w10.cell? ⟨o2, 2, none⟩ = some (.int .u64 bi) := HA10.out.cell (i := 2) rfl
                  have d2 : w10.cell? ⟨o3, 2, none⟩ = some (.int .u64 bi) := HB10.out.cell (i := 2) rfl
                  have c3 : w10.cell? ⟨o2, 3, none⟩ = some (.string cl) := HA10.out.cell (i := 3) rfl
                  have d3 : w10.cell? ⟨o3, 3, none⟩ = some (.string cl) := HB10.out.cell (i := 3) rfl
                  have c4 : w10.cell? ⟨o2, 4, none⟩ = some (.string nm) := HA10.out.cell (i := 4) rfl
                  have d4 : w10.cell? ⟨o3, 4, none⟩ = some (.string nm) := HB10.out.cell (i := 4) rfl
                  have c5 : w10.cell? ⟨o2, 5, none⟩ = some (.string ds) := HA10.out.cell (i := 5) rfl
                  have d5 : w10.cell? ⟨o3, 5, none⟩ = some (.string ds') := HB10.out.cell (i := 5) rfl
                  go_wp2_with fail
                  refine (wide_any tag w10).mono ?_
                  rintro e w11 ⟨rfl, hw11⟩
                  replace hw11 := hw11.symm
                  subst hw11
                  have HWD := Lib.hid (wide_eq tag)
                  unfold wideT
                  by_cases ht5 : tag = 5
                  · subst ht5
                    go_wp2_with fail
                    go_ret
                    exact ⟨rfl, HW10.out⟩
                  · have g5 : (tag == 5) = false := by simpa using ht5
                    by_cases ht6 : tag = 6
                    · subst ht6
                      go_wp2_with fail
                      go_ret
                      exact ⟨rfl, HW10.out⟩
                    · have g6 : (tag == 6) = false := by simpa using ht6
                      go_wp2_with fail
                      go_ret
                      exact ⟨rfl, HW10.out⟩
          · have HF := Lib.hid (HO.out false (by simp [h4]))
            have g0 : ¬ nm.toList = nm'.toList := fun e => h4 (str_inj e)
            have g1 : (nm.toList == nm'.toList) = false := by simpa using g0
            have gn := HF.out.n0
            have gm := HF.out.m0
            cases x with
            | true =>
              have gx : n < 0 := of_decide_eq_true HF.out.nx; have gxd : decide (n < 0) = true := HF.out.nx
              cases y with
              | true =>
                have gy : m < 0 := of_decide_eq_true HF.out.my; have gyd : decide (m < 0) = true := HF.out.my
                have c0 : w8.cell? ⟨o2, 0, none⟩ = some (.int .i64 t) := HA8.out.cell (i := 0) rfl
                have d0 : w8.cell? ⟨o3, 0, none⟩ = some (.int .i64 t) := HB8.out.cell (i := 0) rfl
                have c1 : w8.cell? ⟨o2, 1, none⟩ = some (.string s) := HA8.out.cell (i := 1) rfl
                have d1 : w8.cell? ⟨o3, 1, none⟩ = some (.string s) := HB8.out.cell (i := 1) rfl
                have c2 : w8.cell? ⟨o2, 2, none⟩ = some (.int .u64 bi) := HA8.out.cell (i := 2) rfl
                have d2 : w8.cell? ⟨o3, 2, none⟩ = some (.int .u64 bi) := HB8.out.cell (i := 2) rfl
                have c3 : w8.cell? ⟨o2, 3, none⟩ = some (.string cl) := HA8.out.cell (i := 3) rfl
                have d3 : w8.cell? ⟨o3, 3, none⟩ = some (.string cl) := HB8.out.cell (i := 3) rfl
                have c4 : w8.cell? ⟨o2, 4, none⟩ = some (.string nm) := HA8.out.cell (i := 4) rfl
                have d4 : w8.cell? ⟨o3, 4, none⟩ = some (.string nm') := HB8.out.cell (i := 4) rfl
                have c5 : w8.cell? ⟨o2, 5, none⟩ = some (.string ds) := HA8.out.cell (i := 5) rfl
                have d5 : w8.cell? ⟨o3, 5, none⟩ = some (.string ds') := HB8.out.cell (i := 5) rfl
                go_wp2_with fail
                refine (HL1.out w8).mono ?_
                rintro e w9 ⟨rfl, hb9⟩
                have HA9 := Lib.hid (HA8.out.below hb9)
                have HB9 := Lib.hid (HB8.out.below hb9)
                have HW9 := Lib.hid (HW8.out.trans (hb9.mono HW8.out.size))
                clear hb9 c0 c1 c2 c3 c4 c5 d0 d1 d2 d3 d4 d5 HA8 HB8 HW8
                have c0 : w9.cell? ⟨o2, 0, none⟩ = some (.int .i64 t) := HA9.out.cell (i := 0) rfl
                have d0 : w9.cell? ⟨o3, 0, none⟩ = some (.int .i64 t) := HB9.out.cell (i := 0) rfl
                have c1 : w9.cell? ⟨o2, 1, none⟩ = some (.string s) := HA9.out.cell (i := 1) rfl
                have d1 : w9.cell? ⟨o3, 1, none⟩ = some (.string s) := HB9.out.cell (i := 1) rfl
                have c2 : w9.cell? ⟨o2, 2, none⟩ = some (.int .u64 bi) := HA9.out.cell (i := 2) rfl
                have d2 : w9.cell? ⟨o3, 2, none⟩ = some (.int .u64 bi) := HB9.out.cell (i := 2) rfl
                have c3 : w9.cell? ⟨o2, 3, none⟩ = some (.string cl) := HA9.out.cell (i := 3) rfl
                have d3 : w9.cell? ⟨o3, 3, none⟩ = some (.string cl) := HB9.out.cell (i := 3) rfl
                have c4 : w9.cell? ⟨o2, 4, none⟩ = some (.string nm) := HA9.out.cell (i := 4) rfl
                have d4 : w9.cell? ⟨o3, 4, none⟩ = some (.string nm') := HB9.out.cell (i := 4) rfl
                have c5 : w9.cell? ⟨o2, 5, none⟩ = some (.string ds) := HA9.out.cell (i := 5) rfl
                have d5 : w9.cell? ⟨o3, 5, none⟩ = some (.string ds') := HB9.out.cell (i := 5) rfl
                go_wp2_with fail
                refine (HL2.out w9).mono ?_
                rintro e w10 ⟨rfl, hb10⟩
                have HA10 := Lib.hid (HA9.out.below hb10)
                have HB10 := Lib.hid (HB9.out.below hb10)
                have HW10 := Lib.hid (HW9.out.trans (hb10.mono HW9.out.size))
                clear hb10 c0 c1 c2 c3 c4 c5 d0 d1 d2 d3 d4 d5 HA9 HB9 HW9
                have c0 : w10.cell? ⟨o2, 0, none⟩ = some (.int .i64 t) := HA10.out.cell (i := 0) rfl
                have d0 : w10.cell? ⟨o3, 0, none⟩ = some (.int .i64 t) := HB10.out.cell (i := 0) rfl
                have c1 : w10.cell? ⟨o2, 1, none⟩ = some (.string s) := HA10.out.cell (i := 1) rfl
                have d1 : w10.cell? ⟨o3, 1, none⟩ = some (.string s) := HB10.out.cell (i := 1) rfl
                have c2 : w10.cell? ⟨o2, 2, none⟩ = some (.int .u64 bi) := HA10.out.cell (i := 2) rfl
                have d2 : w10.cell? ⟨o3, 2, none⟩ = some (.int .u64 bi) := HB10.out.cell (i := 2) rfl
                have c3 : w10.cell? ⟨o2, 3, none⟩ = some (.string cl) := HA10.out.cell (i := 3) rfl
                have d3 : w10.cell? ⟨o3, 3, none⟩ = some (.string cl) := HB10.out.cell (i := 3) rfl
                have c4 : w10.cell? ⟨o2, 4, none⟩ = some (.string nm) := HA10.out.cell (i := 4) rfl
                have d4 : w10.cell? ⟨o3, 4, none⟩ = some (.string nm') := HB10.out.cell (i := 4) rfl
                have c5 : w10.cell? ⟨o2, 5, none⟩ = some (.string ds) := HA10.out.cell (i := 5) rfl
                have d5 : w10.cell? ⟨o3, 5, none⟩ = some (.string ds') := HB10.out.cell (i := 5) rfl
                go_wp2_with fail
                refine (wide_any tag w10).mono ?_
                rintro e w11 ⟨rfl, hw11⟩
                replace hw11 := hw11.symm
                subst hw11
                have HWD := Lib.hid (wide_eq tag)
                unfold wideT
                by_cases ht5 : tag = 5
                · subst ht5
                  go_wp2_with fail
                  go_ret
                  exact ⟨rfl, HW10.out⟩
                · have g5 : (tag == 5) = false := by simpa using ht5
                  by_cases ht6 : tag = 6
                  · subst ht6
                    go_wp2_with fail
                    go_ret
                    exact ⟨rfl, HW10.out⟩
                  · have g6 : (tag == 6) = false := by simpa using ht6
                    go_wp2_with fail
                    go_ret
                    exact ⟨rfl, HW10.out⟩
              | false =>
                have gy : ¬ m < 0 := of_decide_eq_false HF.out.my; have gyd : decide (m < 0) = false := HF.out.my
                have c0 : w8.cell? ⟨o2, 0, none⟩ = some (.int .i64 t) := HA8.out.cell (i := 0) rfl
                have d0 : w8.cell? ⟨o3, 0, none⟩ = some (.int .i64 t) := HB8.out.cell (i := 0) rfl
                have c1 : w8.cell? ⟨o2, 1, none⟩ = some (.string s) := HA8.out.cell (i := 1) rfl
                have d1 : w8.cell? ⟨o3, 1, none⟩ = some (.string s) := HB8.out.cell (i := 1) rfl
                have c2 : w8.cell? ⟨o2, 2, none⟩ = some (.int .u64 bi) := HA8.out.cell (i := 2) rfl
                have d2 : w8.cell? ⟨o3, 2, none⟩ = some (.int .u64 bi) := HB8.out.cell (i := 2) rfl
                have c3 : w8.cell? ⟨o2, 3, none⟩ = some (.string cl) := HA8.out.cell (i := 3) rfl
                have d3 : w8.cell? ⟨o3, 3, none⟩ = some (.string cl) := HB8.out.cell (i := 3) rfl
                have c4 : w8.cell? ⟨o2, 4, none⟩ = some (.string nm) := HA8.out.cell (i := 4) rfl
                have d4 : w8.cell? ⟨o3, 4, none⟩ = some (.string nm') := HB8.out.cell (i := 4) rfl
                have c5 : w8.cell? ⟨o2, 5, none⟩ = some (.string ds) := HA8.out.cell (i := 5) rfl
                have d5 : w8.cell? ⟨o3, 5, none⟩ = some (.string ds') := HB8.out.cell (i := 5) rfl
                go_wp2_with fail
                refine (HL1.out w8).mono ?_
                rintro e w9 ⟨rfl, hb9⟩
                have HA9 := Lib.hid (HA8.out.below hb9)
                have HB9 := Lib.hid (HB8.out.below hb9)
                have HW9 := Lib.hid (HW8.out.trans (hb9.mono HW8.out.size))
                clear hb9 c0 c1 c2 c3 c4 c5 d0 d1 d2 d3 d4 d5 HA8 HB8 HW8
                have c0 : w9.cell? ⟨o2, 0, none⟩ = some (.int .i64 t) := HA9.out.cell (i := 0) rfl
                have d0 : w9.cell? ⟨o3, 0, none⟩ = some (.int .i64 t) := HB9.out.cell (i := 0) rfl
                have c1 : w9.cell? ⟨o2, 1, none⟩ = some (.string s) := HA9.out.cell (i := 1) rfl
                have d1 : w9.cell? ⟨o3, 1, none⟩ = some (.string s) := HB9.out.cell (i := 1) rfl
                have c2 : w9.cell? ⟨o2, 2, none⟩ = some (.int .u64 bi) := HA9.out.cell (i := 2) rfl
                have d2 : w9.cell? ⟨o3, 2, none⟩ = some (.int .u64 bi) := HB9.out.cell (i := 2) rfl
                have c3 : w9.cell? ⟨o2, 3, none⟩ = some (.string cl) := HA9.out.cell (i := 3) rfl
                have d3 : w9.cell? ⟨o3, 3, none⟩ = some (.string cl) := HB9.out.cell (i := 3) rfl
                have c4 : w9.cell? ⟨o2, 4, none⟩ = some (.string nm) := HA9.out.cell (i := 4) rfl
                have d4 : w9.cell? ⟨o3, 4, none⟩ = some (.string nm') := HB9.out.cell (i := 4) rfl
                have c5 : w9.cell? ⟨o2, 5, none⟩ = some (.string ds) := HA9.out.cell (i := 5) rfl
                have d5 : w9.cell? ⟨o3, 5, none⟩ = some (.string ds') := HB9.out.cell (i := 5) rfl
                go_wp2_with fail
                refine (HL2.out w9).mono ?_
                rintro e w10 ⟨rfl, hb10⟩
                have HA10 := Lib.hid (HA9.out.below hb10)
                have HB10 := Lib.hid (HB9.out.below hb10)
                have HW10 := Lib.hid (HW9.out.trans (hb10.mono HW9.out.size))
                clear hb10 c0 c1 c2 c3 c4 c5 d0 d1 d2 d3 d4 d5 HA9 HB9 HW9
                have c0 : w10.cell? ⟨o2, 0, none⟩ = some (.int .i64 t) := HA10.out.cell (i := 0) rfl
                have d0 : w10.cell? ⟨o3, 0, none⟩ = some (.int .i64 t) := HB10.out.cell (i := 0) rfl
                have c1 : w10.cell? ⟨o2, 1, none⟩ = some (.string s) := HA10.out.cell (i := 1) rfl
                have d1 : w10.cell? ⟨o3, 1, none⟩ = some (.string s) := HB10.out.cell (i := 1) rfl
                have c2 : w10.cell? ⟨o2, 2, none⟩ = some (.int .u64 bi) := HA10.out.cell (i := 2) rfl
                have d2 : w10.cell? ⟨o3, 2, none⟩ = some (.int .u64 bi) := HB10.out.cell (i := 2) rfl
                have c3 : w10.cell? ⟨o2, 3, none⟩ = some (.string cl) := HA10.out.cell (i := 3) rfl
                have d3 : w10.cell? ⟨o3, 3, none⟩ = some (.string cl) := HB10.out.cell (i := 3) rfl
                have c4 : w10.cell? ⟨o2, 4, none⟩ = some (.string nm) := HA10.out.cell (i := 4) rfl
                have d4 : w10.cell? ⟨o3, 4, none⟩ = some (.string nm') := HB10.out.cell (i := 4) rfl
                have c5 : w10.cell? ⟨o2, 5, none⟩ = some (.string ds) := HA10.out.cell (i := 5) rfl
                have d5 : w10.cell? ⟨o3, 5, none⟩ = some (.string ds') := HB10.out.cell (i := 5) rfl
                go_wp2_with fail
                refine (wide_any tag w10).mono ?_
                rintro e w11 ⟨rfl, hw11⟩
                replace hw11 := hw11.symm
                subst hw11
                have HWD := Lib.hid (wide_eq tag)
                unfold wideT
                by_cases ht5 : tag = 5
                · subst ht5
                  go_wp2_with fail
                  go_ret
                  exact ⟨rfl, HW10.out⟩
                · have g5 : (tag == 5) = false := by simpa using ht5
                  by_cases ht6 : tag = 6
                  · subst ht6
                    go_wp2_with fail
                    go_ret
                    exact ⟨rfl, HW10.out⟩
                  · have g6 : (tag == 6) = false := by simpa using ht6
                    go_wp2_with fail
                    go_ret
                    exact ⟨rfl, HW10.out⟩
            | false =>
              have gx : ¬ n < 0 := of_decide_eq_false HF.out.nx; have gxd : decide (n < 0) = false := HF.out.nx
              cases y with
              | true =>
                have gy : m < 0 := of_decide_eq_true HF.out.my; have gyd : decide (m < 0) = true := HF.out.my
                have c0 : w8.cell? ⟨o2, 0, none⟩ = some (.int .i64 t) := HA8.out.cell (i := 0) rfl
                have d0 : w8.cell? ⟨o3, 0, none⟩ = some (.int .i64 t) := HB8.out.cell (i := 0) rfl
                have c1 : w8.cell? ⟨o2, 1, none⟩ = some (.string s) := HA8.out.cell (i := 1) rfl
                have d1 : w8.cell? ⟨o3, 1, none⟩ = some (.string s) := HB8.out.cell (i := 1) rfl
                have c2 : w8.cell? ⟨o2, 2, none⟩ = some (.int .u64 bi) := HA8.out.cell (i := 2) rfl
                have d2 : w8.cell? ⟨o3, 2, none⟩ = some (.int .u64 bi) := HB8.out.cell (i := 2) rfl
                have c3 : w8.cell? ⟨o2, 3, none⟩ = some (.string cl) := HA8.out.cell (i := 3) rfl
                have d3 : w8.cell? ⟨o3, 3, none⟩ = some (.string cl) := HB8.out.cell (i := 3) rfl
                have c4 : w8.cell? ⟨o2, 4, none⟩ = some (.string nm) := HA8.out.cell (i := 4) rfl
                have d4 : w8.cell? ⟨o3, 4, none⟩ = some (.string nm') := HB8.out.cell (i := 4) rfl
                have c5 : w8.cell? ⟨o2, 5, none⟩ = some (.string ds) := HA8.out.cell (i := 5) rfl
                have d5 : w8.cell? ⟨o3, 5, none⟩ = some (.string ds') := HB8.out.cell (i := 5) rfl
                go_wp2_with fail
                refine (HL1.out w8).mono ?_
                rintro e w9 ⟨rfl, hb9⟩
                have HA9 := Lib.hid (HA8.out.below hb9)
                have HB9 := Lib.hid (HB8.out.below hb9)
                have HW9 := Lib.hid (HW8.out.trans (hb9.mono HW8.out.size))
                clear hb9 c0 c1 c2 c3 c4 c5 d0 d1 d2 d3 d4 d5 HA8 HB8 HW8
                have c0 : w9.cell? ⟨o2, 0, none⟩ = some (.int .i64 t) := HA9.out.cell (i := 0) rfl
                have d0 : w9.cell? ⟨o3, 0, none⟩ = some (.int .i64 t) := HB9.out.cell (i := 0) rfl
                have c1 : w9.cell? ⟨o2, 1, none⟩ = some (.string s) := HA9.out.cell (i := 1) rfl
                have d1 : w9.cell? ⟨o3, 1, none⟩ = some (.string s) := HB9.out.cell (i := 1) rfl
                have c2 : w9.cell? ⟨o2, 2, none⟩ = some (.int .u64 bi) := HA9.out.cell (i := 2) rfl
                have d2 : w9.cell? ⟨o3, 2, none⟩ = some (.int .u64 bi) := HB9.out.cell (i := 2) rfl
                have c3 : w9.cell? ⟨o2, 3, none⟩ = some (.string cl) := HA9.out.cell (i := 3) rfl
                have d3 : w9.cell? ⟨o3, 3, none⟩ = some (.string cl) := HB9.out.cell (i := 3) rfl
                have c4 : w9.cell? ⟨o2, 4, none⟩ = some (.string nm) := HA9.out.cell (i := 4) rfl
                have d4 : w9.cell? ⟨o3, 4, none⟩ = some (.string nm') := HB9.out.cell (i := 4) rfl
                have c5 : w9.cell? ⟨o2, 5, none⟩ = some (.string ds) := HA9.out.cell (i := 5) rfl
                have d5 : w9.cell? ⟨o3, 5, none⟩ = some (.string ds') := HB9.out.cell (i := 5) rfl
                go_wp2_with fail
                refine (HL2.out w9).mono ?_
                rintro e w10 ⟨rfl, hb10⟩
                have HA10 := Lib.hid (HA9.out.below hb10)
                have HB10 := Lib.hid (HB9.out.below hb10)
                have HW10 := Lib.hid (HW9.out.trans (hb10.mono HW9.out.size))
                clear hb10 c0 c1 c2 c3 c4 c5 d0 d1 d2 d3 d4 d5 HA9 HB9 HW9
                have c0 : w10.cell? ⟨o2, 0, none⟩ = some (.int .i64 t) := HA10.out.cell (i := 0) rfl
                have d0 : w10.cell? ⟨o3, 0, none⟩ = some (.int .i64 t) := HB10.out.cell (i := 0) rfl
                have c1 : w10.cell? ⟨o2, 1, none⟩ = some (.string s) := HA10.out.cell (i := 1) rfl
                have d1 : w10.cell? ⟨o3, 1, none⟩ = some (.string s) := HB10.out.cell (i := 1) rfl
                have c2 : w10.cell? ⟨o2, 2, none⟩ = some (.int .u64 bi) := HA10.out.cell (i := 2) rfl
                have d2 : w10.cell? ⟨o3, 2, none⟩ = some (.int .u64 bi) := HB10.out.cell (i := 2) rfl
                have c3 : w10.cell? ⟨o2, 3, none⟩ = some (.string cl) := HA10.out.cell (i := 3) rfl
                have d3 : w10.cell? ⟨o3, 3, none⟩ = some (.string cl) := HB10.out.cell (i := 3) rfl
                have c4 : w10.cell? ⟨o2, 4, none⟩ = some (.string nm) := HA10.out.cell (i := 4) rfl
                have d4 : w10.cell? ⟨o3, 4, none⟩ = some (.string nm') := HB10.out.cell (i := 4) rfl
                have c5 : w10.cell? ⟨o2, 5, none⟩ = some (.string ds) := HA10.out.cell (i := 5) rfl
                have d5 : w10.cell? ⟨o3, 5, none⟩ = some (.string ds') := HB10.out.cell (i := 5) rfl
                go_wp2_with fail
                refine (wide_any tag w10).mono ?_
                rintro e w11 ⟨rfl, hw11⟩
                replace hw11 := hw11.symm
                subst hw11
                have HWD := Lib.hid (wide_eq tag)
                unfold wideT
                by_cases ht5 : tag = 5
                · subst ht5
                  go_wp2_with fail
                  go_ret
                  exact ⟨rfl, HW10.out⟩
                · have g5 : (tag == 5) = false := by simpa using ht5
                  by_cases ht6 : tag = 6
                  · subst ht6
                    go_wp2_with fail
                    go_ret
                    exact ⟨rfl, HW10.out⟩
                  · have g6 : (tag == 6) = false := by simpa using ht6
                    go_wp2_with fail
                    go_ret
                    exact ⟨rfl, HW10.out⟩
              | false =>
                have gy : ¬ m < 0 := of_decide_eq_false HF.out.my; have gyd : decide (m < 0) = false := HF.out.my
                have c0 : w8.cell? ⟨o2, 0, none⟩ = some (.int .i64 t) := HA8.out.cell (i := 0) rfl
                have d0 : w8.cell? ⟨o3, 0, none⟩ = some (.int .i64 t) := HB8.out.cell (i := 0) rfl
                have c1 : w8.cell? ⟨o2, 1, none⟩ = some (.string s) := HA8.out.cell (i := 1) rfl
                have d1 : w8.cell? ⟨o3, 1, none⟩ = some (.string s) := HB8.out.cell (i := 1) rfl
                have c2 : w8.cell? ⟨o2, 2, none⟩ = some (.int .u64 bi) := HA8.out.cell (i := 2) rfl
                have d2 : w8.cell? ⟨o3, 2, none⟩ = some (.int .u64 bi) := HB8.out.cell (i := 2) rfl
                have c3 : w8.cell? ⟨o2, 3, none⟩ = some (.string cl) := HA8.out.cell (i := 3) rfl
                have d3 : w8.cell? ⟨o3, 3, none⟩ = some (.string cl) := HB8.out.cell (i := 3) rfl
                have c4 : w8.cell? ⟨o2, 4, none⟩ = some (.string nm) := HA8.out.cell (i := 4) rfl
                have d4 : w8.cell? ⟨o3, 4, none⟩ = some (.string nm') := HB8.out.cell (i := 4) rfl
                have c5 : w8.cell? ⟨o2, 5, none⟩ = some (.string ds) := HA8.out.cell (i := 5) rfl
                have d5 : w8.cell? ⟨o3, 5, none⟩ = some (.string ds') := HB8.out.cell (i := 5) rfl
                go_wp2_with fail
                refine (HL1.out w8).mono ?_
                rintro e w9 ⟨rfl, hb9⟩
                have HA9 := Lib.hid (HA8.out.below hb9)
                have HB9 := Lib.hid (HB8.out.below hb9)
                have HW9 := Lib.hid (HW8.out.trans (hb9.mono HW8.out.size))
                clear hb9 c0 c1 c2 c3 c4 c5 d0 d1 d2 d3 d4 d5 HA8 HB8 HW8
                have c0 : w9.cell? ⟨o2, 0, none⟩ = some (.int .i64 t) := HA9.out.cell (i := 0) rfl
                have d0 : w9.cell? ⟨o3, 0, none⟩ = some (.int .i64 t) := HB9.out.cell (i := 0) rfl
                have c1 : w9.cell? ⟨o2, 1, none⟩ = some (.string s) := HA9.out.cell (i := 1) rfl
                have d1 : w9.cell? ⟨o3, 1, none⟩ = some (.string s) := HB9.out.cell (i := 1) rfl
                have c2 : w9.cell? ⟨o2, 2, none⟩ = some (.int .u64 bi) := HA9.out.cell (i := 2) rfl
                have d2 : w9.cell? ⟨o3, 2, none⟩ = some (.int .u64 bi) := HB9.out.cell (i := 2) rfl
                have c3 : w9.cell? ⟨o2, 3, none⟩ = some (.string cl) := HA9.out.cell (i := 3) rfl
                have d3 : w9.cell? ⟨o3, 3, none⟩ = some (.string cl) := HB9.out.cell (i := 3) rfl
                have c4 : w9.cell? ⟨o2, 4, none⟩ = some (.string nm) := HA9.out.cell (i := 4) rfl
                have d4 : w9.cell? ⟨o3, 4, none⟩ = some (.string nm') := HB9.out.cell (i := 4) rfl
                have c5 : w9.cell? ⟨o2, 5, none⟩ = some (.string ds) := HA9.out.cell (i := 5) rfl
                have d5 : w9.cell? ⟨o3, 5, none⟩ = some (.string ds') := HB9.out.cell (i := 5) rfl
                go_wp2_with fail
                refine (HL2.out w9).mono ?_
                rintro e w10 ⟨rfl, hb10⟩
                have HA10 := Lib.hid (HA9.out.below hb10)
                have HB10 := Lib.hid (HB9.out.below hb10)
                have HW10 := Lib.hid (HW9.out.trans (hb10.mono HW9.out.size))
                clear hb10 c0 c1 c2 c3 c4 c5 d0 d1 d2 d3 d4 d5 HA9 HB9 HW9
                have c0 : w10.cell? ⟨o2, 0, none⟩ = some (.int .i64 t) := HA10.out.cell (i := 0) rfl
                have d0 : w10.cell? ⟨o3, 0, none⟩ = some (.int .i64 t) := HB10.out.cell (i := 0) rfl
                have c1 : w10.cell? ⟨o2, 1, none⟩ = some (.string s) := HA10.out.cell (i := 1) rfl
                have d1 : w10.cell? ⟨o3, 1, none⟩ = some (.string s) := HB10.out.cell (i := 1) rfl
                have c2 : w10.cell? ⟨o2, 2, none⟩ = some (.int .u64 bi) := HA10.out.cell (i := 2) rfl
                have d2 : w10.cell? ⟨o3, 2, none⟩ = some (.int .u64 bi) := HB10.out.cell (i := 2) rfl
                have c3 : w10.cell? ⟨o2, 3, none⟩ = some (.string cl) := HA10.out.cell (i := 3) rfl
                have d3 : w10.cell? ⟨o3, 3, none⟩ = some (.string cl) := HB10.out.cell (i := 3) rfl
                have c4 : w10.cell? ⟨o2, 4, none⟩ = some (.string nm) := HA10.out.cell (i := 4) rfl
                have d4 : w10.cell? ⟨o3, 4, none⟩ = some (.string nm') := HB10.out.cell (i := 4) rfl
                have c5 : w10.cell? ⟨o2, 5, none⟩ = some (.string ds) := HA10.out.cell (i := 5) rfl
                have d5 : w10.cell? ⟨o3, 5, none⟩ = some (.string ds') := HB10.out.cell (i := 5) rfl
                go_wp2_with fail
                refine (wide_any tag w10).mono ?_
                rintro e w11 ⟨rfl, hw11⟩
                replace hw11 := hw11.symm
                subst hw11
                have HWD := Lib.hid (wide_eq tag)
                unfold wideT
                by_cases ht5 : tag = 5
                · subst ht5
                  go_wp2_with fail
                  go_ret
                  exact ⟨rfl, HW10.out⟩
                · have g5 : (tag == 5) = false := by simpa using ht5
                  by_cases ht6 : tag = 6
                  · subst ht6
                    go_wp2_with fail
                    go_ret
                    exact ⟨rfl, HW10.out⟩
                  · have g6 : (tag == 6) = false := by simpa using ht6
                    go_wp2_with fail
                    go_ret
                    exact ⟨rfl, HW10.out⟩
        · have HF := Lib.hid (HO.out false (by simp [h3]))
          have g0 : ¬ cl.toList = cl'.toList := fun e => h3 (str_inj e)
          have g1 : (cl.toList == cl'.toList) = false := by simpa using g0
          have gn := HF.out.n0
          have gm := HF.out.m0
          cases x with
          | true =>
            have gx : n < 0 := of_decide_eq_true HF.out.nx; have gxd : decide (n < 0) = true := HF.out.nx
            cases y with
            | true =>
              have gy : m < 0 := of_decide_eq_true HF.out.my; have gyd : decide (m < 0) = true := HF.out.my
              have c0 : w8.cell? ⟨o2, 0, none⟩ = some (.int .i64 t) := HA8.out.cell (i := 0) rfl
              have d0 : w8.cell? ⟨o3, 0, none⟩ = some (.int .i64 t) := HB8.out.cell (i := 0) rfl
              have c1 : w8.cell? ⟨o2, 1, none⟩ = some (.string s) := HA8.out.cell (i := 1) rfl
              have d1 : w8.cell? ⟨o3, 1, none⟩ = some (.string s) := HB8.out.cell (i := 1) rfl
              have c2 : w8.cell? ⟨o2, 2, none⟩ = some (.int .u64 bi) := HA8.out.cell (i := 2) rfl
              have d2 : w8.cell? ⟨o3, 2, none⟩ = some (.int .u64 bi) := HB8.out.cell (i := 2) rfl
              have c3 : w8.cell? ⟨o2, 3, none⟩ = some (.string cl) := HA8.out.cell (i := 3) rfl
              have d3 : w8.cell? ⟨o3, 3, none⟩ = some (.string cl') := HB8.out.cell (i := 3) rfl
              have c4 : w8.cell? ⟨o2, 4, none⟩ = some (.string nm) := HA8.out.cell (i := 4) rfl
              have d4 : w8.cell? ⟨o3, 4, none⟩ = some (.string nm') := HB8.out.cell (i := 4) rfl
              have c5 : w8.cell? ⟨o2, 5, none⟩ = some (.string ds) := HA8.out.cell (i := 5) rfl
              have d5 : w8.cell? ⟨o3, 5, none⟩ = some (.string ds') := HB8.out.cell (i := 5) rfl
              go_wp2_with fail
              refine (HL1.out w8).mono ?_
              rintro e w9 ⟨rfl, hb9⟩
              have HA9 := Lib.hid (HA8.out.below hb9)
              have HB9 := Lib.hid (HB8.out.below hb9)
              have HW9 := Lib.hid (HW8.out.trans (hb9.mono HW8.out.size))
              clear hb9 c0 c1 c2 c3 c4 c5 d0 d1 d2 d3 d4 d5 HA8 HB8 HW8
              have c0 : w9.cell? ⟨o2, 0, none⟩ = some (.int .i64 t) := HA9.out.cell (i := 0) rfl
              have d0 : w9.cell? ⟨o3, 0, none⟩ = some (.int .i64 t) := HB9.out.cell (i := 0) rfl
              have c1 : w9.cell? ⟨o2, 1, none⟩ = some (.string s) := HA9.out.cell (i := 1) rfl
              have d1 : w9.cell? ⟨o3, 1, none⟩ = some (.string s) := HB9.out.cell (i := 1) rfl
              have c2 : w9.cell? ⟨o2, 2, none⟩ = some (.int .u64 bi) := HA9.out.cell (i := 2) rfl
              have d2 : w9.cell? ⟨o3, 2, none⟩ = some (.int .u64 bi) := HB9.out.cell (i := 2) rfl
              have c3 : w9.cell? ⟨o2, 3, none⟩ = some (.string cl) := HA9.out.cell (i := 3) rfl
              have d3 : w9.cell? ⟨o3, 3, none⟩ = some (.string cl') := HB9.out.cell (i := 3) rfl
              have c4 : w9.cell? ⟨o2, 4, none⟩ = some (.string nm) := HA9.out.cell (i := 4) rfl
              have d4 : w9.cell? ⟨o3, 4, none⟩ = some (.string nm') := HB9.out.cell (i := 4) rfl
              have c5 : w9.cell? ⟨o2, 5, none⟩ = some (.string ds) := HA9.out.cell (i := 5) rfl
              have d5 : w9.cell? ⟨o3, 5, none⟩ = some (.string ds') := HB9.out.cell (i := 5) rfl
              go_wp2_with fail
              refine (HL2.out w9).mono ?_
              rintro e w10 ⟨rfl, hb10⟩
              have HA10 := Lib.hid (HA9.out.below hb10)
              have HB10 := Lib.hid (HB9.out.below hb10)
              have HW10 := Lib.hid (HW9.out.trans (hb10.mono HW9.out.size))
              clear hb10 c0 c1 c2 c3 c4 c5 d0 d1 d2 d3 d4 d5 HA9 HB9 HW9
              have c0 : w10.cell? ⟨o2, 0, none⟩ = some (.int .i64 t) := HA10.out.cell (i := 0) rfl
              have d0 : w10.cell? ⟨o3, 0, none⟩ = some (.int .i64 t) := HB10.out.cell (i := 0) rfl
              have c1 : w10.cell? ⟨o2, 1, none⟩ = some (.string s) := HA10.out.cell (i := 1) rfl
              have d1 : w10.cell? ⟨o3, 1, none⟩ = some (.string s) := HB10.out.cell (i := 1) rfl
              have c2 : w10.cell? ⟨o2, 2, none⟩ = some (.int .u64 bi) := HA10.out.cell (i := 2) rfl
              have d2 : w10.cell? ⟨o3, 2, none⟩ = some (.int .u64 bi) := HB10.out.cell (i := 2) rfl
              have c3 : w10.cell? ⟨o2, 3, none⟩ = some (.string cl) := HA10.out.cell (i := 3) rfl
              have d3 : w10.cell? ⟨o3, 3, none⟩ = some (.string cl') := HB10.out.cell (i := 3) rfl
              have c4 : w10.cell? ⟨o2, 4, none⟩ = some (.string nm) := HA10.out.cell (i := 4) rfl
              have d4 : w10.cell? ⟨o3, 4, none⟩ = some (.string nm') := HB10.out.cell (i := 4) rfl
              have c5 : w10.cell? ⟨o2, 5, none⟩ = some (.string ds) := HA10.out.cell (i := 5) rfl
              have d5 : w10.cell? ⟨o3, 5, none⟩ = some (.string ds') := HB10.out.cell (i := 5) rfl
              go_wp2_with fail
              refine (wide_any tag w10).mono ?_
              rintro e w11 ⟨rfl, hw11⟩
              replace hw11 := hw11.symm
              subst hw11
              have HWD := Lib.hid (wide_eq tag)
              unfold wideT
              by_cases ht5 : tag = 5
              · subst ht5
                go_wp2_with fail
                go_ret
                exact ⟨rfl, HW10.out⟩
              · have g5 : (tag == 5) = false := by simpa using ht5
                by_cases ht6 : tag = 6
                · subst ht6
                  go_wp2_with fail
                  go_ret
                  exact ⟨rfl, HW10.out⟩
                · have g6 : (tag == 6) = false := by simpa using ht6
                  go_wp2_with fail
                  go_ret
                  exact ⟨rfl, HW10.out⟩
            | false =>
              have gy : ¬ m < 0 := of_decide_eq_false HF.out.my; have gyd : decide (m < 0) = false := HF.out.my
              have c0 : w8.cell? ⟨o2, 0, none⟩ = some (.int .i64 t) := HA8.out.cell (i := 0) rfl
              have d0 : w8.cell? ⟨o3, 0, none⟩ = some (.int .i64 t) := HB8.out.cell (i := 0) rfl
              have c1 : w8.cell? ⟨o2, 1, none⟩ = some (.string s) := HA8.out.cell (i := 1) rfl
              have d1 : w8.cell? ⟨o3, 1, none⟩ = some (.string s) := HB8.out.cell (i := 1) rfl
              have c2 : w8.cell? ⟨o2, 2, none⟩ = some (.int .u64 bi) := HA8.out.cell (i := 2) rfl
              have d2 : w8.cell? ⟨o3, 2, none⟩ = some (.int .u64 bi) := HB8.out.cell (i := 2) rfl
              have c3 : w8.cell? ⟨o2, 3, none⟩ = some (.string cl) := HA8.out.cell (i := 3) rfl
              have d3 : w8.cell? ⟨o3, 3, none⟩ = some (.string cl') := HB8.out.cell (i := 3) rfl
              have c4 : w8.cell? ⟨o2, 4, none⟩ = some (.string nm) := HA8.out.cell (i := 4) rfl
              have d4 : w8.cell? ⟨o3, 4, none⟩ = some (.string nm') := HB8.out.cell (i := 4) rfl
              have c5 : w8.cell? ⟨o2, 5, none⟩ = some (.string ds) := HA8.out.cell (i := 5) rfl
              have d5 : w8.cell? ⟨o3, 5, none⟩ = some (.string ds') := HB8.out.cell (i := 5) rfl
              go_wp2_with fail
              refine (HL1.out w8).mono ?_
              rintro e w9 ⟨rfl, hb9⟩
              have HA9 := Lib.hid (HA8.out.below hb9)
              have HB9 := Lib.hid (HB8.out.below hb9)
              have HW9 := Lib.hid (HW8.out.trans (hb9.mono HW8.out.size))
              clear hb9 c0 c1 c2 c3 c4 c5 d0 d1 d2 d3 d4 d5 HA8 HB8 HW8
              have c0 : w9.cell? ⟨o2, 0, none⟩ = some (.int .i64 t) := HA9.out.cell (i := 0) rfl
              have d0 : w9.cell? ⟨o3, 0, none⟩ = some (.int .i64 t) := HB9.out.cell (i := 0) rfl
              have c1 : w9.cell? ⟨o2, 1, none⟩ = some (.string s) := HA9.out.cell (i := 1) rfl
              have d1 : w9.cell? ⟨o3, 1, none⟩ = some (.string s) := HB9.out.cell (i := 1) rfl
              have c2 : w9.cell? ⟨o2, 2, none⟩ = some (.int .u64 bi) := HA9.out.cell (i := 2) rfl
              have d2 : w9.cell? ⟨o3, 2, none⟩ = some (.int .u64 bi) := HB9.out.cell (i := 2) rfl
              have c3 : w9.cell? ⟨o2, 3, none⟩ = some (.string cl) := HA9.out.cell (i := 3) rfl
              have d3 : w9.cell? ⟨o3, 3, none⟩ = some (.string cl') := HB9.out.cell (i := 3) rfl
              have c4 : w9.cell? ⟨o2, 4, none⟩ = some (.string nm) := HA9.out.cell (i := 4) rfl
              have d4 : w9.cell? ⟨o3, 4, none⟩ = some (.string nm') := HB9.out.cell (i := 4) rfl
              have c5 : w9.cell? ⟨o2, 5, none⟩ = some (.string ds) := HA9.out.cell (i := 5) rfl
              have d5 : w9.cell? ⟨o3, 5, none⟩ = some (.string ds') := HB9.out.cell (i := 5) rfl
              go_wp2_with fail
              refine (HL2.out w9).mono ?_
              rintro e w10 ⟨rfl, hb10⟩
              have HA10 := Lib.hid (HA9.out.below hb10)
              have HB10 := Lib.hid (HB9.out.below hb10)
              have HW10 := Lib.hid (HW9.out.trans (hb10.mono HW9.out.size))
              clear hb10 c0 c1 c2 c3 c4 c5 d0 d1 d2 d3 d4 d5 HA9 HB9 HW9
              have c0 : w10.cell? ⟨o2, 0, none⟩ = some (.int .i64 t) := HA10.out.cell (i := 0) rfl
              have d0 : w10.cell? ⟨o3, 0, none⟩ = some (.int .i64 t) := HB10.out.cell (i := 0) rfl
              have c1 : w10.cell? ⟨o2, 1, none⟩ = some (.string s) := HA10.out.cell (i := 1) rfl
              have d1 : w10.cell? ⟨o3, 1, none⟩ = some (.string s) := HB10.out.cell (i := 1) rfl
              have c2 : w10.cell? ⟨o2, 2, none⟩ = some (.int .u64 bi) := HA10.out.cell (i := 2) rfl
              have d2 : w10.cell? ⟨o3, 2, none⟩ = some (.int .u64 bi) := HB10.out.cell (i := 2) rfl
              have c3 : w10.cell? ⟨o2, 3, none⟩ = some (.string cl) := HA10.out.cell (i := 3) rfl
              have d3 : w10.cell? ⟨o3, 3, none⟩ = some (.string cl') := HB10.out.cell (i := 3) rfl
              have c4 : w10.cell? ⟨o2, 4, none⟩ = some (.string nm) := HA10.out.cell (i := 4) rfl
              have d4 : w10.cell? ⟨o3, 4, none⟩ = some (.string nm') := HB10.out.cell (i := 4) rfl
              have c5 : w10.cell? ⟨o2, 5, none⟩ = some (.string ds) := HA10.out.cell (i := 5) rfl
              have d5 : w10.cell? ⟨o3, 5, none⟩ = some (.string ds') := HB10.out.cell (i := 5) rfl
              go_wp2_with fail
              refine (wide_any tag w10).mono ?_
              rintro e w11 ⟨rfl, hw11⟩
              replace hw11 := hw11.symm
              subst hw11
              have HWD := Lib.hid (wide_eq tag)
              unfold wideT
              by_cases ht5 : tag = 5
              · subst ht5
                go_wp2_with fail
                go_ret
                exact ⟨rfl, HW10.out⟩
              · have g5 : (tag == 5) = false := by simpa using ht5
                by_cases ht6 : tag = 6
                · subst ht6
                  go_wp2_with fail
                  go_ret
                  exact ⟨rfl, HW10.out⟩
                · have g6 : (tag == 6) = false := by simpa using ht6
                  go_wp2_with fail
                  go_ret
                  exact ⟨rfl, HW10.out⟩
          | false =>
            have gx : ¬ n < 0 := of_decide_eq_false HF.out.nx; have gxd : decide (n < 0) = false := HF.out.nx
            cases y with
            | true =>
              have gy : m < 0 := of_decide_eq_true HF.out.my; have gyd : decide (m < 0) = true := HF.out.my
              have c0 : w8.cell? ⟨o2, 0, none⟩ = some (.int .i64 t) := HA8.out.cell (i := 0) rfl
              have d0 : w8.cell? ⟨o3, 0, none⟩ = some (.int .i64 t) := HB8.out.cell (i := 0) rfl
              have c1 : w8.cell? ⟨o2, 1, none⟩ = some (.string s) := HA8.out.cell (i := 1) rfl
              have d1 : w8.cell? ⟨o3, 1, none⟩ = some (.string s) := HB8.out.cell (i := 1) rfl
              have c2 : w8.cell? ⟨o2, 2, none⟩ = some (.int .u64 bi) := HA8.out.cell (i := 2) rfl
              have d2 : w8.cell? ⟨o3, 2, none⟩ = some (.int .u64 bi) := HB8.out.cell (i := 2) rfl
              have c3 : w8.cell? ⟨o2, 3, none⟩ = some (.string cl) := HA8.out.cell (i := 3) rfl
              have d3 : w8.cell? ⟨o3, 3, none⟩ = some (.string cl') := HB8.out.cell (i := 3) rfl
              have c4 : w8.cell? ⟨o2, 4, none⟩ = some (.string nm) := HA8.out.cell (i := 4) rfl
              have d4 : w8.cell? ⟨o3, 4, none⟩ = some (.string nm') := HB8.out.cell (i := 4) rfl
              have c5 : w8.cell? ⟨o2, 5, none⟩ = some (.string ds) := HA8.out.cell (i := 5) rfl
              have d5 : w8.cell? ⟨o3, 5, none⟩ = some (.string ds') := HB8.out.cell (i := 5) rfl
              go_wp2_with fail
              refine (HL1.out w8).mono ?_
              rintro e w9 ⟨rfl, hb9⟩
              have HA9 := Lib.hid (HA8.out.below hb9)
              have HB9 := Lib.hid (HB8.out.below hb9)
              have HW9 := Lib.hid (HW8.out.trans (hb9.mono HW8.out.size))
              clear hb9 c0 c1 c2 c3 c4 c5 d0 d1 d2 d3 d4 d5 HA8 HB8 HW8
              have c0 : w9.cell? ⟨o2, 0, none⟩ = some (.int .i64 t) := HA9.out.cell (i := 0) rfl
              have d0 : w9.cell? ⟨o3, 0, none⟩ = some (.int .i64 t) := HB9.out.cell (i := 0) rfl
              have c1 : w9.cell? ⟨o2, 1, none⟩ = some (.string s) := HA9.out.cell (i := 1) rfl
              have d1 : w9.cell? ⟨o3, 1, none⟩ = some (.string s) := HB9.out.cell (i := 1) rfl
              have c2 : w9.cell? ⟨o2, 2, none⟩ = some (.int .u64 bi) := HA9.out.cell (i := 2) rfl
              have d2 : w9.cell? ⟨o3, 2, none⟩ = some (.int .u64 bi) := HB9.out.cell (i := 2) rfl
              have c3 : w9.cell? ⟨o2, 3, none⟩ = some (.string cl) := HA9.out.cell (i := 3) rfl
              have d3 : w9.cell? ⟨o3, 3, none⟩ = some (.string cl') := HB9.out.cell (i := 3) rfl
              have c4 : w9.cell? ⟨o2, 4, none⟩ = some (.string nm) := HA9.out.cell (i := 4) rfl
              have d4 : w9.cell? ⟨o3, 4, none⟩ = some (.string nm') := HB9.out.cell (i := 4) rfl
              have c5 : w9.cell? ⟨o2, 5, none⟩ = some (.string ds) := HA9.out.cell (i := 5) rfl
              have d5 : w9.cell? ⟨o3, 5, none⟩ = some (.string ds') := HB9.out.cell (i := 5) rfl
              go_wp2_with fail
              refine (HL2.out w9).mono ?_
              rintro e w10 ⟨rfl, hb10⟩
              have HA10 := Lib.hid (HA9.out.below hb10)
              have HB10 := Lib.hid (HB9.out.below hb10)
              have HW10 := Lib.hid (HW9.out.trans (hb10.mono HW9.out.size))
              clear hb10 c0 c1 c2 c3 c4 c5 d0 d1 d2 d3 d4 d5 HA9 HB9 HW9
              have c0 : w10.cell? ⟨o2, 0, none⟩ = some (.int .i64 t) := HA10.out.cell (i := 0) rfl
              have d0 : w10.cell? ⟨o3, 0, none⟩ = some (.int .i64 t) := HB10.out.cell (i := 0) rfl
              have c1 : w10.cell? ⟨o2, 1, none⟩ = some (.string s) := HA10.out.cell (i := 1) rfl
              have d1 : w10.cell? ⟨o3, 1, none⟩ = some (.string s) := HB10.out.cell (i := 1) rfl
              have c2 : w10.cell? ⟨o2, 2, none⟩ = some (.int .u64 bi) := HA10.out.cell (i := 2) rfl
              have d2 : w10.cell? ⟨o3, 2, none⟩ = some (.int .u64 bi) := HB10.out.cell (i := 2) rfl
              have c3 : w10.cell? ⟨o2, 3, none⟩ = some (.string cl) := HA10.out.cell (i := 3) rfl
              have d3 : w10.cell? ⟨o3, 3, none⟩ = some (.string cl') := HB10.out.cell (i := 3) rfl
              have c4 : w10.cell? ⟨o2, 4, none⟩ = some (.string nm) := HA10.out.cell (i := 4) rfl
              have d4 : w10.cell? ⟨o3, 4, none⟩ = some (.string nm') := HB10.out.cell (i := 4) rfl
              have c5 : w10.cell? ⟨o2, 5, none⟩ = some (.string ds) := HA10.out.cell (i := 5) rfl
              have d5 : w10.cell? ⟨o3, 5, none⟩ = some (.string ds') := HB10.out.cell (i := 5) rfl
              go_wp2_with fail
              refine (wide_any tag w10).mono ?_
              rintro e w11 ⟨rfl, hw11⟩
              replace hw11 := hw11.symm
              subst hw11
              have HWD := Lib.hid (wide_eq tag)
              unfold wideT
              by_cases ht5 : tag = 5
              · subst ht5
                go_wp2_with fail
                go_ret
                exact ⟨rfl, HW10.out⟩
              · have g5 : (tag == 5) = false := by simpa using ht5
                by_cases ht6 : tag = 6
                · subst ht6
                  go_wp2_with fail
                  go_ret
                  exact ⟨rfl, HW10.out⟩
                · have g6 : (tag == 6) = false := by simpa using ht6
                  go_wp2_with fail
                  go_ret
                  exact ⟨rfl, HW10.out⟩
            | false =>
              have gy : ¬ m < 0 := of_decide_eq_false HF.out.my; have gyd : decide (m < 0) = false := HF.out.my
              have c0 : w8.cell? ⟨o2, 0, none⟩ = some (.int .i64 t) := HA8.out.cell (i := 0) rfl
              have d0 : w8.cell? ⟨o3, 0, none⟩ = some (.int .i64 t) := HB8.out.cell (i := 0) rfl
              have c1 : w8.cell? ⟨o2, 1, none⟩ = some (.string s) := HA8.out.cell (i := 1) rfl
              have d1 : w8.cell? ⟨o3, 1, none⟩ = some (.string s) := HB8.out.cell (i := 1) rfl
              have c2 : w8.cell? ⟨o2, 2, none⟩ = some (.int .u64 bi) := HA8.out.cell (i := 2) rfl
              have d2 : w8.cell? ⟨o3, 2, none⟩ = some (.int .u64 bi) := HB8.out.cell (i := 2) rfl
              have c3 : w8.cell? ⟨o2, 3, none⟩ = some (.string cl) := HA8.out.cell (i := 3) rfl
              have d3 : w8.cell? ⟨o3, 3, none⟩ = some (.string cl') := HB8.out.cell (i := 3) rfl
              have c4 : w8.cell? ⟨o2, 4, none⟩ = some (.string nm) := HA8.out.cell (i := 4) rfl
              have d4 : w8.cell? ⟨o3, 4, none⟩ = some (.string nm') := HB8.out.cell (i := 4) rfl
              have c5 : w8.cell? ⟨o2, 5, none⟩ = some (.string ds) := HA8.out.cell (i := 5) rfl
              have d5 : w8.cell? ⟨o3, 5, none⟩ = some (.string ds') := HB8.out.cell (i := 5) rfl
              go_wp2_with fail
              refine (HL1.out w8).mono ?_
              rintro e w9 ⟨rfl, hb9⟩
              have HA9 := Lib.hid (HA8.out.below hb9)
              have HB9 := Lib.hid (HB8.out.below hb9)
              have HW9 := Lib.hid (HW8.out.trans (hb9.mono HW8.out.size))
              clear hb9 c0 c1 c2 c3 c4 c5 d0 d1 d2 d3 d4 d5 HA8 HB8 HW8
              have c0 : w9.cell? ⟨o2, 0, none⟩ = some (.int .i64 t) := HA9.out.cell (i := 0) rfl
              have d0 : w9.cell? ⟨o3, 0, none⟩ = some (.int .i64 t) := HB9.out.cell (i := 0) rfl
              have c1 : w9.cell? ⟨o2, 1, none⟩ = some (.string s) := HA9.out.cell (i := 1) rfl
              have d1 : w9.cell? ⟨o3, 1, none⟩ = some (.string s) := HB9.out.cell (i := 1) rfl
              have c2 : w9.cell? ⟨o2, 2, none⟩ = some (.int .u64 bi) := HA9.out.cell (i := 2) rfl
              have d2 : w9.cell? ⟨o3, 2, none⟩ = some (.int .u64 bi) := HB9.out.cell (i := 2) rfl
              have c3 : w9.cell? ⟨o2, 3, none⟩ = some (.string cl) := HA9.out.cell (i := 3) rfl
              have d3 : w9.cell? ⟨o3, 3, none⟩ = some (.string cl') := HB9.out.cell (i := 3) rfl
              have c4 : w9.cell? ⟨o2, 4, none⟩ = some (.string nm) := HA9.out.cell (i := 4) rfl
              have d4 : w9.cell? ⟨o3, 4, none⟩ = some (.string nm') := HB9.out.cell (i := 4) rfl
              have c5 : w9.cell? ⟨o2, 5, none⟩ = some (.string ds) := HA9.out.cell (i := 5) rfl
              have d5 : w9.cell? ⟨o3, 5, none⟩ = some (.string ds') := HB9.out.cell (i := 5) rfl
              go_wp2_with fail
              refine (HL2.out w9).mono ?_
              rintro e w10 ⟨rfl, hb10⟩
              have HA10 := Lib.hid (HA9.out.below hb10)
              have HB10 := Lib.hid (HB9.out.below hb10)
              have HW10 := Lib.hid (HW9.out.trans (hb10.mono HW9.out.size))
              clear hb10 c0 c1 c2 c3 c4 c5 d0 d1 d2 d3 d4 d5 HA9 HB9 HW9
              have c0 : w10.cell? ⟨o2, 0, none⟩ = some (.int .i64 t) := HA10.out.cell (i := 0) rfl
              have d0 : w10.cell? ⟨o3, 0, none⟩ = some (.int .i64 t) := HB10.out.cell (i := 0) rfl
              have c1 : w10.cell? ⟨o2, 1, none⟩ = some (.string s) := HA10.out.cell (i := 1) rfl
              have d1 : w10.cell? ⟨o3, 1, none⟩ = some (.string s) := HB10.out.cell (i := 1) rfl
              have c2 : w10.cell? ⟨o2, 2, none⟩ = some (.int .u64 bi) := HA10.out.cell (i := 2) rfl
              have d2 : w10.cell? ⟨o3, 2, none⟩ = some (.int .u64 bi) := HB10.out.cell (i := 2) rfl
              have c3 : w10.cell? ⟨o2, 3, none⟩ = some (.string cl) := HA10.out.cell (i := 3) rfl
              have d3 : w10.cell? ⟨o3, 3, none⟩ = some (.string cl') := HB10.out.cell (i := 3) rfl
              have c4 : w10.cell? ⟨o2, 4, none⟩ = some (.string nm) := HA10.out.cell (i := 4) rfl
              have d4 : w10.cell? ⟨o3, 4, none⟩ = some (.string nm') := HB10.out.cell (i := 4) rfl
              have c5 : w10.cell? ⟨o2, 5, none⟩ = some (.string ds) := HA10.out.cell (i := 5) rfl
              have d5 : w10.cell? ⟨o3, 5, none⟩ = some (.string ds') := HB10.out.cell (i := 5) rfl
              go_wp2_with fail
              refine (wide_any tag w10).mono ?_
              rintro e w11 ⟨rfl, hw11⟩
              replace hw11 := hw11.symm
              subst hw11
              have HWD := Lib.hid (wide_eq tag)
              unfold wideT
              by_cases ht5 : tag = 5
              · subst ht5
                go_wp2_with fail
                go_ret
                exact ⟨rfl, HW10.out⟩
              · have g5 : (tag == 5) = false := by simpa using ht5
                by_cases ht6 : tag = 6
                · subst ht6
                  go_wp2_with fail
                  go_ret
                  exact ⟨rfl, HW10.out⟩
                · have g6 : (tag == 6) = false := by simpa using ht6
                  go_wp2_with fail
                  go_ret
                  exact ⟨rfl, HW10.out⟩
      · have HF := Lib.hid (HO.out false (by simp [h2]))
        have g1 : (bi == bi') = false := by simpa using h2
        have gn := HF.out.n0
        have gm := HF.out.m0
        cases x with
        | true =>
          have gx : n < 0 := of_decide_eq_true HF.out.nx; have gxd : decide (n < 0) = true := HF.out.nx
          cases y with
          | true =>
            have gy : m < 0 := of_decide_eq_true HF.out.my; have gyd : decide (m < 0) = true := HF.out.my
            have c0 : w8.cell? ⟨o2, 0, none⟩ = some (.int .i64 t) := HA8.out.cell (i := 0) rfl
            have d0 : w8.cell? ⟨o3, 0, none⟩ = some (.int .i64 t) := HB8.out.cell (i := 0) rfl
            have c1 : w8.cell? ⟨o2, 1, none⟩ = some (.string s) := HA8.out.cell (i := 1) rfl
            have d1 : w8.cell? ⟨o3, 1, none⟩ = some (.string s) := HB8.out.cell (i := 1) rfl
            have c2 : w8.cell? ⟨o2, 2, none⟩ = some (.int .u64 bi) := HA8.out.cell (i := 2) rfl
            have d2 : w8.cell? ⟨o3, 2, none⟩ = some (.int .u64 bi') := HB8.out.cell (i := 2) rfl
            have c3 : w8.cell? ⟨o2, 3, none⟩ = some (.string cl) := HA8.out.cell (i := 3) rfl
            have d3 : w8.cell? ⟨o3, 3, none⟩ = some (.string cl') := HB8.out.cell (i := 3) rfl
            have c4 : w8.cell? ⟨o2, 4, none⟩ = some (.string nm) := HA8.out.cell (i := 4) rfl
            have d4 : w8.cell? ⟨o3, 4, none⟩ = some (.string nm') := HB8.out.cell (i := 4) rfl
            have c5 : w8.cell? ⟨o2, 5, none⟩ = some (.string ds) := HA8.out.cell (i := 5) rfl
            have d5 : w8.cell? ⟨o3, 5, none⟩ = some (.string ds') := HB8.out.cell (i := 5) rfl
            go_wp2_with fail
            refine (HL1.out w8).mono ?_
            rintro e w9 ⟨rfl, hb9⟩
            have HA9 := Lib.hid (HA8.out.below hb9)
            have HB9 := Lib.hid (HB8.out.below hb9)
            have HW9 := Lib.hid (HW8.out.trans (hb9.mono HW8.out.size))
            clear hb9 c0 c1 c2 c3 c4 c5 d0 d1 d2 d3 d4 d5 HA8 HB8 HW8
            have c0 : w9.cell? ⟨o2, 0, none⟩ = some (.int .i64 t) := HA9.out.cell (i := 0) rfl
            have d0 : w9.cell? ⟨o3, 0, none⟩ = some (.int .i64 t) := HB9.out.cell (i := 0) rfl
            have c1 : w9.cell? ⟨o2, 1, none⟩ = some (.string s) := HA9.out.cell (i := 1) rfl
            have d1 : w9.cell? ⟨o3, 1, none⟩ = some (.string s) := HB9.out.cell (i := 1) rfl
            have c2 : w9.cell? ⟨o2, 2, none⟩ = some (.int .u64 bi) := HA9.out.cell (i := 2) rfl
            have d2 : w9.cell? ⟨o3, 2, none⟩ = some (.int .u64 bi') := HB9.out.cell (i := 2) rfl
            have c3 : w9.cell? ⟨o2, 3, none⟩ = some (.string cl) := HA9.out.cell (i := 3) rfl
            have d3 : w9.cell? ⟨o3, 3, none⟩ = some (.string cl') := HB9.out.cell (i := 3) rfl
            have c4 : w9.cell? ⟨o2, 4, none⟩ = some (.string nm) := HA9.out.cell (i := 4) rfl
            have d4 : w9.cell? ⟨o3, 4, none⟩ = some (.string nm') := HB9.out.cell (i := 4) rfl
            have c5 : w9.cell? ⟨o2, 5, none⟩ = some (.string ds) := HA9.out.cell (i := 5) rfl
            have d5 : w9.cell? ⟨o3, 5, none⟩ = some (.string ds') := HB9.out.cell (i := 5) rfl
            go_wp2_with fail
            refine (HL2.out w9).mono ?_
            rintro e w10 ⟨rfl, hb10⟩
            have HA10 := Lib.hid (HA9.out.below hb10)
            have HB10 := Lib.hid (HB9.out.below hb10)
            have HW10 := Lib.hid (HW9.out.trans (hb10.mono HW9.out.size))
            clear hb10 c0 c1 c2 c3 c4 c5 d0 d1 d2 d3 d4 d5 HA9 HB9 HW9
            have c0 : w10.cell? ⟨o2, 0, none⟩ = some (.int .i64 t) := HA10.out.cell (i := 0) rfl
            have d0 : w10.cell? ⟨o3, 0, none⟩ = some (.int .i64 t) := HB10.out.cell (i := 0) rfl
            have c1 : w10.cell? ⟨o2, 1, none⟩ = some (.string s) := HA10.out.cell (i := 1) rfl
            have d1 : w10.cell? ⟨o3, 1, none⟩ = some (.string s) := HB10.out.cell (i := 1) rfl
            have c2 : w10.cell? ⟨o2, 2, none⟩ = some (.int .u64 bi) := HA10.out.cell (i := 2) rfl
            have d2 : w10.cell? ⟨o3, 2, none⟩ = some (.int .u64 bi') := HB10.out.cell (i := 2) rfl
            have c3 : w10.cell? ⟨o2, 3, none⟩ = some (.string cl) := HA10.out.cell (i := 3) rfl
            have d3 : w10.cell? ⟨o3, 3, none⟩ = some (.string cl') := HB10.out.cell (i := 3) rfl
            have c4 : w10.cell? ⟨o2, 4, none⟩ = some (.string nm) := HA10.out.cell (i := 4) rfl
            have d4 : w10.cell? ⟨o3, 4, none⟩ = some (.string nm') := HB10.out.cell (i := 4) rfl
            have c5 : w10.cell? ⟨o2, 5, none⟩ = some (.string ds) := HA10.out.cell (i := 5) rfl
            have d5 : w10.cell? ⟨o3, 5, none⟩ = some (.string ds') := HB10.out.cell (i := 5) rfl
            go_wp2_with fail
            refine (wide_any tag w10).mono ?_
            rintro e w11 ⟨rfl, hw11⟩
            replace hw11 := hw11.symm
            subst hw11
            have HWD := Lib.hid (wide_eq tag)
            unfold wideT
            by_cases ht5 : tag = 5
            · subst ht5
              go_wp2_with fail
              go_ret
              exact ⟨rfl, HW10.out⟩
            · have g5 : (tag == 5) = false := by simpa using ht5
              by_cases ht6 : tag = 6
              · subst ht6
                go_wp2_with fail
                go_ret
                exact ⟨rfl, HW10.out⟩
              · have g6 : (tag == 6) = false := by simpa using ht6
                go_wp2_with fail
                go_ret
                exact ⟨rfl, HW10.out⟩
          | false =>
            have gy : ¬ m < 0 := of_decide_eq_false HF.out.my; have gyd : decide (m < 0) = false := HF.out.my
            have c0 : w8.cell? ⟨o2, 0, none⟩ = some (.int .i64 t) := HA8.out.cell (i := 0) rfl
            have d0 : w8.cell? ⟨o3, 0, none⟩ = some (.int .i64 t) := HB8.out.cell (i := 0) rfl
            have c1 : w8.cell? ⟨o2, 1, none⟩ = some (.string s) := HA8.out.cell (i := 1) rfl
            have d1 : w8.cell? ⟨o3, 1, none⟩ = some (.string s) := HB8.out.cell (i := 1) rfl
            have c2 : w8.cell? ⟨o2, 2, none⟩ = some (.int .u64 bi) := HA8.out.cell (i := 2) rfl
            have d2 : w8.cell? ⟨o3, 2, none⟩ = some (.int .u64 bi') := HB8.out.cell (i := 2) rfl
            have c3 : w8.cell? ⟨o2, 3, none⟩ = some (.string cl) := HA8.out.cell (i := 3) rfl
            have d3 : w8.cell? ⟨o3, 3, none⟩ = some (.string cl') := HB8.out.cell (i := 3) rfl
            have c4 : w8.cell? ⟨o2, 4, none⟩ = some (.string nm) := HA8.out.cell (i := 4) rfl
            have d4 : w8.cell? ⟨o3, 4, none⟩ = some (.string nm') := HB8.out.cell (i := 4) rfl
            have c5 : w8.cell? ⟨o2, 5, none⟩ = some (.string ds) := HA8.out.cell (i := 5) rfl
            have d5 : w8.cell? ⟨o3, 5, none⟩ = some (.string ds') := HB8.out.cell (i := 5) rfl
            go_wp2_with fail
            refine (HL1.out w8).mono ?_
            rintro e w9 ⟨rfl, hb9⟩
            have HA9 := Lib.hid (HA8.out.below hb9)
            have HB9 := Lib.hid (HB8.out.below hb9)
            have HW9 := Lib.hid (HW8.out.trans (hb9.mono HW8.out.size))
            clear hb9 c0 c1 c2 c3 c4 c5 d0 d1 d2 d3 d4 d5 HA8 HB8 HW8
            have c0 : w9.cell? ⟨o2, 0, none⟩ = some (.int .i64 t) := HA9.out.cell (i := 0) rfl
            have d0 : w9.cell? ⟨o3, 0, none⟩ = some (.int .i64 t) := HB9.out.cell (i := 0) rfl
            have c1 : w9.cell? ⟨o2, 1, none⟩ = some (.string s) := HA9.out.cell (i := 1) rfl
            have d1 : w9.cell? ⟨o3, 1, none⟩ = some (.string s) := HB9.out.cell (i := 1) rfl
            have c2 : w9.cell? ⟨o2, 2, none⟩ = some (.int .u64 bi) := HA9.out.cell (i := 2) rfl
            have d2 : w9.cell? ⟨o3, 2, none⟩ = some (.int .u64 bi') := HB9.out.cell (i := 2) rfl
            have c3 : w9.cell? ⟨o2, 3, none⟩ = some (.string cl) := HA9.out.cell (i := 3) rfl
            have d3 : w9.cell? ⟨o3, 3, none⟩ = some (.string cl') := HB9.out.cell (i := 3) rfl
            have c4 : w9.cell? ⟨o2, 4, none⟩ = some (.string nm) := HA9.out.cell (i := 4) rfl
            have d4 : w9.cell? ⟨o3, 4, none⟩ = some (.string nm') := HB9.out.cell (i := 4) rfl
            have c5 : w9.cell? ⟨o2, 5, none⟩ = some (.string ds) := HA9.out.cell (i := 5) rfl
            have d5 : w9.cell? ⟨o3, 5, none⟩ = some (.string ds') := HB9.out.cell (i := 5) rfl
            go_wp2_with fail
            refine (HL2.out w9).mono ?_
            rintro e w10 ⟨rfl, hb10⟩
            have HA10 := Lib.hid (HA9.out.below hb10)
            have HB10 := Lib.hid (HB9.out.below hb10)
            have HW10 := Lib.hid (HW9.out.trans (hb10.mono HW9.out.size))
            clear hb10 c0 c1 c2 c3 c4 c5 d0 d1 d2 d3 d4 d5 HA9 HB9 HW9
            have c0 : w10.cell? ⟨o2, 0, none⟩ = some (.int .i64 t) := HA10.out.cell (i := 0) rfl
            have d0 : w10.cell? ⟨o3, 0, none⟩ = some (.int .i64 t) := HB10.out.cell (i := 0) rfl
            have c1 : w10.cell? ⟨o2, 1, none⟩ = some (.string s) := HA10.out.cell (i := 1) rfl
            have d1 : w10.cell? ⟨o3, 1, none⟩ = some (.string s) := HB10.out.cell (i := 1) rfl
            have c2 : w10.cell? ⟨o2, 2, none⟩ = some (.int .u64 bi) := HA10.out.cell (i := 2) rfl
            have d2 : w10.cell? ⟨o3, 2, none⟩ = some (.int .u64 bi') := HB10.out.cell (i := 2) rfl
            have c3 : w10.cell? ⟨o2, 3, none⟩ = some (.string cl) := HA10.out.cell (i := 3) rfl
            have d3 : w10.cell? ⟨o3, 3, none⟩ = some (.string cl') := HB10.out.cell (i := 3) rfl
            have c4 : w10.cell? ⟨o2, 4, none⟩ = some (.string nm) := HA10.out.cell (i := 4) rfl
            have d4 : w10.cell? ⟨o3, 4, none⟩ = some (.string nm') := HB10.out.cell (i := 4) rfl
            have c5 : w10.cell? ⟨o2, 5, none⟩ = some (.string ds) := HA10.out.cell (i := 5) rfl
            have d5 : w10.cell? ⟨o3, 5, none⟩ = some (.string ds') := HB10.out.cell (i := 5) rfl
            go_wp2_with fail
            refine (wide_any tag w10).mono ?_
            rintro e w11 ⟨rfl, hw11⟩
            replace hw11 := hw11.symm
            subst hw11
            have HWD := Lib.hid (wide_eq tag)
            unfold wideT
            by_cases ht5 : tag = 5
            · subst ht5
              go_wp2_with fail
              go_ret
              exact ⟨rfl, HW10.out⟩
            · have g5 : (tag == 5) = false := by simpa using ht5
              by_cases ht6 : tag = 6
              · subst ht6
                go_wp2_with fail
                go_ret
                exact ⟨rfl, HW10.out⟩
              · have g6 : (tag == 6) = false := by simpa using ht6
                go_wp2_with fail
                go_ret
                exact ⟨rfl, HW10.out⟩
        | false =>
          have gx : ¬ n < 0 := of_decide_eq_false HF.out.nx; have gxd : decide (n < 0) = false := HF.out.nx
          cases y with
          | true =>
            have gy : m < 0 := of_decide_eq_true HF.out.my; have gyd : decide (m < 0) = true := HF.out.my
            have c0 : w8.cell? ⟨o2, 0, none⟩ = some (.int .i64 t) := HA8.out.cell (i := 0) rfl
            have d0 : w8.cell? ⟨o3, 0, none⟩ = some (.int .i64 t) := HB8.out.cell (i := 0) rfl
            have c1 : w8.cell? ⟨o2, 1, none⟩ = some (.string s) := HA8.out.cell (i := 1) rfl
            have d1 : w8.cell? ⟨o3, 1, none⟩ = some (.string s) := HB8.out.cell (i := 1) rfl
            have c2 : w8.cell? ⟨o2, 2, none⟩ = some (.int .u64 bi) := HA8.out.cell (i := 2) rfl
            have d2 : w8.cell? ⟨o3, 2, none⟩ = some (.int .u64 bi') := HB8.out.cell (i := 2) rfl
            have c3 : w8.cell? ⟨o2, 3, none⟩ = some (.string cl) := HA8.out.cell (i := 3) rfl
            have d3 : w8.cell? ⟨o3, 3, none⟩ = some (.string cl') := HB8.out.cell (i := 3) rfl
            have c4 : w8.cell? ⟨o2, 4, none⟩ = some (.string nm) := HA8.out.cell (i := 4) rfl
            have d4 : w8.cell? ⟨o3, 4, none⟩ = some (.string nm') := HB8.out.cell (i := 4) rfl
            have c5 : w8.cell? ⟨o2, 5, none⟩ = some (.string ds) := HA8.out.cell (i := 5) rfl
            have d5 : w8.cell? ⟨o3, 5, none⟩ = some (.string ds') := HB8.out.cell (i := 5) rfl
            go_wp2_with fail
            refine (HL1.out w8).mono ?_
            rintro e w9 ⟨rfl, hb9⟩
            have HA9 := Lib.hid (HA8.out.below hb9)
            have HB9 := Lib.hid (HB8.out.below hb9)
            have HW9 := Lib.hid (HW8.out.trans (hb9.mono HW8.out.size))
            clear hb9 c0 c1 c2 c3 c4 c5 d0 d1 d2 d3 d4 d5 HA8 HB8 HW8
            have c0 : w9.cell? ⟨o2, 0, none⟩ = some (.int .i64 t) := HA9.out.cell (i := 0) rfl
            have d0 : w9.cell? ⟨o3, 0, none⟩ = some (.int .i64 t) := HB9.out.cell (i := 0) rfl
            have c1 : w9.cell? ⟨o2, 1, none⟩ = some (.string s) := HA9.out.cell (i := 1) rfl
            have d1 : w9.cell? ⟨o3, 1, none⟩ = some (.string s) := HB9.out.cell (i := 1) rfl
            have c2 : w9.cell? ⟨o2, 2, none⟩ = some (.int .u64 bi) := HA9.out.cell (i := 2) rfl
            have d2 : w9.cell? ⟨o3, 2, none⟩ = some (.int .u64 bi') := HB9.out.cell (i := 2) rfl
            have c3 : w9.cell? ⟨o2, 3, none⟩ = some (.string cl) := HA9.out.cell (i := 3) rfl
            have d3 : w9.cell? ⟨o3, 3, none⟩ = some (.string cl') := HB9.out.cell (i := 3) rfl
            have c4 : w9.cell? ⟨o2, 4, none⟩ = some (.string nm) := HA9.out.cell (i := 4) rfl
            have d4 : w9.cell? ⟨o3, 4, none⟩ = some (.string nm') := HB9.out.cell (i := 4) rfl
            have c5 : w9.cell? ⟨o2, 5, none⟩ = some (.string ds) := HA9.out.cell (i := 5) rfl
            have d5 : w9.cell? ⟨o3, 5, none⟩ = some (.string ds') := HB9.out.cell (i := 5) rfl
            go_wp2_with fail
            refine (HL2.out w9).mono ?_
            rintro e w10 ⟨rfl, hb10⟩
            have HA10 := Lib.hid (HA9.out.below hb10)
            have HB10 := Lib.hid (HB9.out.below hb10)
            have HW10 := Lib.hid (HW9.out.trans (hb10.mono HW9.out.size))
            clear hb10 c0 c1 c2 c3 c4 c5 d0 d1 d2 d3 d4 d5 HA9 HB9 HW9
            have c0 : w10.cell? ⟨o2, 0, none⟩ = some (.int .i64 t) := HA10.out.cell (i := 0) rfl
            have d0 : w10.cell? ⟨o3, 0, none⟩ = some (.int .i64 t) := HB10.out.cell (i := 0) rfl
            have c1 : w10.cell? ⟨o2, 1, none⟩ = some (.string s) := HA10.out.cell (i := 1) rfl
            have d1 : w10.cell? ⟨o3, 1, none⟩ = some (.string s) := HB10.out.cell (i := 1) rfl
            have c2 : w10.cell? ⟨o2, 2, none⟩ = some (.int .u64 bi) := HA10.out.cell (i := 2) rfl
            have d2 : w10.cell? ⟨o3, 2, none⟩ = some (.int .u64 bi') := HB10.out.cell (i := 2) rfl
            have c3 : w10.cell? ⟨o2, 3, none⟩ = some (.string cl) := HA10.out.cell (i := 3) rfl
            have d3 : w10.cell? ⟨o3, 3, none⟩ = some (.string cl') := HB10.out.cell (i := 3) rfl
            have c4 : w10.cell? ⟨o2, 4, none⟩ = some (.string nm) := HA10.out.cell (i := 4) rfl
            have d4 : w10.cell? ⟨o3, 4, none⟩ = some (.string nm') := HB10.out.cell (i := 4) rfl
            have c5 : w10.cell? ⟨o2, 5, none⟩ = some (.string ds) := HA10.out.cell (i := 5) rfl
            have d5 : w10.cell? ⟨o3, 5, none⟩ = some (.string ds') := HB10.out.cell (i := 5) rfl
            go_wp2_with fail
            refine (wide_any tag w10).mono ?_
            rintro e w11 ⟨rfl, hw11⟩
            replace hw11 := hw11.symm
            subst hw11
            have HWD := Lib.hid (wide_eq tag)
            unfold wideT
            by_cases ht5 : tag = 5
            · subst ht5
              go_wp2_with fail
              go_ret
              exact ⟨rfl, HW10.out⟩
            · have g5 : (tag == 5) = false := by simpa using ht5
              by_cases ht6 : tag = 6
              · subst ht6
                go_wp2_with fail
                go_ret
                exact ⟨rfl, HW10.out⟩
              · have g6 : (tag == 6) = false := by simpa using ht6
                go_wp2_with fail
                go_ret
                exact ⟨rfl, HW10.out⟩
          | false =>
            have gy : ¬ m < 0 := of_decide_eq_false HF.out.my; have gyd : decide (m < 0) = false := HF.out.my
            have c0 : w8.cell? ⟨o2, 0, none⟩ = some (.int .i64 t) := HA8.out.cell (i := 0) rfl
            have d0 : w8.cell? ⟨o3, 0, none⟩ = some (.int .i64 t) := HB8.out.cell (i := 0) rfl
            have c1 : w8.cell? ⟨o2, 1, none⟩ = some (.string s) := HA8.out.cell (i := 1) rfl
            have d1 : w8.cell? ⟨o3, 1, none⟩ = some (.string s) := HB8.out.cell (i := 1) rfl
            have c2 : w8.cell? ⟨o2, 2, none⟩ = some (.int .u64 bi) := HA8.out.cell (i := 2) rfl
            have d2 : w8.cell? ⟨o3, 2, none⟩ = some (.int .u64 bi') := HB8.out.cell (i := 2) rfl
            have c3 : w8.cell? ⟨o2, 3, none⟩ = some (.string cl) := HA8.out.cell (i := 3) rfl
            have d3 : w8.cell? ⟨o3, 3, none⟩ = some (.string cl') := HB8.out.cell (i := 3) rfl
            have c4 : w8.cell? ⟨o2, 4, none⟩ = some (.string nm) := HA8.out.cell (i := 4) rfl
            have d4 : w8.cell? ⟨o3, 4, none⟩ = some (.string nm') := HB8.out.cell (i := 4) rfl
            have c5 : w8.cell? ⟨o2, 5, none⟩ = some (.string ds) := HA8.out.cell (i := 5) rfl
            have d5 : w8.cell? ⟨o3, 5, none⟩ = some (.string ds') := HB8.out.cell (i := 5) rfl
            go_wp2_with fail
            refine (HL1.out w8).mono ?_
            rintro e w9 ⟨rfl, hb9⟩
            have HA9 := Lib.hid (HA8.out.below hb9)
            have HB9 := Lib.hid (HB8.out.below hb9)
            have HW9 := Lib.hid (HW8.out.trans (hb9.mono HW8.out.size))
            clear hb9 c0 c1 c2 c3 c4 c5 d0 d1 d2 d3 d4 d5 HA8 HB8 HW8
            have c0 : w9.cell? ⟨o2, 0, none⟩ = some (.int .i64 t) := HA9.out.cell (i := 0) rfl
            have d0 : w9.cell? ⟨o3, 0, none⟩ = some (.int .i64 t) := HB9.out.cell (i := 0) rfl
            have c1 : w9.cell? ⟨o2, 1, none⟩ = some (.string s) := HA9.out.cell (i := 1) rfl
            have d1 : w9.cell? ⟨o3, 1, none⟩ = some (.string s) := HB9.out.cell (i := 1) rfl
            have c2 : w9.cell? ⟨o2, 2, none⟩ = some (.int .u64 bi) := HA9.out.cell (i := 2) rfl
            have d2 : w9.cell? ⟨o3, 2, none⟩ = some (.int .u64 bi') := HB9.out.cell (i := 2) rfl
            have c3 : w9.cell? ⟨o2, 3, none⟩ = some (.string cl) := HA9.out.cell (i := 3) rfl
            have d3 : w9.cell? ⟨o3, 3, none⟩ = some (.string cl') := HB9.out.cell (i := 3) rfl
            have c4 : w9.cell? ⟨o2, 4, none⟩ = some (.string nm) := HA9.out.cell (i := 4) rfl
            have d4 : w9.cell? ⟨o3, 4, none⟩ = some (.string nm') := HB9.out.cell (i := 4) rfl
            have c5 : w9.cell? ⟨o2, 5, none⟩ = some (.string ds) := HA9.out.cell (i := 5) rfl
            have d5 : w9.cell? ⟨o3, 5, none⟩ = some (.string ds') := HB9.out.cell (i := 5) rfl
            go_wp2_with fail
            refine (HL2.out w9).mono ?_
            rintro e w10 ⟨rfl, hb10⟩
            have HA10 := Lib.hid (HA9.out.below hb10)
            have HB10 := Lib.hid (HB9.out.below hb10)
            have HW10 := Lib.hid (HW9.out.trans (hb10.mono HW9.out.size))
            clear hb10 c0 c1 c2 c3 c4 c5 d0 d1 d2 d3 d4 d5 HA9 HB9 HW9
            have c0 : w10.cell? ⟨o2, 0, none⟩ = some (.int .i64 t) := HA10.out.cell (i := 0) rfl
            have d0 : w10.cell? ⟨o3, 0, none⟩ = some (.int .i64 t) := HB10.out.cell (i := 0) rfl
            have c1 : w10.cell? ⟨o2, 1, none⟩ = some (.string s) := HA10.out.cell (i := 1) rfl
            have d1 : w10.cell? ⟨o3, 1, none⟩ = some (.string s) := HB10.out.cell (i := 1) rfl
            have c2 : w10.cell? ⟨o2, 2, none⟩ = some (.int .u64 bi) := HA10.out.cell (i := 2) rfl
            have d2 : w10.cell? ⟨o3, 2, none⟩ = some (.int .u64 bi') := HB10.out.cell (i := 2) rfl
            have c3 : w10.cell? ⟨o2, 3, none⟩ = some (.string cl) := HA10.out.cell (i := 3) rfl
            have d3 : w10.cell? ⟨o3, 3, none⟩ = some (.string cl') := HB10.out.cell (i := 3) rfl
            have c4 : w10.cell? ⟨o2, 4, none⟩ = some (.string nm) := HA10.out.cell (i := 4) rfl
            have d4 : w10.cell? ⟨o3, 4, none⟩ = some (.string nm') := HB10.out.cell (i := 4) rfl
            have c5 : w10.cell? ⟨o2, 5, none⟩ = some (.string ds) := HA10.out.cell (i := 5) rfl
            have d5 : w10.cell? ⟨o3, 5, none⟩ = some (.string ds') := HB10.out.cell (i := 5) rfl
            go_wp2_with fail
            refine (wide_any tag w10).mono ?_
            rintro e w11 ⟨rfl, hw11⟩
            replace hw11 := hw11.symm
            subst hw11
            have HWD := Lib.hid (wide_eq tag)
            unfold wideT
            by_cases ht5 : tag = 5
            · subst ht5
              go_wp2_with fail
              go_ret
              exact ⟨rfl, HW10.out⟩
            · have g5 : (tag == 5) = false := by simpa using ht5
              by_cases ht6 : tag = 6
              · subst ht6
                go_wp2_with fail
                go_ret
                exact ⟨rfl, HW10.out⟩
              · have g6 : (tag == 6) = false := by simpa using ht6
                go_wp2_with fail
                go_ret
                exact ⟨rfl, HW10.out⟩
    · have HF := Lib.hid (HO.out false (by simp [h1]))
      have g0 : ¬ s.toList = s'.toList := fun e => h1 (str_inj e)
      have g1 : (s.toList == s'.toList) = false := by simpa using g0
      have gn := HF.out.n0
      have gm := HF.out.m0
      cases x with
      | true =>
        have gx : n < 0 := of_decide_eq_true HF.out.nx; have gxd : decide (n < 0) = true := HF.out.nx
        cases y with
        | true =>
          have gy : m < 0 := of_decide_eq_true HF.out.my; have gyd : decide (m < 0) = true := HF.out.my
          have c0 : w8.cell? ⟨o2, 0, none⟩ = some (.int .i64 t) := HA8.out.cell (i := 0) rfl
          have d0 : w8.cell? ⟨o3, 0, none⟩ = some (.int .i64 t) := HB8.out.cell (i := 0) rfl
          have c1 : w8.cell? ⟨o2, 1, none⟩ = some (.string s) := HA8.out.cell (i := 1) rfl
          have d1 : w8.cell? ⟨o3, 1, none⟩ = some (.string s') := HB8.out.cell (i := 1) rfl
          have c2 : w8.cell? ⟨o2, 2, none⟩ = some (.int .u64 bi) := HA8.out.cell (i := 2) rfl
          have d2 : w8.cell? ⟨o3, 2, none⟩ = some (.int .u64 bi') := HB8.out.cell (i := 2) rfl
          have c3 : w8.cell? ⟨o2, 3, none⟩ = some (.string cl) := HA8.out.cell (i := 3) rfl
          have d3 : w8.cell? ⟨o3, 3, none⟩ = some (.string cl') := HB8.out.cell (i := 3) rfl
          have c4 : w8.cell? ⟨o2, 4, none⟩ = some (.string nm) := HA8.out.cell (i := 4) rfl
          have d4 : w8.cell? ⟨o3, 4, none⟩ = some (.string nm') := HB8.out.cell (i := 4) rfl
          have c5 : w8.cell? ⟨o2, 5, none⟩ = some (.string ds) := HA8.out.cell (i := 5) rfl
          have d5 : w8.cell? ⟨o3, 5, none⟩ = some (.string ds') := HB8.out.cell (i := 5) rfl
          go_wp2_with fail
          refine (HL1.out w8).mono ?_
          rintro e w9 ⟨rfl, hb9⟩
          have HA9 := Lib.hid (HA8.out.below hb9)
          have HB9 := Lib.hid (HB8.out.below hb9)
          have HW9 := Lib.hid (HW8.out.trans (hb9.mono HW8.out.size))
          clear hb9 c0 c1 c2 c3 c4 c5 d0 d1 d2 d3 d4 d5 HA8 HB8 HW8
          have c0 : w9.cell? ⟨o2, 0, none⟩ = some (.int .i64 t) := HA9.out.cell (i := 0) rfl
          have d0 : w9.cell? ⟨o3, 0, none⟩ = some (.int .i64 t) := HB9.out.cell (i := 0) rfl
          have c1 : w9.cell? ⟨o2, 1, none⟩ = some (.string s) := HA9.out.cell (i := 1) rfl
          have d1 : w9.cell? ⟨o3, 1, none⟩ = some (.string s') := HB9.out.cell (i := 1) rfl
          have c2 : w9.cell? ⟨o2, 2, none⟩ = some (.int .u64 bi) := HA9.out.cell (i := 2) rfl
          have d2 : w9.cell? ⟨o3, 2, none⟩ = some (.int .u64 bi') := HB9.out.cell (i := 2) rfl
          have c3 : w9.cell? ⟨o2, 3, none⟩ = some (.string cl) := HA9.out.cell (i := 3) rfl
          have d3 : w9.cell? ⟨o3, 3, none⟩ = some (.string cl') := HB9.out.cell (i := 3) rfl
          have c4 : w9.cell? ⟨o2, 4, none⟩ = some (.string nm) := HA9.out.cell (i := 4) rfl
          have d4 : w9.cell? ⟨o3, 4, none⟩ = some (.string nm') := HB9.out.cell (i := 4) rfl
          have c5 : w9.cell? ⟨o2, 5, none⟩ = some (.string ds) := HA9.out.cell (i := 5) rfl
          have d5 : w9.cell? ⟨o3, 5, none⟩ = some (.string ds') := HB9.out.cell (i := 5) rfl
          go_wp2_with fail
          refine (HL2.out w9).mono ?_
          rintro e w10 ⟨rfl, hb10⟩
          have HA10 := Lib.hid (HA9.out.below hb10)
          have HB10 := Lib.hid (HB9.out.below hb10)
          have HW10 := Lib.hid (HW9.out.trans (hb10.mono HW9.out.size))
          clear hb10 c0 c1 c2 c3 c4 c5 d0 d1 d2 d3 d4 d5 HA9 HB9 HW9
          have c0 : w10.cell? ⟨o2, 0, none⟩ = some (.int .i64 t) := HA10.out.cell (i := 0) rfl
          have d0 : w10.cell? ⟨o3, 0, none⟩ = some (.int .i64 t) := HB10.out.cell (i := 0) rfl
          have c1 : w10.cell? ⟨o2, 1, none⟩ = some (.string s) := HA10.out.cell (i := 1) rfl
          have d1 : w10.cell? ⟨o3, 1, none⟩ = some (.string s') := HB10.out.cell (i := 1) rfl
          have c2 : w10.cell? ⟨o2, 2, none⟩ = some (.int .u64 bi) := HA10.out.cell (i := 2) rfl
          have d2 : w10.cell? ⟨o3, 2, none⟩ = some (.int .u64 bi') := HB10.out.cell (i := 2) rfl
          have c3 : w10.cell? ⟨o2, 3, none⟩ = some (.string cl) := HA10.out.cell (i := 3) rfl
          have d3 : w10.cell? ⟨o3, 3, none⟩ = some (.string cl') := HB10.out.cell (i := 3) rfl
          have c4 : w10.cell? ⟨o2, 4, none⟩ = some (.string nm) := HA10.out.cell (i := 4) rfl
          have d4 : w10.cell? ⟨o3, 4, none⟩ = some (.string nm') := HB10.out.cell (i := 4) rfl
          have c5 : w10.cell? ⟨o2, 5, none⟩ = some (.string ds) := HA10.out.cell (i := 5) rfl
          have d5 : w10.cell? ⟨o3, 5, none⟩ = some (.string ds') := HB10.out.cell (i := 5) rfl
          go_wp2_with fail
          refine (wide_any tag w10).mono ?_
          rintro e w11 ⟨rfl, hw11⟩
          replace hw11 := hw11.symm
          subst hw11
          have HWD := Lib.hid (wide_eq tag)
          unfold wideT
          by_cases ht5 : tag = 5
          · subst ht5
            go_wp2_with fail
            go_ret
            exact ⟨rfl, HW10.out⟩
          · have g5 : (tag == 5) = false := by simpa using ht5
            by_cases ht6 : tag = 6
            · subst ht6
              go_wp2_with fail
              go_ret
              exact ⟨rfl, HW10.out⟩
            · have g6 : (tag == 6) = false := by simpa using ht6
              go_wp2_with fail
              go_ret
              exact ⟨rfl, HW10.out⟩
        | false =>
          have gy : ¬ m < 0 := of_decide_eq_false HF.out.my; have gyd : decide (m < 0) = false := HF.out.my
          have c0 : w8.cell? ⟨o2, 0, none⟩ = some (.int .i64 t) := HA8.out.cell (i := 0) rfl
          have d0 : w8.cell? ⟨o3, 0, none⟩ = some (.int .i64 t) := HB8.out.cell (i := 0) rfl
          have c1 : w8.cell? ⟨o2, 1, none⟩ = some (.string s) := HA8.out.cell (i := 1) rfl
          have d1 : w8.cell? ⟨o3, 1, none⟩ = some (.string s') := HB8.out.cell (i := 1) rfl
          have c2 : w8.cell? ⟨o2, 2, none⟩ = some (.int .u64 bi) := HA8.out.cell (i := 2) rfl
          have d2 : w8.cell? ⟨o3, 2, none⟩ = some (.int .u64 bi') := HB8.out.cell (i := 2) rfl
          have c3 : w8.cell? ⟨o2, 3, none⟩ = some (.string cl) := HA8.out.cell (i := 3) rfl
          have d3 : w8.cell? ⟨o3, 3, none⟩ = some (.string cl') := HB8.out.cell (i := 3) rfl
          have c4 : w8.cell? ⟨o2, 4, none⟩ = some (.string nm) := HA8.out.cell (i := 4) rfl
          have d4 : w8.cell? ⟨o3, 4, none⟩ = some (.string nm') := HB8.out.cell (i := 4) rfl
          have c5 : w8.cell? ⟨o2, 5, none⟩ = some (.string ds) := HA8.out.cell (i := 5) rfl
          have d5 : w8.cell? ⟨o3, 5, none⟩ = some (.string ds') := HB8.out.cell (i := 5) rfl
          go_wp2_with fail
          refine (HL1.out w8).mono ?_
          rintro e w9 ⟨rfl, hb9⟩
          have HA9 := Lib.hid (HA8.out.below hb9)
          have HB9 := Lib.hid (HB8.out.below hb9)
          have HW9 := Lib.hid (HW8.out.trans (hb9.mono HW8.out.size))
          clear hb9 c0 c1 c2 c3 c4 c5 d0 d1 d2 d3 d4 d5 HA8 HB8 HW8
          have c0 : w9.cell? ⟨o2, 0, none⟩ = some (.int .i64 t) := HA9.out.cell (i := 0) rfl
          have d0 : w9.cell? ⟨o3, 0, none⟩ = some (.int .i64 t) := HB9.out.cell (i := 0) rfl
          have c1 : w9.cell? ⟨o2, 1, none⟩ = some (.string s) := HA9.out.cell (i := 1) rfl
          have d1 : w9.cell? ⟨o3, 1, none⟩ = some (.string s') := HB9.out.cell (i := 1) rfl
          have c2 : w9.cell? ⟨o2, 2, none⟩ = some (.int .u64 bi) := HA9.out.cell (i := 2) rfl
          have d2 : w9.cell? ⟨o3, 2, none⟩ = some (.int .u64 bi') := HB9.out.cell (i := 2) rfl
          have c3 : w9.cell? ⟨o2, 3, none⟩ = some (.string cl) := HA9.out.cell (i := 3) rfl
          have d3 : w9.cell? ⟨o3, 3, none⟩ = some (.string cl') := HB9.out.cell (i := 3) rfl
          have c4 : w9.cell? ⟨o2, 4, none⟩ = some (.string nm) := HA9.out.cell (i := 4) rfl
          have d4 : w9.cell? ⟨o3, 4, none⟩ = some (.string nm') := HB9.out.cell (i := 4) rfl
          have c5 : w9.cell? ⟨o2, 5, none⟩ = some (.string ds) := HA9.out.cell (i := 5) rfl
          have d5 : w9.cell? ⟨o3, 5, none⟩ = some (.string ds') := HB9.out.cell (i := 5) rfl
          go_wp2_with fail
          refine (HL2.out w9).mono ?_
          rintro e w10 ⟨rfl, hb10⟩
          have HA10 := Lib.hid (HA9.out.below hb10)
          have HB10 := Lib.hid (HB9.out.below hb10)
          have HW10 := Lib.hid (HW9.out.trans (hb10.mono HW9.out.size))
          clear hb10 c0 c1 c2 c3 c4 c5 d0 d1 d2 d3 d4 d5 HA9 HB9 HW9
          have c0 : w10.cell? ⟨o2, 0, none⟩ = some (.int .i64 t) := HA10.out.cell (i := 0) rfl
          have d0 : w10.cell? ⟨o3, 0, none⟩ = some (.int .i64 t) := HB10.out.cell (i := 0) rfl
          have c1 : w10.cell? ⟨o2, 1, none⟩ = some (.string s) := HA10.out.cell (i := 1) rfl
          have d1 : w10.cell? ⟨o3, 1, none⟩ = some (.string s') := HB10.out.cell (i := 1) rfl
          have c2 : w10.cell? ⟨o2, 2, none⟩ = some (.int .u64 bi) := HA10.out.cell (i := 2) rfl
          have d2 : w10.cell? ⟨o3, 2, none⟩ = some (.int .u64 bi') := HB10.out.cell (i := 2) rfl
          have c3 : w10.cell? ⟨o2, 3, none⟩ = some (.string cl) := HA10.out.cell (i := 3) rfl
          have d3 : w10.cell? ⟨o3, 3, none⟩ = some (.string cl') := HB10.out.cell (i := 3) rfl
          have c4 : w10.cell? ⟨o2, 4, none⟩ = some (.string nm) := HA10.out.cell (i := 4) rfl
          have d4 : w10.cell? ⟨o3, 4, none⟩ = some (.string nm') := HB10.out.cell (i := 4) rfl
          have c5 : w10.cell? ⟨o2, 5, none⟩ = some (.string ds) := HA10.out.cell (i := 5) rfl
          have d5 : w10.cell? ⟨o3, 5, none⟩ = some (.string ds') := HB10.out.cell (i := 5) rfl
          go_wp2_with fail
          refine (wide_any tag w10).mono ?_
          rintro e w11 ⟨rfl, hw11⟩
          replace hw11 := hw11.symm
          subst hw11
          have HWD := Lib.hid (wide_eq tag)
          unfold wideT
          by_cases ht5 : tag = 5
          · subst ht5
            go_wp2_with fail
            go_ret
            exact ⟨rfl, HW10.out⟩
          · have g5 : (tag == 5) = false := by simpa using ht5
            by_cases ht6 : tag = 6
            · subst ht6
              go_wp2_with fail
              go_ret
              exact ⟨rfl, HW10.out⟩
            · have g6 : (tag == 6) = false := by simpa using ht6
              go_wp2_with fail
              go_ret
              exact ⟨rfl, HW10.out⟩
      | false =>
        have gx : ¬ n < 0 := of_decide_eq_false HF.out.nx; have gxd : decide (n < 0) = false := HF.out.nx
        cases y with
        | true =>
          have gy : m < 0 := of_decide_eq_true HF.out.my; have gyd : decide (m < 0) = true := HF.out.my
          have c0 : w8.cell? ⟨o2, 0, none⟩ = some (.int .i64 t) := HA8.out.cell (i := 0) rfl
          have d0 : w8.cell? ⟨o3, 0, none⟩ = some (.int .i64 t) := HB8.out.cell (i := 0) rfl
          have c1 : w8.cell? ⟨o2, 1, none⟩ = some (.string s) := HA8.out.cell (i := 1) rfl
          have d1 : w8.cell? ⟨o3, 1, none⟩ = some (.string s') := HB8.out.cell (i := 1) rfl
          have c2 : w8.cell? ⟨o2, 2, none⟩ = some (.int .u64 bi) := HA8.out.cell (i := 2) rfl
          have d2 : w8.cell? ⟨o3, 2, none⟩ = some (.int .u64 bi') := HB8.out.cell (i := 2) rfl
          have c3 : w8.cell? ⟨o2, 3, none⟩ = some (.string cl) := HA8.out.cell (i := 3) rfl
          have d3 : w8.cell? ⟨o3, 3, none⟩ = some (.string cl') := HB8.out.cell (i := 3) rfl
          have c4 : w8.cell? ⟨o2, 4, none⟩ = some (.string nm) := HA8.out.cell (i := 4) rfl
          have d4 : w8.cell? ⟨o3, 4, none⟩ = some (.string nm') := HB8.out.cell (i := 4) rfl
          have c5 : w8.cell? ⟨o2, 5, none⟩ = some (.string ds) := HA8.out.cell (i := 5) rfl
          have d5 : w8.cell? ⟨o3, 5, none⟩ = some (.string ds') := HB8.out.cell (i := 5) rfl
          go_wp2_with fail
          refine (HL1.out w8).mono ?_
          rintro e w9 ⟨rfl, hb9⟩
          have HA9 := Lib.hid (HA8.out.below hb9)
          have HB9 := Lib.hid (HB8.out.below hb9)
          have HW9 := Lib.hid (HW8.out.trans (hb9.mono HW8.out.size))
          clear hb9 c0 c1 c2 c3 c4 c5 d0 d1 d2 d3 d4 d5 HA8 HB8 HW8
          have c0 : w9.cell? ⟨o2, 0, none⟩ = some (.int .i64 t) := HA9.out.cell (i := 0) rfl
          have d0 : w9.cell? ⟨o3, 0, none⟩ = some (.int .i64 t) := HB9.out.cell (i := 0) rfl
          have c1 : w9.cell? ⟨o2, 1, none⟩ = some (.string s) := HA9.out.cell (i := 1) rfl
          have d1 : w9.cell? ⟨o3, 1, none⟩ = some (.string s') := HB9.out.cell (i := 1) rfl
          have c2 : w9.cell? ⟨o2, 2, none⟩ = some (.int .u64 bi) := HA9.out.cell (i := 2) rfl
          have d2 : w9.cell? ⟨o3, 2, none⟩ = some (.int .u64 bi') := HB9.out.cell (i := 2) rfl
          have c3 : w9.cell? ⟨o2, 3, none⟩ = some (.string cl) := HA9.out.cell (i := 3) rfl
          have d3 : w9.cell? ⟨o3, 3, none⟩ = some (.string cl') := HB9.out.cell (i := 3) rfl
          have c4 : w9.cell? ⟨o2, 4, none⟩ = some (.string nm) := HA9.out.cell (i := 4) rfl
          have d4 : w9.cell? ⟨o3, 4, none⟩ = some (.string nm') := HB9.out.cell (i := 4) rfl
          have c5 : w9.cell? ⟨o2, 5, none⟩ = some (.string ds) := HA9.out.cell (i := 5) rfl
          have d5 : w9.cell? ⟨o3, 5, none⟩ = some (.string ds') := HB9.out.cell (i := 5) rfl
          go_wp2_with fail
          refine (HL2.out w9).mono ?_
          rintro e w10 ⟨rfl, hb10⟩
          have HA10 := Lib.hid (HA9.out.below hb10)
          have HB10 := Lib.hid (HB9.out.below hb10)
          have HW10 := Lib.hid (HW9.out.trans (hb10.mono HW9.out.size))
          clear hb10 c0 c1 c2 c3 c4 c5 d0 d1 d2 d3 d4 d5 HA9 HB9 HW9
          have c0 : w10.cell? ⟨o2, 0, none⟩ = some (.int .i64 t) := HA10.out.cell (i := 0) rfl
          have d0 : w10.cell? ⟨o3, 0, none⟩ = some (.int .i64 t) := HB10.out.cell (i := 0) rfl
          have c1 : w10.cell? ⟨o2, 1, none⟩ = some (.string s) := HA10.out.cell (i := 1) rfl
          have d1 : w10.cell? ⟨o3, 1, none⟩ = some (.string s') := HB10.out.cell (i := 1) rfl
          have c2 : w10.cell? ⟨o2, 2, none⟩ = some (.int .u64 bi) := HA10.out.cell (i := 2) rfl
          have d2 : w10.cell? ⟨o3, 2, none⟩ = some (.int .u64 bi') := HB10.out.cell (i := 2) rfl
          have c3 : w10.cell? ⟨o2, 3, none⟩ = some (.string cl) := HA10.out.cell (i := 3) rfl
          have d3 : w10.cell? ⟨o3, 3, none⟩ = some (.string cl') := HB10.out.cell (i := 3) rfl
          have c4 : w10.cell? ⟨o2, 4, none⟩ = some (.string nm) := HA10.out.cell (i := 4) rfl
          have d4 : w10.cell? ⟨o3, 4, none⟩ = some (.string nm') := HB10.out.cell (i := 4) rfl
          have c5 : w10.cell? ⟨o2, 5, none⟩ = some (.string ds) := HA10.out.cell (i := 5) rfl
          have d5 : w10.cell? ⟨o3, 5, none⟩ = some (.string ds') := HB10.out.cell (i := 5) rfl
          go_wp2_with fail
          refine (wide_any tag w10).mono ?_
          rintro e w11 ⟨rfl, hw11⟩
          replace hw11 := hw11.symm
          subst hw11
          have HWD := Lib.hid (wide_eq tag)
          unfold wideT
          by_cases ht5 : tag = 5
          · subst ht5
            go_wp2_with fail
            go_ret
            exact ⟨rfl, HW10.out⟩
          · have g5 : (tag == 5) = false := by simpa using ht5
            by_cases ht6 : tag = 6
            · subst ht6
              go_wp2_with fail
              go_ret
              exact ⟨rfl, HW10.out⟩
            · have g6 : (tag == 6) = false := by simpa using ht6
              go_wp2_with fail
              go_ret
              exact ⟨rfl, HW10.out⟩
        | false =>
          have gy : ¬ m < 0 := of_decide_eq_false HF.out.my; have gyd : decide (m < 0) = false := HF.out.my
          have c0 : w8.cell? ⟨o2, 0, none⟩ = some (.int .i64 t) := HA8.out.cell (i := 0) rfl
          have d0 : w8.cell? ⟨o3, 0, none⟩ = some (.int .i64 t) := HB8.out.cell (i := 0) rfl
          have c1 : w8.cell? ⟨o2, 1, none⟩ = some (.string s) := HA8.out.cell (i := 1) rfl
          have d1 : w8.cell? ⟨o3, 1, none⟩ = some (.string s') := HB8.out.cell (i := 1) rfl
          have c2 : w8.cell? ⟨o2, 2, none⟩ = some (.int .u64 bi) := HA8.out.cell (i := 2) rfl
          have d2 : w8.cell? ⟨o3, 2, none⟩ = some (.int .u64 bi') := HB8.out.cell (i := 2) rfl
          have c3 : w8.cell? ⟨o2, 3, none⟩ = some (.string cl) := HA8.out.cell (i := 3) rfl
          have d3 : w8.cell? ⟨o3, 3, none⟩ = some (.string cl') := HB8.out.cell (i := 3) rfl
          have c4 : w8.cell? ⟨o2, 4, none⟩ = some (.string nm) := HA8.out.cell (i := 4) rfl
          have d4 : w8.cell? ⟨o3, 4, none⟩ = some (.string nm') := HB8.out.cell (i := 4) rfl
          have c5 : w8.cell? ⟨o2, 5, none⟩ = some (.string ds) := HA8.out.cell (i := 5) rfl
          have d5 : w8.cell? ⟨o3, 5, none⟩ = some (.string ds') := HB8.out.cell (i := 5) rfl
          go_wp2_with fail
          refine (HL1.out w8).mono ?_
          rintro e w9 ⟨rfl, hb9⟩
          have HA9 := Lib.hid (HA8.out.below hb9)
          have HB9 := Lib.hid (HB8.out.below hb9)
          have HW9 := Lib.hid (HW8.out.trans (hb9.mono HW8.out.size))
          clear hb9 c0 c1 c2 c3 c4 c5 d0 d1 d2 d3 d4 d5 HA8 HB8 HW8
          have c0 : w9.cell? ⟨o2, 0, none⟩ = some (.int .i64 t) := HA9.out.cell (i := 0) rfl
          have d0 : w9.cell? ⟨o3, 0, none⟩ = some (.int .i64 t) := HB9.out.cell (i := 0) rfl
          have c1 : w9.cell? ⟨o2, 1, none⟩ = some (.string s) := HA9.out.cell (i := 1) rfl
          have d1 : w9.cell? ⟨o3, 1, none⟩ = some (.string s') := HB9.out.cell (i := 1) rfl
          have c2 : w9.cell? ⟨o2, 2, none⟩ = some (.int .u64 bi) := HA9.out.cell (i := 2) rfl
          have d2 : w9.cell? ⟨o3, 2, none⟩ = some (.int .u64 bi') := HB9.out.cell (i := 2) rfl
          have c3 : w9.cell? ⟨o2, 3, none⟩ = some (.string cl) := HA9.out.cell (i := 3) rfl
          have d3 : w9.cell? ⟨o3, 3, none⟩ = some (.string cl') := HB9.out.cell (i := 3) rfl
          have c4 : w9.cell? ⟨o2, 4, none⟩ = some (.string nm) := HA9.out.cell (i := 4) rfl
          have d4 : w9.cell? ⟨o3, 4, none⟩ = some (.string nm') := HB9.out.cell (i := 4) rfl
          have c5 : w9.cell? ⟨o2, 5, none⟩ = some (.string ds) := HA9.out.cell (i := 5) rfl
          have d5 : w9.cell? ⟨o3, 5, none⟩ = some (.string ds') := HB9.out.cell (i := 5) rfl
          go_wp2_with fail
          refine (HL2.out w9).mono ?_
          rintro e w10 ⟨rfl, hb10⟩
          have HA10 := Lib.hid (HA9.out.below hb10)
          have HB10 := Lib.hid (HB9.out.below hb10)
          have HW10 := Lib.hid (HW9.out.trans (hb10.mono HW9.out.size))
          clear hb10 c0 c1 c2 c3 c4 c5 d0 d1 d2 d3 d4 d5 HA9 HB9 HW9
          have c0 : w10.cell? ⟨o2, 0, none⟩ = some (.int .i64 t) := HA10.out.cell (i := 0) rfl
          have d0 : w10.cell? ⟨o3, 0, none⟩ = some (.int .i64 t) := HB10.out.cell (i := 0) rfl
          have c1 : w10.cell? ⟨o2, 1, none⟩ = some (.string s) := HA10.out.cell (i := 1) rfl
          have d1 : w10.cell? ⟨o3, 1, none⟩ = some (.string s') := HB10.out.cell (i := 1) rfl
          have c2 : w10.cell? ⟨o2, 2, none⟩ = some (.int .u64 bi) := HA10.out.cell (i := 2) rfl
          have d2 : w10.cell? ⟨o3, 2, none⟩ = some (.int .u64 bi') := HB10.out.cell (i := 2) rfl
          have c3 : w10.cell? ⟨o2, 3, none⟩ = some (.string cl) := HA10.out.cell (i := 3) rfl
          have d3 : w10.cell? ⟨o3, 3, none⟩ = some (.string cl') := HB10.out.cell (i := 3) rfl
          have c4 : w10.cell? ⟨o2, 4, none⟩ = some (.string nm) := HA10.out.cell (i := 4) rfl
          have d4 : w10.cell? ⟨o3, 4, none⟩ = some (.string nm') := HB10.out.cell (i := 4) rfl
          have c5 : w10.cell? ⟨o2, 5, none⟩ = some (.string ds) := HA10.out.cell (i := 5) rfl
          have d5 : w10.cell? ⟨o3, 5, none⟩ = some (.string ds') := HB10.out.cell (i := 5) rfl
          go_wp2_with fail
          refine (wide_any tag w10).mono ?_
          rintro e w11 ⟨rfl, hw11⟩
          replace hw11 := hw11.symm
          subst hw11
          have HWD := Lib.hid (wide_eq tag)
          unfold wideT
          by_cases ht5 : tag = 5
          · subst ht5
            go_wp2_with fail
            go_ret
            exact ⟨rfl, HW10.out⟩
          · have g5 : (tag == 5) = false := by simpa using ht5
            by_cases ht6 : tag = 6
            · subst ht6
              go_wp2_with fail
              go_ret
              exact ⟨rfl, HW10.out⟩
            · have g6 : (tag == 6) = false := by simpa using ht6
              go_wp2_with fail
              go_ret
              exact ⟨rfl, HW10.out⟩
  · have HF := Lib.hid (HO.out false (by simp [h0]))
    have g1 : (t == t') = false := by simpa using h0
    have gn := HF.out.n0
    have gm := HF.out.m0
    cases x with
    | true =>
      have gx : n < 0 := of_decide_eq_true HF.out.nx; have gxd : decide (n < 0) = true := HF.out.nx
      cases y with
      | true =>
        have gy : m < 0 := of_decide_eq_true HF.out.my; have gyd : decide (m < 0) = true := HF.out.my
        have c0 : w8.cell? ⟨o2, 0, none⟩ = some (.int .i64 t) := HA8.out.cell (i := 0) rfl
        have d0 : w8.cell? ⟨o3, 0, none⟩ = some (.int .i64 t') := HB8.out.cell (i := 0) rfl
        have c1 : w8.cell? ⟨o2, 1, none⟩ = some (.string s) := HA8.out.cell (i := 1) rfl
        have d1 : w8.cell? ⟨o3, 1, none⟩ = some (.string s') := HB8.out.cell (i := 1) rfl
        have c2 : w8.cell? ⟨o2, 2, none⟩ = some (.int .u64 bi) := HA8.out.cell (i := 2) rfl
        have d2 : w8.cell? ⟨o3, 2, none⟩ = some (.int .u64 bi') := HB8.out.cell (i := 2) rfl
        have c3 : w8.cell? ⟨o2, 3, none⟩ = some (.string cl) := HA8.out.cell (i := 3) rfl
        have d3 : w8.cell? ⟨o3, 3, none⟩ = some (.string cl') := HB8.out.cell (i := 3) rfl
        have c4 : w8.cell? ⟨o2, 4, none⟩ = some (.string nm) := HA8.out.cell (i := 4) rfl
        have d4 : w8.cell? ⟨o3, 4, none⟩ = some (.string nm') := HB8.out.cell (i := 4) rfl
        have c5 : w8.cell? ⟨o2, 5, none⟩ = some (.string ds) := HA8.out.cell (i := 5) rfl
        have d5 : w8.cell? ⟨o3, 5, none⟩ = some (.string ds') := HB8.out.cell (i := 5) rfl
        go_wp2_with fail
        refine (HL1.out w8).mono ?_
        rintro e w9 ⟨rfl, hb9⟩
        have HA9 := Lib.hid (HA8.out.below hb9)
        have HB9 := Lib.hid (HB8.out.below hb9)
        have HW9 := Lib.hid (HW8.out.trans (hb9.mono HW8.out.size))
        clear hb9 c0 c1 c2 c3 c4 c5 d0 d1 d2 d3 d4 d5 HA8 HB8 HW8
        have c0 : w9.cell? ⟨o2, 0, none⟩ = some (.int .i64 t) := HA9.out.cell (i := 0) rfl
        have d0 : w9.cell? ⟨o3, 0, none⟩ = some (.int .i64 t') := HB9.out.cell (i := 0) rfl
        have c1 : w9.cell? ⟨o2, 1, none⟩ = some (.string s) := HA9.out.cell (i := 1) rfl
        have d1 : w9.cell? ⟨o3, 1, none⟩ = some (.string s') := HB9.out.cell (i := 1) rfl
        have c2 : w9.cell? ⟨o2, 2, none⟩ = some (.int .u64 bi) := HA9.out.cell (i := 2) rfl
        have d2 : w9.cell? ⟨o3, 2, none⟩ = some (.int .u64 bi') := HB9.out.cell (i := 2) rfl
        have c3 : w9.cell? ⟨o2, 3, none⟩ = some (.string cl) := HA9.out.cell (i := 3) rfl
        have d3 : w9.cell? ⟨o3, 3, none⟩ = some (.string cl') := HB9.out.cell (i := 3) rfl
        have c4 : w9.cell? ⟨o2, 4, none⟩ = some (.string nm) := HA9.out.cell (i := 4) rfl
        have d4 : w9.cell? ⟨o3, 4, none⟩ = some (.string nm') := HB9.out.cell (i := 4) rfl
        have c5 : w9.cell? ⟨o2, 5, none⟩ = some (.string ds) := HA9.out.cell (i := 5) rfl
        have d5 : w9.cell? ⟨o3, 5, none⟩ = some (.string ds') := HB9.out.cell (i := 5) rfl
        go_wp2_with fail
        refine (HL2.out w9).mono ?_
        rintro e w10 ⟨rfl, hb10⟩
        have HA10 := Lib.hid (HA9.out.below hb10)
        have HB10 := Lib.hid (HB9.out.below hb10)
        have HW10 := Lib.hid (HW9.out.trans (hb10.mono HW9.out.size))
        clear hb10 c0 c1 c2 c3 c4 c5 d0 d1 d2 d3 d4 d5 HA9 HB9 HW9
        have c0 : w10.cell? ⟨o2, 0, none⟩ = some (.int .i64 t) := HA10.out.cell (i := 0) rfl
        have d0 : w10.cell? ⟨o3, 0, none⟩ = some (.int .i64 t') := HB10.out.cell (i := 0) rfl
        have c1 : w10.cell? ⟨o2, 1, none⟩ = some (.string s) := HA10.out.cell (i := 1) rfl
        have d1 : w10.cell? ⟨o3, 1, none⟩ = some (.string s') := HB10.out.cell (i := 1) rfl
        have c2 : w10.cell? ⟨o2, 2, none⟩ = some (.int .u64 bi) := HA10.out.cell (i := 2) rfl
        have d2 : w10.cell? ⟨o3, 2, none⟩ = some (.int .u64 bi') := HB10.out.cell (i := 2) rfl
        have c3 : w10.cell? ⟨o2, 3, none⟩ = some (.string cl) := HA10.out.cell (i := 3) rfl
        have d3 : w10.cell? ⟨o3, 3, none⟩ = some (.string cl') := HB10.out.cell (i := 3) rfl
        have c4 : w10.cell? ⟨o2, 4, none⟩ = some (.string nm) := HA10.out.cell (i := 4) rfl
        have d4 : w10.cell? ⟨o3, 4, none⟩ = some (.string nm') := HB10.out.cell (i := 4) rfl
        have c5 : w10.cell? ⟨o2, 5, none⟩ = some (.string ds) := HA10.out.cell (i := 5) rfl
        have d5 : w10.cell? ⟨o3, 5, none⟩ = some (.string ds') := HB10.out.cell (i := 5) rfl
        go_wp2_with fail
        refine (wide_any tag w10).mono ?_
        rintro e w11 ⟨rfl, hw11⟩
        replace hw11 := hw11.symm
        subst hw11
        have HWD := Lib.hid (wide_eq tag)
        unfold wideT
        by_cases ht5 : tag = 5
        · subst ht5
          go_wp2_with fail
          go_ret
          exact ⟨rfl, HW10.out⟩
        · have g5 : (tag == 5) = false := by simpa using ht5
          by_cases ht6 : tag = 6
          · subst ht6
            go_wp2_with fail
            go_ret
            exact ⟨rfl, HW10.out⟩
          · have g6 : (tag == 6) = false := by simpa using ht6
            go_wp2_with fail
            go_ret
            exact ⟨rfl, HW10.out⟩
      | false =>
        have gy : ¬ m < 0 := of_decide_eq_false HF.out.my; have gyd : decide (m < 0) = false := HF.out.my
        have c0 : w8.cell? ⟨o2, 0, none⟩ = some (.int .i64 t) := HA8.out.cell (i := 0) rfl
        have d0 : w8.cell? ⟨o3, 0, none⟩ = some (.int .i64 t') := HB8.out.cell (i := 0) rfl
        have c1 : w8.cell? ⟨o2, 1, none⟩ = some (.string s) := HA8.out.cell (i := 1) rfl
        have d1 : w8.cell? ⟨o3, 1, none⟩ = some (.string s') := HB8.out.cell (i := 1) rfl
        have c2 : w8.cell? ⟨o2, 2, none⟩ = some (.int .u64 bi) := HA8.out.cell (i := 2) rfl
        have d2 : w8.cell? ⟨o3, 2, none⟩ = some (.int .u64 bi') := HB8.out.cell (i := 2) rfl
        have c3 : w8.cell? ⟨o2, 3, none⟩ = some (.string cl) := HA8.out.cell (i := 3) rfl
        have d3 : w8.cell? ⟨o3, 3, none⟩ = some (.string cl') := HB8.out.cell (i := 3) rfl
        have c4 : w8.cell? ⟨o2, 4, none⟩ = some (.string nm) := HA8.out.cell (i := 4) rfl
        have d4 : w8.cell? ⟨o3, 4, none⟩ = some (.string nm') := HB8.out.cell (i := 4) rfl
        have c5 : w8.cell? ⟨o2, 5, none⟩ = some (.string ds) := HA8.out.cell (i := 5) rfl
        have d5 : w8.cell? ⟨o3, 5, none⟩ = some (.string ds') := HB8.out.cell (i := 5) rfl
        go_wp2_with fail
        refine (HL1.out w8).mono ?_
        rintro e w9 ⟨rfl, hb9⟩
        have HA9 := Lib.hid (HA8.out.below hb9)
        have HB9 := Lib.hid (HB8.out.below hb9)
        have HW9 := Lib.hid (HW8.out.trans (hb9.mono HW8.out.size))
        clear hb9 c0 c1 c2 c3 c4 c5 d0 d1 d2 d3 d4 d5 HA8 HB8 HW8
        have c0 : w9.cell? ⟨o2, 0, none⟩ = some (.int .i64 t) := HA9.out.cell (i := 0) rfl
        have d0 : w9.cell? ⟨o3, 0, none⟩ = some (.int .i64 t') := HB9.out.cell (i := 0) rfl
        have c1 : w9.cell? ⟨o2, 1, none⟩ = some (.string s) := HA9.out.cell (i := 1) rfl
        have d1 : w9.cell? ⟨o3, 1, none⟩ = some (.string s') := HB9.out.cell (i := 1) rfl
        have c2 : w9.cell? ⟨o2, 2, none⟩ = some (.int .u64 bi) := HA9.out.cell (i := 2) rfl
        have d2 : w9.cell? ⟨o3, 2, none⟩ = some (.int .u64 bi') := HB9.out.cell (i := 2) rfl
        have c3 : w9.cell? ⟨o2, 3, none⟩ = some (.string cl) := HA9.out.cell (i := 3) rfl
        have d3 : w9.cell? ⟨o3, 3, none⟩ = some (.string cl') := HB9.out.cell (i := 3) rfl
        have c4 : w9.cell? ⟨o2, 4, none⟩ = some (.string nm) := HA9.out.cell (i := 4) rfl
        have d4 : w9.cell? ⟨o3, 4, none⟩ = some (.string nm') := HB9.out.cell (i := 4) rfl
        have c5 : w9.cell? ⟨o2, 5, none⟩ = some (.string ds) := HA9.out.cell (i := 5) rfl
        have d5 : w9.cell? ⟨o3, 5, none⟩ = some (.string ds') := HB9.out.cell (i := 5) rfl
        go_wp2_with fail
        refine (HL2.out w9).mono ?_
        rintro e w10 ⟨rfl, hb10⟩
        have HA10 := Lib.hid (HA9.out.below hb10)
        have HB10 := Lib.hid (HB9.out.below hb10)
        have HW10 := Lib.hid (HW9.out.trans (hb10.mono HW9.out.size))
        clear hb10 c0 c1 c2 c3 c4 c5 d0 d1 d2 d3 d4 d5 HA9 HB9 HW9
        have c0 : w10.cell? ⟨o2, 0, none⟩ = some (.int .i64 t) := HA10.out.cell (i := 0) rfl
        have d0 : w10.cell? ⟨o3, 0, none⟩ = some (.int .i64 t') := HB10.out.cell (i := 0) rfl
        have c1 : w10.cell? ⟨o2, 1, none⟩ = some (.string s) := HA10.out.cell (i := 1) rfl
        have d1 : w10.cell? ⟨o3, 1, none⟩ = some (.string s') := HB10.out.cell (i := 1) rfl
        have c2 : w10.cell? ⟨o2, 2, none⟩ = some (.int .u64 bi) := HA10.out.cell (i := 2) rfl
        have d2 : w10.cell? ⟨o3, 2, none⟩ = some (.int .u64 bi') := HB10.out.cell (i := 2) rfl
        have c3 : w10.cell? ⟨o2, 3, none⟩ = some (.string cl) := HA10.out.cell (i := 3) rfl
        have d3 : w10.cell? ⟨o3, 3, none⟩ = some (.string cl') := HB10.out.cell (i := 3) rfl
        have c4 : w10.cell? ⟨o2, 4, none⟩ = some (.string nm) := HA10.out.cell (i := 4) rfl
        have d4 : w10.cell? ⟨o3, 4, none⟩ = some (.string nm') := HB10.out.cell (i := 4) rfl
        have c5 : w10.cell? ⟨o2, 5, none⟩ = some (.string ds) := HA10.out.cell (i := 5) rfl
        have d5 : w10.cell? ⟨o3, 5, none⟩ = some (.string ds') := HB10.out.cell (i := 5) rfl
        go_wp2_with fail
        refine (wide_any tag w10).mono ?_
        rintro e w11 ⟨rfl, hw11⟩
        replace hw11 := hw11.symm
        subst hw11
        have HWD := Lib.hid (wide_eq tag)
        unfold wideT
        by_cases ht5 : tag = 5
        · subst ht5
          go_wp2_with fail
          go_ret
          exact ⟨rfl, HW10.out⟩
        · have g5 : (tag == 5) = false := by simpa using ht5
          by_cases ht6 : tag = 6
          · subst ht6
            go_wp2_with fail
            go_ret
            exact ⟨rfl, HW10.out⟩
          · have g6 : (tag == 6) = false := by simpa using ht6
            go_wp2_with fail
            go_ret
            exact ⟨rfl, HW10.out⟩
    | false =>
      have gx : ¬ n < 0 := of_decide_eq_false HF.out.nx; have gxd : decide (n < 0) = false := HF.out.nx
      cases y with
      | true =>
        have gy : m < 0 := of_decide_eq_true HF.out.my; have gyd : decide (m < 0) = true := HF.out.my
        have c0 : w8.cell? ⟨o2, 0, none⟩ = some (.int .i64 t) := HA8.out.cell (i := 0) rfl
        have d0 : w8.cell? ⟨o3, 0, none⟩ = some (.int .i64 t') := HB8.out.cell (i := 0) rfl
        have c1 : w8.cell? ⟨o2, 1, none⟩ = some (.string s) := HA8.out.cell (i := 1) rfl
        have d1 : w8.cell? ⟨o3, 1, none⟩ = some (.string s') := HB8.out.cell (i := 1) rfl
        have c2 : w8.cell? ⟨o2, 2, none⟩ = some (.int .u64 bi) := HA8.out.cell (i := 2) rfl
        have d2 : w8.cell? ⟨o3, 2, none⟩ = some (.int .u64 bi') := HB8.out.cell (i := 2) rfl
        have c3 : w8.cell? ⟨o2, 3, none⟩ = some (.string cl) := HA8.out.cell (i := 3) rfl
        have d3 : w8.cell? ⟨o3, 3, none⟩ = some (.string cl') := HB8.out.cell (i := 3) rfl
        have c4 : w8.cell? ⟨o2, 4, none⟩ = some (.string nm) := HA8.out.cell (i := 4) rfl
        have d4 : w8.cell? ⟨o3, 4, none⟩ = some (.string nm') := HB8.out.cell (i := 4) rfl
        have c5 : w8.cell? ⟨o2, 5, none⟩ = some (.string ds) := HA8.out.cell (i := 5) rfl
        have d5 : w8.cell? ⟨o3, 5, none⟩ = some (.string ds') := HB8.out.cell (i := 5) rfl
        go_wp2_with fail
        refine (HL1.out w8).mono ?_
        rintro e w9 ⟨rfl, hb9⟩
        have HA9 := Lib.hid (HA8.out.below hb9)
        have HB9 := Lib.hid (HB8.out.below hb9)
        have HW9 := Lib.hid (HW8.out.trans (hb9.mono HW8.out.size))
        clear hb9 c0 c1 c2 c3 c4 c5 d0 d1 d2 d3 d4 d5 HA8 HB8 HW8
        have c0 : w9.cell? ⟨o2, 0, none⟩ = some (.int .i64 t) := HA9.out.cell (i := 0) rfl
        have d0 : w9.cell? ⟨o3, 0, none⟩ = some (.int .i64 t') := HB9.out.cell (i := 0) rfl
        have c1 : w9.cell? ⟨o2, 1, none⟩ = some (.string s) := HA9.out.cell (i := 1) rfl
        have d1 : w9.cell? ⟨o3, 1, none⟩ = some (.string s') := HB9.out.cell (i := 1) rfl
        have c2 : w9.cell? ⟨o2, 2, none⟩ = some (.int .u64 bi) := HA9.out.cell (i := 2) rfl
        have d2 : w9.cell? ⟨o3, 2, none⟩ = some (.int .u64 bi') := HB9.out.cell (i := 2) rfl
        have c3 : w9.cell? ⟨o2, 3, none⟩ = some (.string cl) := HA9.out.cell (i := 3) rfl
        have d3 : w9.cell? ⟨o3, 3, none⟩ = some (.string cl') := HB9.out.cell (i := 3) rfl
        have c4 : w9.cell? ⟨o2, 4, none⟩ = some (.string nm) := HA9.out.cell (i := 4) rfl
        have d4 : w9.cell? ⟨o3, 4, none⟩ = some (.string nm') := HB9.out.cell (i := 4) rfl
        have c5 : w9.cell? ⟨o2, 5, none⟩ = some (.string ds) := HA9.out.cell (i := 5) rfl
        have d5 : w9.cell? ⟨o3, 5, none⟩ = some (.string ds') := HB9.out.cell (i := 5) rfl
        go_wp2_with fail
        refine (HL2.out w9).mono ?_
        rintro e w10 ⟨rfl, hb10⟩
        have HA10 := Lib.hid (HA9.out.below hb10)
        have HB10 := Lib.hid (HB9.out.below hb10)
        have HW10 := Lib.hid (HW9.out.trans (hb10.mono HW9.out.size))
        clear hb10 c0 c1 c2 c3 c4 c5 d0 d1 d2 d3 d4 d5 HA9 HB9 HW9
        have c0 : w10.cell? ⟨o2, 0, none⟩ = some (.int .i64 t) := HA10.out.cell (i := 0) rfl
        have d0 : w10.cell? ⟨o3, 0, none⟩ = some (.int .i64 t') := HB10.out.cell (i := 0) rfl
        have c1 : w10.cell? ⟨o2, 1, none⟩ = some (.string s) := HA10.out.cell (i := 1) rfl
        have d1 : w10.cell? ⟨o3, 1, none⟩ = some (.string s') := HB10.out.cell (i := 1) rfl
        have c2 : w10.cell? ⟨o2, 2, none⟩ = some (.int .u64 bi) := HA10.out.cell (i := 2) rfl
        have d2 : w10.cell? ⟨o3, 2, none⟩ = some (.int .u64 bi') := HB10.out.cell (i := 2) rfl
        have c3 : w10.cell? ⟨o2, 3, none⟩ = some (.string cl) := HA10.out.cell (i := 3) rfl
        have d3 : w10.cell? ⟨o3, 3, none⟩ = some (.string cl') := HB10.out.cell (i := 3) rfl
        have c4 : w10.cell? ⟨o2, 4, none⟩ = some (.string nm) := HA10.out.cell (i := 4) rfl
        have d4 : w10.cell? ⟨o3, 4, none⟩ = some (.string nm') := HB10.out.cell (i := 4) rfl
        have c5 : w10.cell? ⟨o2, 5, none⟩ = some (.string ds) := HA10.out.cell (i := 5) rfl
        have d5 : w10.cell? ⟨o3, 5, none⟩ = some (.string ds') := HB10.out.cell (i := 5) rfl
        go_wp2_with fail
        refine (wide_any tag w10).mono ?_
        rintro e w11 ⟨rfl, hw11⟩
        replace hw11 := hw11.symm
        subst hw11
        have HWD := Lib.hid (wide_eq tag)
        unfold wideT
        by_cases ht5 : tag = 5
        · subst ht5
          go_wp2_with fail
          go_ret
          exact ⟨rfl, HW10.out⟩
        · have g5 : (tag == 5) = false := by simpa using ht5
          by_cases ht6 : tag = 6
          · subst ht6
            go_wp2_with fail
            go_ret
            exact ⟨rfl, HW10.out⟩
          · have g6 : (tag == 6) = false := by simpa using ht6
            go_wp2_with fail
            go_ret
            exact ⟨rfl, HW10.out⟩
      | false =>
        have gy : ¬ m < 0 := of_decide_eq_false HF.out.my; have gyd : decide (m < 0) = false := HF.out.my
        have c0 : w8.cell? ⟨o2, 0, none⟩ = some (.int .i64 t) := HA8.out.cell (i := 0) rfl
        have d0 : w8.cell? ⟨o3, 0, none⟩ = some (.int .i64 t') := HB8.out.cell (i := 0) rfl
        have c1 : w8.cell? ⟨o2, 1, none⟩ = some (.string s) := HA8.out.cell (i := 1) rfl
        have d1 : w8.cell? ⟨o3, 1, none⟩ = some (.string s') := HB8.out.cell (i := 1) rfl
        have c2 : w8.cell? ⟨o2, 2, none⟩ = some (.int .u64 bi) := HA8.out.cell (i := 2) rfl
        have d2 : w8.cell? ⟨o3, 2, none⟩ = some (.int .u64 bi') := HB8.out.cell (i := 2) rfl
        have c3 : w8.cell? ⟨o2, 3, none⟩ = some (.string cl) := HA8.out.cell (i := 3) rfl
        have d3 : w8.cell? ⟨o3, 3, none⟩ = some (.string cl') := HB8.out.cell (i := 3) rfl
        have c4 : w8.cell? ⟨o2, 4, none⟩ = some (.string nm) := HA8.out.cell (i := 4) rfl
        have d4 : w8.cell? ⟨o3, 4, none⟩ = some (.string nm') := HB8.out.cell (i := 4) rfl
        have c5 : w8.cell? ⟨o2, 5, none⟩ = some (.string ds) := HA8.out.cell (i := 5) rfl
        have d5 : w8.cell? ⟨o3, 5, none⟩ = some (.string ds') := HB8.out.cell (i := 5) rfl
        go_wp2_with fail
        refine (HL1.out w8).mono ?_
        rintro e w9 ⟨rfl, hb9⟩
        have HA9 := Lib.hid (HA8.out.below hb9)
        have HB9 := Lib.hid (HB8.out.below hb9)
        have HW9 := Lib.hid (HW8.out.trans (hb9.mono HW8.out.size))
        clear hb9 c0 c1 c2 c3 c4 c5 d0 d1 d2 d3 d4 d5 HA8 HB8 HW8
        have c0 : w9.cell? ⟨o2, 0, none⟩ = some (.int .i64 t) := HA9.out.cell (i := 0) rfl
        have d0 : w9.cell? ⟨o3, 0, none⟩ = some (.int .i64 t') := HB9.out.cell (i := 0) rfl
        have c1 : w9.cell? ⟨o2, 1, none⟩ = some (.string s) := HA9.out.cell (i := 1) rfl
        have d1 : w9.cell? ⟨o3, 1, none⟩ = some (.string s') := HB9.out.cell (i := 1) rfl
        have c2 : w9.cell? ⟨o2, 2, none⟩ = some (.int .u64 bi) := HA9.out.cell (i := 2) rfl
        have d2 : w9.cell? ⟨o3, 2, none⟩ = some (.int .u64 bi') := HB9.out.cell (i := 2) rfl
        have c3 : w9.cell? ⟨o2, 3, none⟩ = some (.string cl) := HA9.out.cell (i := 3) rfl
        have d3 : w9.cell? ⟨o3, 3, none⟩ = some (.string cl') := HB9.out.cell (i := 3) rfl
        have c4 : w9.cell? ⟨o2, 4, none⟩ = some (.string nm) := HA9.out.cell (i := 4) rfl
        have d4 : w9.cell? ⟨o3, 4, none⟩ = some (.string nm') := HB9.out.cell (i := 4) rfl
        have c5 : w9.cell? ⟨o2, 5, none⟩ = some (.string ds) := HA9.out.cell (i := 5) rfl
        have d5 : w9.cell? ⟨o3, 5, none⟩ = some (.string ds') := HB9.out.cell (i := 5) rfl
        go_wp2_with fail
        refine (HL2.out w9).mono ?_
        rintro e w10 ⟨rfl, hb10⟩
        have HA10 := Lib.hid (HA9.out.below hb10)
        have HB10 := Lib.hid (HB9.out.below hb10)
        have HW10 := Lib.hid (HW9.out.trans (hb10.mono HW9.out.size))
        clear hb10 c0 c1 c2 c3 c4 c5 d0 d1 d2 d3 d4 d5 HA9 HB9 HW9
        have c0 : w10.cell? ⟨o2, 0, none⟩ = some (.int .i64 t) := HA10.out.cell (i := 0) rfl
        have d0 : w10.cell? ⟨o3, 0, none⟩ = some (.int .i64 t') := HB10.out.cell (i := 0) rfl
        have c1 : w10.cell? ⟨o2, 1, none⟩ = some (.string s) := HA10.out.cell (i := 1) rfl
        have d1 : w10.cell? ⟨o3, 1, none⟩ = some (.string s') := HB10.out.cell (i := 1) rfl
        have c2 : w10.cell? ⟨o2, 2, none⟩ = some (.int .u64 bi) := HA10.out.cell (i := 2) rfl
        have d2 : w10.cell? ⟨o3, 2, none⟩ = some (.int .u64 bi') := HB10.out.cell (i := 2) rfl
        have c3 : w10.cell? ⟨o2, 3, none⟩ = some (.string cl) := HA10.out.cell (i := 3) rfl
        have d3 : w10.cell? ⟨o3, 3, none⟩ = some (.string cl') := HB10.out.cell (i := 3) rfl
        have c4 : w10.cell? ⟨o2, 4, none⟩ = some (.string nm) := HA10.out.cell (i := 4) rfl
        have d4 : w10.cell? ⟨o3, 4, none⟩ = some (.string nm') := HB10.out.cell (i := 4) rfl
        have c5 : w10.cell? ⟨o2, 5, none⟩ = some (.string ds) := HA10.out.cell (i := 5) rfl
        have d5 : w10.cell? ⟨o3, 5, none⟩ = some (.string ds') := HB10.out.cell (i := 5) rfl
        go_wp2_with fail
        refine (wide_any tag w10).mono ?_
        rintro e w11 ⟨rfl, hw11⟩
        replace hw11 := hw11.symm
        subst hw11
        have HWD := Lib.hid (wide_eq tag)
        unfold wideT
        by_cases ht5 : tag = 5
        · subst ht5
          go_wp2_with fail
          go_ret
          exact ⟨rfl, HW10.out⟩
        · have g5 : (tag == 5) = false := by simpa using ht5
          by_cases ht6 : tag = 6
          · subst ht6
            go_wp2_with fail
            go_ret
            exact ⟨rfl, HW10.out⟩
          · have g6 : (tag == 6) = false := by simpa using ht6
            go_wp2_with fail
            go_ret
            exact ⟨rfl, HW10.out⟩
end Go.Proofs.Ytbknkahakmfhkaa
