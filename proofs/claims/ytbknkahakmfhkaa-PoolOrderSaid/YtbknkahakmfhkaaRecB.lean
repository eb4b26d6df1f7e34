/- Package record: data, shared. -/
import Derived.Test.YtbknkahakmfhkaaRecA
import Derived.Test.YtbknkahakmfhkaaGrowT
import Derived.Test.YtbknkahakmfhkaaGrowL
import Derived.Test.YtbknkahakmfhkaaGrowM
import Derived.Test.YtbknkahakmfhkaaKeep
namespace Go.Proofs.Ytbknkahakmfhkaa
open Go.RowKit
set_option linter.unusedVariables false
set_option linter.unusedSimpArgs false

structure Rec where
  me : Int
  da : Int
  cl : Int
  su : Int
  pa : Int
  si : Int
  na : ByteArray
  of : Int
def Rec.arr (r : Rec) : Array Value := #[.int .i64 r.me, .int .u16 r.da, .int .u16 r.cl, .int .u32 r.su, .int .i64 r.pa, .int .i64 r.si, .string r.na, .int .i64 r.of]
structure Rec.Ok (r : Rec) : Prop where
  da : 0 ≤ r.da ∧ r.da < 65536
  cl : 0 ≤ r.cl ∧ r.cl < 65536
  su : 0 ≤ r.su ∧ r.su < 4294967296
abbrev TR : TypeId := 27
theorem cell_later2 {w w' : World} {a : Addr} {v : Value} (h : w.cell? a = some v) (hb : Below w.drew.heap.size w.drew w') : w'.cell? a = some v :=
  (hb.cell (World.block_lt_of_cell? w.drew _ h)).trans h
theorem mono_own (B : Nat) (l : List UInt8) : Mono (OwnB B l) := fun v w w' h hb => h.below hb
section
variable {P : Program} {ops : Array Oper} {Q : Exit → Act → World → Prop} {a : Act} {w0 : World} {o : Oper} {rest : List Oper} {done : List (Nat × Spec)} {α : Type} {E : α → Value}
/-- A composite literal of a slice. -/
theorem gw_lit (vs : List α) (h1 : ∀ (a' : Act) (w' : World), (∀ t ∈ o.looksAt ops, KnownAt done a a' w' t) → Region.wanted o (yielded ops a'.tmps) = true ∧ ∃ (cs : Array Value) (e : TypeId), cs.toList = vs.map E ∧ (execOp a'.eval o).run P w' = .ok (.value (.slice (some ⟨w'.heap.size, 0, none⟩) vs.length vs.length)) (w'.alloc (.cells cs e)))
    (h : GW P ops Q a w0 rest (consD o (SliceG E vs) done)) : GW P ops Q a w0 (o :: rest) done := by
  refine ⟨_, mono_slice E vs, fun a' w' hb hk => ?_, h⟩
  obtain ⟨h2, cs, e, h3, h4⟩ := h1 a' w' hk
  rw [if_pos h2]
  unfold Oper.wp
  rw [h4]
  exact ⟨_, rfl, ⟨_, _, _, rfl, rfl, rd_new w' cs e (0, 0) vs h3⟩, below_alloc _ _⟩
end
theorem wrap64 (x : Int) (h1 : -9223372036854775808 ≤ x) (h2 : x ≤ 9223372036854775807) : IntKind.i64.wrap x = x := by
  simp [IntKind.wrap, IntKind.signed, IntKind.bits]; omega
theorem rd_new2 {α : Type} {E : α → Value} (w : World) (o : Obj) (cs : Array Value) (e : TypeId) (l : List α) (h : cs.toList = l.map E) : Rd ((w.alloc o).alloc (.cells cs e)) E (some ⟨w.heap.size + 1, 0, none⟩) l := by
  have := rd_new (E := E) (w.alloc o) cs e (0, 0) l h
  rwa [show (w.alloc o).heap.size = w.heap.size + 1 by simp] at this
set_option maxRecDepth 100000 in
set_option maxHeartbeats 4000000 in
theorem data_any (a : Option Addr) (n c : Nat) (lb : List UInt8) (r : Rec) (w : World) (hl : lb.length = n) (hn : n ≤ 1000000) (hr : Rd w bE a lb) (hok : r.Ok) :
  Calls Try.prog 51 #[.slice a n c, .agg r.arr] w fun e w' => ∃ v, e = .returned v ∧ OwnB w.heap.size (lb ++ encs 4 [r.su, r.pa, r.si]) v w' ∧ Below w.heap.size w w' := by
  obtain ⟨me, da, cl, su, pa, si, na, of⟩ := r
  have hsu := hok.su
  simp only at hsu
  have HR := Lib.hid hr
  simp only [Rec.arr]
  clear hr hok
  go_enter Try.func51, Try.ntmps51
  go_wp2_with fail
  have hb2 := (below_alloc w (.cells #[.int .i64 me, .int .u16 da, .int .u16 cl, .int .u32 su, .int .i64 pa, .int .i64 si, .string na, .int .i64 of] TR)).alloc (Nat.le_trans (Nat.le_succ _) (by simp)) (.cells #[.int .i64 su, .int .i64 pa, .int .i64 si] 3)
  refine (fours_any a n c lb _ 3 3 [su, pa, si] _ hl hn (HR.out.below hb2) rfl (by decide) (by decide) (rd_new2 w _ _ _ _ rfl)).mono ?_
  rintro e w2 ⟨v, rfl, hv, hb3⟩
  have HV := Lib.hid (hv.mono hb2.size)
  have HB := Lib.hid (hb2.trans (hb3.mono hb2.size))
  clear hv hb2 hb3
  go_wp2
  go_ret
  exact ⟨_, rfl, HV.out, HB.out⟩
set_option maxRecDepth 100000 in
set_option maxHeartbeats 4000000 in
theorem shared_any (a : Option Addr) (n c : Nat) (lb : List UInt8) (r : Rec) (bh : Bool) (w : World) (hl : lb.length = n) (hn : n ≤ 1000000) (hr : Rd w bE a lb) (hok : r.Ok) :
  Calls Try.prog 52 #[.slice a n c, .agg r.arr, .bool bh] w fun e w' => ∃ v, e = .returned v ∧ OwnB w.heap.size (lb ++ encs 2 [20, flagI bh, r.me, r.cl, r.da]) v w' ∧ Below w.heap.size w w' := by
  obtain ⟨me, da, cl, su, pa, si, na, of⟩ := r
  have hda := hok.da
  have hcl := hok.cl
  simp only at hda hcl
  have WCL := Lib.hid (wrap64 cl (by omega) (by omega))
  have WDA := Lib.hid (wrap64 da (by omega) (by omega))
  have HR := Lib.hid hr
  simp only [Rec.arr]
  clear hr hok
  have hb1 := below_alloc w (.cells #[.int .i64 me, .int .u16 da, .int .u16 cl, .int .u32 su, .int .i64 pa, .int .i64 si, .string na, .int .i64 of] TR)
  have hk := Blk.new w TR #[.int .i64 me, .int .u16 da, .int .u16 cl, .int .u32 su, .int .i64 pa, .int .i64 si, .string na, .int .i64 of]
  have HB1 := Lib.hid hb1
  have HK := Lib.hid hk
  clear hb1 hk
  go_enter Try.func52, Try.ntmps52
  go_wp2_with fail
  obtain ⟨o, ho⟩ : ∃ o, o = w.heap.size := ⟨_, rfl⟩
  have hwo : w.heap.size ≤ o := by omega
  rw [← ho] at HK ⊢
  generalize hw1 : w.alloc (.cells #[.int .i64 me, .int .u16 da, .int .u16 cl, .int .u32 su, .int .i64 pa, .int .i64 si, .string na, .int .i64 of] TR) = w1 at HB1 HK ⊢
  clear hw1 ho
  refine wp_region_grow (by kernel_rfl) (by kernel_rfl) (by rfl) ?_
  apply gw_val
  · intro a' w' hk
    refine ⟨wanted_none rfl, ?_⟩
    simp [Oper.looksAt, Op.operands, Call.operands, KnownAt, List.lookup, consD] at hk
    simp [execOp, Act.eval, hk, go_sem]
    all_goals rfl
  apply gw_val
  · intro a' w' hk
    refine ⟨wanted_none rfl, ?_⟩
    simp [Oper.looksAt, Op.operands, Call.operands, KnownAt, List.lookup, consD] at hk
    simp [execOp, Act.eval, hk, go_sem]
    all_goals rfl
  refine gw_call 98 #[.bool bh] (fun v _ => v = .int .i64 (flagI bh)) (mono_eq _) (fun a' w' hk => ?_) (fun w' hb => (cflags_any bh w').mono ?_) ?_
  · refine ⟨wanted_none rfl, ?_⟩
    simp [Oper.looksAt, Op.operands, Call.operands, KnownAt, List.lookup, consD] at hk
    simp [execOp, Act.eval, hk, go_sem]
    all_goals rfl
  · rintro e w'' ⟨rfl, rfl⟩
    exact ⟨_, rfl, rfl, Below.refl _ _⟩
  apply gw_val
  · intro a' w' hk
    refine ⟨wanted_none rfl, ?_⟩
    simp [Oper.looksAt, Op.operands, Call.operands, KnownAt, List.lookup, consD] at hk
    simp [execOp, Act.eval, hk, go_sem]
    all_goals rfl
  refine gw_valB (fun v _ => v = .int .i64 me) (mono_eq _) ?_ ?_
  · intro a' w' hb' hk
    refine ⟨wanted_none rfl, _, ?_, rfl⟩
    have q0 := cell_later2 (HK.out.cell (i := 0) rfl) hb'
    simp [Oper.looksAt, Op.operands, Call.operands, KnownAt, List.lookup, consD] at hk
    simp [execOp, Act.eval, hk, q0, go_sem]
    all_goals rfl
  apply gw_val
  · intro a' w' hk
    refine ⟨wanted_none rfl, ?_⟩
    simp [Oper.looksAt, Op.operands, Call.operands, KnownAt, List.lookup, consD] at hk
    simp [execOp, Act.eval, hk, go_sem]
    all_goals rfl
  apply gw_val
  · intro a' w' hk
    refine ⟨wanted_none rfl, ?_⟩
    simp [Oper.looksAt, Op.operands, Call.operands, KnownAt, List.lookup, consD] at hk
    simp [execOp, Act.eval, hk, go_sem]
    all_goals rfl
  refine gw_valB (fun v _ => v = .int .u16 cl) (mono_eq _) ?_ ?_
  · intro a' w' hb' hk
    refine ⟨wanted_none rfl, _, ?_, rfl⟩
    have q0 := cell_later2 (HK.out.cell (i := 2) rfl) hb'
    simp [Oper.looksAt, Op.operands, Call.operands, KnownAt, List.lookup, consD] at hk
    simp [execOp, Act.eval, hk, q0, go_sem]
    all_goals rfl
  refine gw_val (.int .i64 cl) ?_ ?_
  · intro a' w' hk
    refine ⟨wanted_none rfl, ?_⟩
    simp [Oper.looksAt, Op.operands, Call.operands, KnownAt, List.lookup, consD] at hk
    simp [execOp, Act.eval, hk, go_sem, WCL.out]
    all_goals rfl
  apply gw_val
  · intro a' w' hk
    refine ⟨wanted_none rfl, ?_⟩
    simp [Oper.looksAt, Op.operands, Call.operands, KnownAt, List.lookup, consD] at hk
    simp [execOp, Act.eval, hk, go_sem]
    all_goals rfl
  apply gw_val
  · intro a' w' hk
    refine ⟨wanted_none rfl, ?_⟩
    simp [Oper.looksAt, Op.operands, Call.operands, KnownAt, List.lookup, consD] at hk
    simp [execOp, Act.eval, hk, go_sem]
    all_goals rfl
  refine gw_valB (fun v _ => v = .int .u16 da) (mono_eq _) ?_ ?_
  · intro a' w' hb' hk
    refine ⟨wanted_none rfl, _, ?_, rfl⟩
    have q0 := cell_later2 (HK.out.cell (i := 1) rfl) hb'
    simp [Oper.looksAt, Op.operands, Call.operands, KnownAt, List.lookup, consD] at hk
    simp [execOp, Act.eval, hk, q0, go_sem]
    all_goals rfl
  refine gw_val (.int .i64 da) ?_ ?_
  · intro a' w' hk
    refine ⟨wanted_none rfl, ?_⟩
    simp [Oper.looksAt, Op.operands, Call.operands, KnownAt, List.lookup, consD] at hk
    simp [execOp, Act.eval, hk, go_sem, WDA.out]
    all_goals rfl
  refine gw_lit (E := iR) [20, flagI bh, me, cl, da] ?_ ?_
  · intro a' w' hk
    refine ⟨wanted_none rfl, (List.map iR [20, flagI bh, me, cl, da]).toArray, 3, by simp, ?_⟩
    simp [Oper.looksAt, Op.operands, Call.operands, KnownAt, List.lookup, consD] at hk
    simp [execOp, Act.eval, hk, go_sem]
    all_goals rfl
  refine gw_callE 54 (fun args w => ∃ v0 v1 : Value, args = #[v0, v1] ∧ v0 = .slice a n c ∧ (SliceG iR [20, flagI bh, me, cl, da]) v1 w) (OwnB w1.heap.size (lb ++ encs 2 [20, flagI bh, me, cl, da])) (mono_own _ _) (fun a' w' hk => ?_) (fun w' args hb hA => ?_) ?_
  · refine ⟨wanted_none rfl, #[a'.tmps.getD 7 undef, a'.tmps.getD 20 undef], ⟨_, _, rfl, hk 7 (by decide), hk 20 (by decide)⟩, ?_⟩
    simp [execOp, Act.eval, go_sem]
    all_goals rfl
  · obtain ⟨v0, v1, rfl, rfl, u1⟩ := hA
    obtain ⟨q, m, d, rfl, hm, hq⟩ := u1
    have hb' : Below w1.heap.size w1 w' := ((Below.refl w1.heap.size w1).drew).trans hb
    refine (twos_any a n c lb q m d [20, flagI bh, me, cl, da] w' hl hn ((HR.out.below HB1.out).below hb') hm (by rw [← hm]; simp) (by rw [← hm]; simp) hq).mono ?_
    rintro e w'' ⟨v, rfl, hv, hb2⟩
    exact ⟨v, rfl, hv.mono hb'.size, hb2⟩
  refine gw_valB (OwnB w1.heap.size (lb ++ encs 2 [20, flagI bh, me, cl, da])) (mono_own _ _) ?_ ?_
  · intro a' w' hb' hk
    refine ⟨wanted_none rfl, a'.tmps.getD 21 undef, ?_, hk 21 (by decide)⟩
    simp [execOp, Act.eval, go_sem]
  intro vs w3 hb3 hall
  simp only [AllS, consD] at hall
  simp only [consD, putAllS, Act.put]
  obtain ⟨h9, -⟩ := hall
  generalize vs 6 = v6 at h9 ⊢
  simp only [List.setIfInBounds_toArray, List.set_cons_succ, List.set_cons_zero]
  have hb3' : Below w1.heap.size w1 w3 := ((Below.refl w1.heap.size w1).drew).trans hb3
  have HV := Lib.hid (And.intro (h9.mono HB1.out.size) (HB1.out.trans (hb3'.mono HB1.out.size)))
  clear h9 hb3 hb3'
  go_wp2
  go_ret
  exact ⟨_, rfl, HV.out⟩
end Go.Proofs.Ytbknkahakmfhkaa
