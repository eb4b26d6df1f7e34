/- packsaddleref12: ReadBehind. -/
import Derived.Test.YtbknkahakmfhkaaRecT
import Derived.Deep.DeepCutAuto
namespace Go.Proofs.Ytbknkahakmfhkaa
open Go.RowKit
set_option linter.unusedVariables false
set_option linter.unusedSimpArgs false

def behMs : List Nat := [4, 4, 4, 4]
def behQ (l : List UInt8) (s : Nat × Int) : Rec × (Nat × Int) :=
  let V := numV l s behMs
  let S := numS l s behMs
  let er := markE S.2 (V.getD 0 0) 134695760
  (if er = 0 then { zeroR with su := V.getD 1 0, pa := V.getD 2 0, si := V.getD 3 0 } else zeroR, (S.1, er))
theorem behQ_P (l : List UInt8) (s : Nat × Int) : behQ l s = behP l s := by
  have e : ∀ er v magic : Int, doneE er v magic false = markE er v magic := fun er v magic => by rw [done_want]; unfold wantE; rw [if_neg (by simp)]
  unfold behQ behP
  simp only [e]
  rfl
set_option maxRecDepth 100000 in
set_option maxHeartbeats 32000000 in
theorem rReadBehind_any (g : Nat) (l : List UInt8) (s : Nat × Int) (w : World) (h : RefOk w g l s.1 s.2) :
  Calls Try.prog 28 #[.pointer (some ⟨g, 0, none⟩)] w fun e w' => e = .returned (.agg (behQ l s).1.arr) ∧ RefOk w' g l (behQ l s).2.1 (behQ l s).2.2 ∧ w.grownBy w' (some g) := by
  have hlt := h.lt'
  have hb0 := below_alloc w (.cells zeroR.arr TR)
  have hk2 := Blk.new w TR zeroR.arr
  have hb1 := below_alloc (w.alloc (.cells zeroR.arr TR)) (.cells #[.int .i64 4, .int .i64 4, .int .i64 4, .int .i64 4] 3)
  have hr := (h.below hb0).below hb1
  have HLT := Lib.hid hlt
  have HB0 := Lib.hid (hb0.trans (hb1.mono hb0.size))
  have HK2 := Lib.hid (hk2.below hb1)
  have hrd := rd_new2 (E := iR) w (.cells zeroR.arr TR) #[.int .i64 4, .int .i64 4, .int .i64 4, .int .i64 4] 3 (behMs.map Int.ofNat) rfl
  have HRD := Lib.hid hrd
  have HRR := Lib.hid hr
  clear h hlt hb0 hk2 hb1 hr hrd
  simp only [zeroR, Rec.arr] at HK2 HRD HRR HB0
  go_enter Try.func28, Try.ntmps28
  go_wp2_with fail
  refine (numbers_any g l s _ 4 4 behMs 134695760 _ HRR.out rfl (by decide) (by decide) (by decide) HRD.out (by intro b off e; simp only [Option.some.injEq, Addr.mk.injEq] at e; have := HLT.out; omega)).mono ?_
  rintro e w1 ⟨a4, c4, rfl, hown, href, hg1⟩
  obtain ⟨o2, ho2⟩ : ∃ o, o = w.heap.size := ⟨_, rfl⟩
  have HO2 : Hid (w.heap.size ≤ o2 ∧ g < o2) := Lib.hid (by have := HLT.out; omega)
  rw [← ho2] at HK2 ⊢
  clear ho2
  have HK21 := Lib.hid (HK2.out.grown hg1 (by have := HO2.out; intro e; simp only [Option.some.injEq] at e; omega))
  have HG1 := Lib.hid (grownBy_trans (grownBy_of_below (some g) HB0.out) hg1)
  obtain ⟨g4, rfl, hg4, hg4l, hcells⟩ := own_cells hown (by decide)
  have HG4 : Hid (w.heap.size ≤ g4 ∧ g < g4 ∧ o2 < g4) := Lib.hid (by have h1 := HB0.out.size; have h2 := HLT.out; have h3 := HK2.out.lt; omega)
  have HC1 := Lib.hid (hcells 1 _ rfl)
  have HC2 := Lib.hid (hcells 2 _ rfl)
  have HC3 := Lib.hid (hcells 3 _ rfl)
  have hq : behQ l s = (if markE (numS l s behMs).2 ((numV l s behMs).getD 0 0) 134695760 = 0 then { zeroR with su := (rdN l 4 (rdS l 4 s)), pa := (rdN l 4 (rdS l 4 (rdS l 4 s))), si := (rdN l 4 (rdS l 4 (rdS l 4 (rdS l 4 s)))) } else zeroR, ((numS l s behMs).1, markE (numS l s behMs).2 ((numV l s behMs).getD 0 0) 134695760)) := rfl
  have hwu := rd4_lt l (rdS l 4 s)
  have WU := Lib.hid (wrapu32 (rdN l 4 (rdS l 4 s)) hwu.1 hwu.2)
  have HQ := Lib.hid hq
  clear hq hwu
  generalize (rdN l 4 (rdS l 4 s)) = v1 at HC1 HQ WU
  generalize (rdN l 4 (rdS l 4 (rdS l 4 s))) = v2 at HC2 HQ
  generalize (rdN l 4 (rdS l 4 (rdS l 4 (rdS l 4 s)))) = v3 at HC3 HQ
  generalize markE (numS l s behMs).2 ((numV l s behMs).getD 0 0) 134695760 = er0 at href HQ
  generalize (numS l s behMs).1 = p0 at href HQ
  have HRF := Lib.hid href
  obtain ⟨aa, nn, cc, hbk, -⟩ := href.ex
  have qe := hbk.cell (i := 2) rfl
  clear hown href hg1 hcells hg4 hg4l HB0 HK2 HRD HRR hbk
  by_cases he : er0 = 0
  · subst he
    rw [if_pos rfl] at HQ
    go_wp2_with fail
    clear qe
    refine wp_region_growT 11 (by kernel_rfl) (by kernel_rfl) (by rfl) (by kernel_rfl) ?_
    apply gw_val
    · intro a' w' hk
      refine ⟨wanted_none rfl, ?_⟩
      simp [Oper.looksAt, Op.operands, Call.operands, KnownAt, List.lookup, consD] at hk
      simp [execOp, Act.eval, hk, go_sem]
      all_goals rfl
    apply gw_val
    · intro a' w' hk
      refine ⟨wanted_none rfl, ?_⟩
      simp [Oper.looksAt, Op.operands, Call.operands, KnownAt, List.lookup, consD] at hk
      simp [execOp, Act.eval, hk, go_sem]
      all_goals rfl
    refine gw_valB (fun v _ => v = .int .i64 v1) (mono_eq _) ?_ ?_
    · intro a' w' hb' hk
      refine ⟨wanted_none rfl, _, ?_, rfl⟩
      have q0 := cell_later2 HC1.out hb'
      simp [Oper.looksAt, Op.operands, Call.operands, KnownAt, List.lookup, consD] at hk
      simp [execOp, Act.eval, hk, q0, go_sem]
      all_goals rfl
    refine gw_val (.int .u32 v1) ?_ ?_
    · intro a' w' hk
      refine ⟨wanted_none rfl, ?_⟩
      simp [Oper.looksAt, Op.operands, Call.operands, KnownAt, List.lookup, consD] at hk
      simp [execOp, Act.eval, hk, go_sem, WU.out]
      all_goals rfl
    apply gw_val
    · intro a' w' hk
      refine ⟨wanted_none rfl, ?_⟩
      simp [Oper.looksAt, Op.operands, Call.operands, KnownAt, List.lookup, consD] at hk
      simp [execOp, Act.eval, hk, go_sem]
      all_goals rfl
    apply gw_val
    · intro a' w' hk
      refine ⟨wanted_none rfl, ?_⟩
      simp [Oper.looksAt, Op.operands, Call.operands, KnownAt, List.lookup, consD] at hk
      simp [execOp, Act.eval, hk, go_sem]
      all_goals rfl
    refine gw_valB (fun v _ => v = .int .i64 v2) (mono_eq _) ?_ ?_
    · intro a' w' hb' hk
      refine ⟨wanted_none rfl, _, ?_, rfl⟩
      have q0 := cell_later2 HC2.out hb'
      simp [Oper.looksAt, Op.operands, Call.operands, KnownAt, List.lookup, consD] at hk
      simp [execOp, Act.eval, hk, q0, go_sem]
      all_goals rfl
    apply gw_val
    · intro a' w' hk
      refine ⟨wanted_none rfl, ?_⟩
      simp [Oper.looksAt, Op.operands, Call.operands, KnownAt, List.lookup, consD] at hk
      simp [execOp, Act.eval, hk, go_sem]
      all_goals rfl
    apply gw_val
    · intro a' w' hk
      refine ⟨wanted_none rfl, ?_⟩
      simp [Oper.looksAt, Op.operands, Call.operands, KnownAt, List.lookup, consD] at hk
      simp [execOp, Act.eval, hk, go_sem]
      all_goals rfl
    refine gw_valB (fun v _ => v = .int .i64 v3) (mono_eq _) ?_ ?_
    · intro a' w' hb' hk
      refine ⟨wanted_none rfl, _, ?_, rfl⟩
      have q0 := cell_later2 HC3.out hb'
      simp [Oper.looksAt, Op.operands, Call.operands, KnownAt, List.lookup, consD] at hk
      simp [execOp, Act.eval, hk, q0, go_sem]
      all_goals rfl
    refine gw_val (.agg #[.int .i64 0, .int .u16 0, .int .u16 0, .int .u32 v1, .int .i64 v2, .int .i64 v3, .string ⟨#[]⟩, .int .i64 0]) ?_ ?_
    · intro a' w' hk
      refine ⟨wanted_none rfl, ?_⟩
      simp [Oper.looksAt, Op.operands, Call.operands, KnownAt, List.lookup, consD] at hk
      simp [execOp, Act.eval, hk, go_sem]
      all_goals rfl
    intro vs w3 hb3 hall _
    simp only [AllS, consD] at hall
    simp only [consD, putAllS, Act.put]
    obtain ⟨h23, -⟩ := hall
    rw [h23]
    clear h23
    simp only [List.drop_succ_cons, List.drop_zero, List.setIfInBounds_toArray, List.set_cons_succ, List.set_cons_zero]
    have hb3' : Below w1.heap.size w1 w3 := ((Below.refl w1.heap.size w1).drew).trans hb3
    have HR3 := Lib.hid (HRF.out.below hb3')
    have HG3 := Lib.hid (grownBy_trans HG1.out (grownBy_of_below (some g) hb3'))
    have HK3 := Lib.hid (HK21.out.below hb3')
    clear hb3 hb3' HC1 HC2 HC3 HRF HG1 HK21
    go_wp2_with (first | (refine wpList_storeBlk rfl _ _ rfl rfl rfl HK3.out rfl size_rec (Rec.one ⟨0, 0, 0, v1, v2, v3, ⟨#[]⟩, 0⟩) ?_; intro d0 dg))
    refine bodyPost_ret (results_cell_row (p := 2) rfl _ _ o2 _ _ _ _ rfl d0 Try.underlying27 rfl size_rec) rfl ?_
    rw [HQ.out]
    exact ⟨rfl, HR3.out.grown dg (by intro k hk; simp only [Option.some.injEq] at hk; have := HO2.out; omega), grown_new HG3.out dg (by intro k hk; simp only [Option.some.injEq] at hk; have := HO2.out; omega)⟩
  · have he' : (er0 == 0) = false := by simpa using he
    rw [if_neg he] at HQ
    clear he
    go_wp2_with (first | (refine wpList_storeBlk rfl _ _ rfl rfl rfl HK21.out rfl size_rec (Rec.one zeroR) ?_; intro d0 dg))
    refine bodyPost_ret (results_cell_row (p := 2) rfl _ _ o2 _ _ _ _ rfl d0 Try.underlying27 rfl size_rec) rfl ?_
    rw [HQ.out]
    exact ⟨rfl, HRF.out.grown dg (by intro k hk; simp only [Option.some.injEq] at hk; have := HO2.out; omega), grown_new HG1.out dg (by intro k hk; simp only [Option.some.injEq] at hk; have := HO2.out; omega)⟩
end Go.Proofs.Ytbknkahakmfhkaa
