/- packsaddleref12.ReadEnd. -/
import Derived.Test.YtbknkahakmfhkaaRecS
import Derived.Test.YtbknkahakmfhkaaRecG
namespace Go.Proofs.Ytbknkahakmfhkaa
open Go.RowKit
set_option linter.unusedVariables false
set_option linter.unusedSimpArgs false

theorem done_want (er v magic : Int) (odd : Bool) : doneE er v magic odd = wantE (markE er v magic) (!odd) := by
  unfold doneE wantE markE failE
  by_cases h : er = 0 <;> by_cases h2 : v = magic <;> cases odd <;> simp [h, h2]
theorem own_cells {w : World} {B n c : Nat} {a : Option Addr} {vs : List Int} (h : Own w B 3 iR a n c vs) (hn : 0 < n) : ∃ g, a = some ⟨g, 0, none⟩ ∧ B ≤ g ∧ g < w.heap.size ∧ ∀ i x, vs[i]? = some x → w.cell? ⟨g, i, none⟩ = some (.int .i64 x) := by
  obtain ⟨g, h1, h2, h3, h4, _⟩ := h.row hn
  exact ⟨g, h1, h2, h3, fun i x hx => h4 i x hx⟩
def endMs : List Nat := [4, 2, 2, 2, 2, 4, 4, 2]
def endC (v1 v2 v3 v4 v7 : Int) : Bool := v1 == 0 && v2 == 0 && v3 == v4 && v7 == 0
def endQ (l : List UInt8) (s : Nat × Int) : (Int × Int × Int) × (Nat × Int) :=
  let V := numV l s endMs
  let S := numS l s endMs
  let er := wantE (markE S.2 (V.getD 0 0) 101010256) (endC (V.getD 1 0) (V.getD 2 0) (V.getD 3 0) (V.getD 4 0) (V.getD 7 0))
  (if er = 0 then (V.getD 3 0, V.getD 5 0, V.getD 6 0) else (0, 0, 0), (S.1, er))
theorem endQ_P (l : List UInt8) (s : Nat × Int) : endQ l s = endP l s := by
  unfold endQ endP
  simp only [done_want, endMs, numV, numS, nghS, List.foldl_cons, List.foldl_nil, endC, List.getD_cons_zero, List.getD_cons_succ, Bool.false_or, Bool.not_or, Bool.not_not]
  have e : ∀ a b : Int, (a == b) = (b == a) := fun a b => BEq.comm
  rw [e (rdN l 2 (rdS l 2 (rdS l 2 (rdS l 4 s)))) (rdN l 2 (rdS l 2 (rdS l 2 (rdS l 2 (rdS l 4 s)))))]
set_option maxRecDepth 100000 in
set_option maxHeartbeats 32000000 in
theorem rReadEnd_any (g : Nat) (l : List UInt8) (s : Nat × Int) (w : World) (h : RefOk w g l s.1 s.2) :
  Calls Try.prog 30 #[.pointer (some ⟨g, 0, none⟩)] w fun e w' => e = .returned (.tuple #[.int .i64 (endQ l s).1.1, .int .i64 (endQ l s).1.2.1, .int .i64 (endQ l s).1.2.2]) ∧ RefOk w' g l (endQ l s).2.1 (endQ l s).2.2 ∧ w.grownBy w' (some g) := by
  have hlt := h.lt'
  have hb0 := below_alloc w (.cells #[.int .i64 4, .int .i64 2, .int .i64 2, .int .i64 2, .int .i64 2, .int .i64 4, .int .i64 4, .int .i64 2] 3)
  have hr := h.below hb0
  have HLT := Lib.hid hlt
  have HB0 := Lib.hid hb0
  clear h hlt hb0
  go_enter Try.func30, Try.ntmps30
  go_wp2_with fail
  refine (numbers_any g l s _ 8 8 endMs 101010256 _ hr rfl (by decide) (by decide) (by decide) (rd_new w _ _ _ _ rfl) (by intro b off e; simp only [Option.some.injEq, Addr.mk.injEq] at e; have := HLT.out; omega)).mono ?_
  rintro e w1 ⟨a4, c4, rfl, hown, href, hg1⟩
  have HG1 := Lib.hid (grownBy_trans (grownBy_of_below (some g) HB0.out) hg1)
  have HE : Hid (∃ er0, er0 = markE (numS l s endMs).2 ((numV l s endMs).getD 0 0) 101010256) := Lib.hid ⟨_, rfl⟩
  obtain ⟨g4, rfl, hg4, hg4l, hcells⟩ := own_cells hown (by decide)
  have HG4 : Hid (w.heap.size ≤ g4) := Lib.hid (Nat.le_trans HB0.out.size hg4)
  have HC1 := Lib.hid (hcells 1 _ rfl)
  have HC2 := Lib.hid (hcells 2 _ rfl)
  have HC3 := Lib.hid (hcells 3 _ rfl)
  have HC4 := Lib.hid (hcells 4 _ rfl)
  have HC5 := Lib.hid (hcells 5 _ rfl)
  have HC6 := Lib.hid (hcells 6 _ rfl)
  have HC7 := Lib.hid (hcells 7 _ rfl)
  have HQ : Hid (endQ l s = (if (wantE (markE (numS l s endMs).2 ((numV l s endMs).getD 0 0) 101010256) (endC (rdN l 2 (rdS l 4 s)) (rdN l 2 (rdS l 2 (rdS l 4 s))) (rdN l 2 (rdS l 2 (rdS l 2 (rdS l 4 s)))) (rdN l 2 (rdS l 2 (rdS l 2 (rdS l 2 (rdS l 4 s))))) (rdN l 2 (rdS l 4 (rdS l 4 (rdS l 2 (rdS l 2 (rdS l 2 (rdS l 2 (rdS l 4 s)))))))))) = 0 then ((rdN l 2 (rdS l 2 (rdS l 2 (rdS l 4 s)))), (rdN l 4 (rdS l 2 (rdS l 2 (rdS l 2 (rdS l 2 (rdS l 4 s)))))), (rdN l 4 (rdS l 4 (rdS l 2 (rdS l 2 (rdS l 2 (rdS l 2 (rdS l 4 s)))))))) else (0, 0, 0), ((numS l s endMs).1, (wantE (markE (numS l s endMs).2 ((numV l s endMs).getD 0 0) 101010256) (endC (rdN l 2 (rdS l 4 s)) (rdN l 2 (rdS l 2 (rdS l 4 s))) (rdN l 2 (rdS l 2 (rdS l 2 (rdS l 4 s)))) (rdN l 2 (rdS l 2 (rdS l 2 (rdS l 2 (rdS l 4 s))))) (rdN l 2 (rdS l 4 (rdS l 4 (rdS l 2 (rdS l 2 (rdS l 2 (rdS l 2 (rdS l 4 s))))))))))))) := Lib.hid rfl
  generalize rdN l 2 (rdS l 4 s) = v1 at HC1 HQ
  generalize rdN l 2 (rdS l 2 (rdS l 4 s)) = v2 at HC2 HQ
  generalize rdN l 2 (rdS l 2 (rdS l 2 (rdS l 4 s))) = v3 at HC3 HQ
  generalize rdN l 2 (rdS l 2 (rdS l 2 (rdS l 2 (rdS l 4 s)))) = v4 at HC4 HQ
  generalize rdN l 4 (rdS l 2 (rdS l 2 (rdS l 2 (rdS l 2 (rdS l 4 s))))) = v5 at HC5 HQ
  generalize rdN l 4 (rdS l 4 (rdS l 2 (rdS l 2 (rdS l 2 (rdS l 2 (rdS l 4 s)))))) = v6 at HC6 HQ
  generalize rdN l 2 (rdS l 4 (rdS l 4 (rdS l 2 (rdS l 2 (rdS l 2 (rdS l 2 (rdS l 4 s))))))) = v7 at HC7 HQ
  generalize markE (numS l s endMs).2 ((numV l s endMs).getD 0 0) 101010256 = er0 at href HQ
  generalize (numS l s endMs).1 = p0 at href HQ
  have HRF := Lib.hid href
  clear hown href hg1 HE hcells hg4 hg4l hr HB0
  go_wp2_with fail
  by_cases x1 : v1 = 0
  · have b1 : (v1 == 0) = true := by simpa using x1
    by_cases x2 : v2 = 0
    · have b2 : (v2 == 0) = true := by simpa using x2
      by_cases x3 : v3 = v4
      · have b3 : (v3 == v4) = true := by simpa using x3
        clear x1 x2 x3
        have HCD : Hid (endC v1 v2 v3 v4 v7 = (v7 == 0)) := Lib.hid (by unfold endC; rw [b1, b2, b3]; simp)
        refine wp_region_growT 26 (by kernel_rfl) (by kernel_rfl) (by rfl) (by kernel_rfl) ?_
        apply gw_val
        · intro a' w' hk
          refine ⟨wanted_none rfl, ?_⟩
          simp [Oper.looksAt, Op.operands, Call.operands, KnownAt, List.lookup, consD] at hk
          simp [execOp, Act.eval, hk, go_sem]
          all_goals rfl
        apply gw_val
        · intro a' w' hk
          refine ⟨wanted_none rfl, ?_⟩
          simp [Oper.looksAt, Op.operands, Call.operands, KnownAt, List.lookup, consD] at hk
          simp [execOp, Act.eval, hk, go_sem]
          all_goals rfl
        apply gw_val
        · intro a' w' hk
          refine ⟨wanted_none rfl, ?_⟩
          simp [Oper.looksAt, Op.operands, Call.operands, KnownAt, List.lookup, consD] at hk
          simp [execOp, Act.eval, hk, go_sem]
          all_goals rfl
        refine gw_valB (fun v _ => v = .int .i64 v1) (mono_eq _) ?_ ?_
        · intro a' w' hb' hk
          refine ⟨wanted_none rfl, _, ?_, rfl⟩
          have q0 := cell_later2 HC1.out hb'
          simp [Oper.looksAt, Op.operands, Call.operands, KnownAt, List.lookup, consD] at hk
          simp [execOp, Act.eval, hk, q0, go_sem]
          all_goals rfl
        refine gw_val (.bool true) ?_ ?_
        · intro a' w' hk
          refine ⟨wanted_none rfl, ?_⟩
          simp [Oper.looksAt, Op.operands, Call.operands, KnownAt, List.lookup, consD] at hk
          simp [execOp, Act.eval, hk, go_sem, b1]
          all_goals rfl
        refine gw_val (.bool true) ?_ ?_
        · intro a' w' hk
          refine ⟨wanted_none rfl, ?_⟩
          simp [Oper.looksAt, Op.operands, Call.operands, KnownAt, List.lookup, consD] at hk
          simp [execOp, Act.eval, hk, go_sem]
          all_goals rfl
        apply gw_val
        · intro a' w' hk
          refine ⟨wanted_guard (t := 14) rfl rfl (by simpa [KnownAt, List.lookup, consD] using hk 14 (by decide)), ?_⟩
          simp [Oper.looksAt, Op.operands, Call.operands, KnownAt, List.lookup, consD] at hk
          simp [execOp, Act.eval, hk, go_sem]
          all_goals rfl
        apply gw_val
        · intro a' w' hk
          refine ⟨wanted_guard (t := 14) rfl rfl (by simpa [KnownAt, List.lookup, consD] using hk 14 (by decide)), ?_⟩
          simp [Oper.looksAt, Op.operands, Call.operands, KnownAt, List.lookup, consD] at hk
          simp [execOp, Act.eval, hk, go_sem]
          all_goals rfl
        refine gw_valB (fun v _ => v = .int .i64 v2) (mono_eq _) ?_ ?_
        · intro a' w' hb' hk
          refine ⟨wanted_guard (t := 14) rfl rfl (by simpa [KnownAt, List.lookup, consD] using hk 14 (by decide)), _, ?_, rfl⟩
          have q0 := cell_later2 HC2.out hb'
          simp [Oper.looksAt, Op.operands, Call.operands, KnownAt, List.lookup, consD] at hk
          simp [execOp, Act.eval, hk, q0, go_sem]
          all_goals rfl
        refine gw_val (.bool true) ?_ ?_
        · intro a' w' hk
          refine ⟨wanted_guard (t := 14) rfl rfl (by simpa [KnownAt, List.lookup, consD] using hk 14 (by decide)), ?_⟩
          simp [Oper.looksAt, Op.operands, Call.operands, KnownAt, List.lookup, consD] at hk
          simp [execOp, Act.eval, hk, go_sem, b2]
          all_goals rfl
        refine gw_val (.bool true) ?_ ?_
        · intro a' w' hk
          refine ⟨wanted_none rfl, ?_⟩
          simp [Oper.looksAt, Op.operands, Call.operands, KnownAt, List.lookup, consD] at hk
          simp [execOp, Act.eval, hk, go_sem]
          all_goals rfl
        refine gw_val (.bool true) ?_ ?_
        · intro a' w' hk
          refine ⟨wanted_none rfl, ?_⟩
          simp [Oper.looksAt, Op.operands, Call.operands, KnownAt, List.lookup, consD] at hk
          simp [execOp, Act.eval, hk, go_sem]
          all_goals rfl
        apply gw_val
        · intro a' w' hk
          refine ⟨wanted_guard (t := 20) rfl rfl (by simpa [KnownAt, List.lookup, consD] using hk 20 (by decide)), ?_⟩
          simp [Oper.looksAt, Op.operands, Call.operands, KnownAt, List.lookup, consD] at hk
          simp [execOp, Act.eval, hk, go_sem]
          all_goals rfl
        apply gw_val
        · intro a' w' hk
          refine ⟨wanted_guard (t := 20) rfl rfl (by simpa [KnownAt, List.lookup, consD] using hk 20 (by decide)), ?_⟩
          simp [Oper.looksAt, Op.operands, Call.operands, KnownAt, List.lookup, consD] at hk
          simp [execOp, Act.eval, hk, go_sem]
          all_goals rfl
        refine gw_valB (fun v _ => v = .int .i64 v3) (mono_eq _) ?_ ?_
        · intro a' w' hb' hk
          refine ⟨wanted_guard (t := 20) rfl rfl (by simpa [KnownAt, List.lookup, consD] using hk 20 (by decide)), _, ?_, rfl⟩
          have q0 := cell_later2 HC3.out hb'
          simp [Oper.looksAt, Op.operands, Call.operands, KnownAt, List.lookup, consD] at hk
          simp [execOp, Act.eval, hk, q0, go_sem]
          all_goals rfl
        apply gw_val
        · intro a' w' hk
          refine ⟨wanted_guard (t := 20) rfl rfl (by simpa [KnownAt, List.lookup, consD] using hk 20 (by decide)), ?_⟩
          simp [Oper.looksAt, Op.operands, Call.operands, KnownAt, List.lookup, consD] at hk
          simp [execOp, Act.eval, hk, go_sem]
          all_goals rfl
        apply gw_val
        · intro a' w' hk
          refine ⟨wanted_guard (t := 20) rfl rfl (by simpa [KnownAt, List.lookup, consD] using hk 20 (by decide)), ?_⟩
          simp [Oper.looksAt, Op.operands, Call.operands, KnownAt, List.lookup, consD] at hk
          simp [execOp, Act.eval, hk, go_sem]
          all_goals rfl
        refine gw_valB (fun v _ => v = .int .i64 v4) (mono_eq _) ?_ ?_
        · intro a' w' hb' hk
          refine ⟨wanted_guard (t := 20) rfl rfl (by simpa [KnownAt, List.lookup, consD] using hk 20 (by decide)), _, ?_, rfl⟩
          have q0 := cell_later2 HC4.out hb'
          simp [Oper.looksAt, Op.operands, Call.operands, KnownAt, List.lookup, consD] at hk
          simp [execOp, Act.eval, hk, q0, go_sem]
          all_goals rfl
        refine gw_val (.bool true) ?_ ?_
        · intro a' w' hk
          refine ⟨wanted_guard (t := 20) rfl rfl (by simpa [KnownAt, List.lookup, consD] using hk 20 (by decide)), ?_⟩
          simp [Oper.looksAt, Op.operands, Call.operands, KnownAt, List.lookup, consD] at hk
          simp [execOp, Act.eval, hk, go_sem, b3]
          all_goals rfl
        refine gw_val (.bool true) ?_ ?_
        · intro a' w' hk
          refine ⟨wanted_none rfl, ?_⟩
          simp [Oper.looksAt, Op.operands, Call.operands, KnownAt, List.lookup, consD] at hk
          simp [execOp, Act.eval, hk, go_sem]
          all_goals rfl
        refine gw_val (.bool true) ?_ ?_
        · intro a' w' hk
          refine ⟨wanted_none rfl, ?_⟩
          simp [Oper.looksAt, Op.operands, Call.operands, KnownAt, List.lookup, consD] at hk
          simp [execOp, Act.eval, hk, go_sem]
          all_goals rfl
        apply gw_val
        · intro a' w' hk
          refine ⟨wanted_guard (t := 29) rfl rfl (by simpa [KnownAt, List.lookup, consD] using hk 29 (by decide)), ?_⟩
          simp [Oper.looksAt, Op.operands, Call.operands, KnownAt, List.lookup, consD] at hk
          simp [execOp, Act.eval, hk, go_sem]
          all_goals rfl
        apply gw_val
        · intro a' w' hk
          refine ⟨wanted_guard (t := 29) rfl rfl (by simpa [KnownAt, List.lookup, consD] using hk 29 (by decide)), ?_⟩
          simp [Oper.looksAt, Op.operands, Call.operands, KnownAt, List.lookup, consD] at hk
          simp [execOp, Act.eval, hk, go_sem]
          all_goals rfl
        refine gw_valB (fun v _ => v = .int .i64 v7) (mono_eq _) ?_ ?_
        · intro a' w' hb' hk
          refine ⟨wanted_guard (t := 29) rfl rfl (by simpa [KnownAt, List.lookup, consD] using hk 29 (by decide)), _, ?_, rfl⟩
          have q0 := cell_later2 HC7.out hb'
          simp [Oper.looksAt, Op.operands, Call.operands, KnownAt, List.lookup, consD] at hk
          simp [execOp, Act.eval, hk, q0, go_sem]
          all_goals rfl
        refine gw_val (.bool (v7 == 0)) ?_ ?_
        · intro a' w' hk
          refine ⟨wanted_guard (t := 29) rfl rfl (by simpa [KnownAt, List.lookup, consD] using hk 29 (by decide)), ?_⟩
          simp [Oper.looksAt, Op.operands, Call.operands, KnownAt, List.lookup, consD] at hk
          simp [execOp, Act.eval, hk, go_sem]
          all_goals rfl
        refine gw_val (.bool (v7 == 0)) ?_ ?_
        · intro a' w' hk
          refine ⟨wanted_none rfl, ?_⟩
          simp [Oper.looksAt, Op.operands, Call.operands, KnownAt, List.lookup, consD] at hk
          simp [execOp, Act.eval, hk, go_sem]
          all_goals rfl
        intro vs w3 hb3 hall _
        simp only [AllS, consD] at hall
        simp only [consD, putAllS, Act.put]
        obtain ⟨h34, -, -, -, -, -, -, -, -, -, -, -, -, -, -, -, -, -, -, -, -, -, -, -, -, h9, -⟩ := hall
        rw [h34, h9]
        clear h34 h9
        simp only [List.drop_succ_cons, List.drop_zero, List.setIfInBounds_toArray, List.set_cons_succ, List.set_cons_zero]
        have hb3' : Below w1.heap.size w1 w3 := ((Below.refl w1.heap.size w1).drew).trans hb3
        have HR3 := Lib.hid (HRF.out.below hb3')
        have HG3 := Lib.hid (grownBy_trans HG1.out (grownBy_of_below (some g) hb3'))
        have HD3 := Lib.hid ((cell_later2 HC3.out hb3))
        have HD5 := Lib.hid ((cell_later2 HC5.out hb3))
        have HD6 := Lib.hid ((cell_later2 HC6.out hb3))
        clear hb3 hb3' HC1 HC2 HC3 HC4 HC5 HC6 HC7 HRF HG1
        go_wp2_with fail
        refine (want_any g l p0 er0 (v7 == 0) w3 HR3.out).mono ?_
        rintro e w5 ⟨rfl, hr5, hg5⟩
        rw [HCD.out] at HQ
        have HG5 := Lib.hid (grownBy_trans HG3.out hg5)
        have hne : some g4 ≠ some g := by intro e; simp only [Option.some.injEq] at e; have := HLT.out; have := HG4.out; omega
        have q3 := (hg5.cell HD3.out hne)
        have q5 := (hg5.cell HD5.out hne)
        have q6 := (hg5.cell HD6.out hne)
        generalize wantE er0 (v7 == 0) = er1 at hr5 HQ
        have HR5 := Lib.hid hr5
        obtain ⟨aa, nn, cc, hbk, -⟩ := hr5.ex
        have qe := hbk.cell (i := 2) rfl
        clear hr5 hg5 hbk HR3 HG3 HD3 HD5 HD6 hne HCD
        by_cases he : er1 = 0
        · subst he
          rw [if_pos rfl] at HQ
          have HD : Hid (∀ kd, RefOk (w5.drewN kd) g l p0 0 ∧ w.grownBy (w5.drewN kd) (some g)) := Lib.hid (fun kd => ⟨HR5.out.drewN kd, grownBy_trans HG5.out (grownBy_of_below (some g) (below_drewN _ _ _))⟩)
          go_wp2
          go_quiet (fail)
          go_wp2
          go_ret3
          rw [HQ.out]
          exact ⟨rfl, HD.out _⟩
        · have he' : (er1 == 0) = false := by simpa using he
          rw [if_neg he] at HQ
          clear he q3 q5 q6
          go_wp2
          go_ret3
          rw [HQ.out]
          exact ⟨rfl, HR5.out, HG5.out⟩
      · have b3 : (v3 == v4) = false := by simpa using x3
        clear x1 x2 x3
        have HCD : Hid (endC v1 v2 v3 v4 v7 = false) := Lib.hid (by unfold endC; rw [b1, b2, b3]; simp)
        refine wp_region_growT 26 (by kernel_rfl) (by kernel_rfl) (by rfl) (by kernel_rfl) ?_
        apply gw_val
        · intro a' w' hk
          refine ⟨wanted_none rfl, ?_⟩
          simp [Oper.looksAt, Op.operands, Call.operands, KnownAt, List.lookup, consD] at hk
          simp [execOp, Act.eval, hk, go_sem]
          all_goals rfl
        apply gw_val
        · intro a' w' hk
          refine ⟨wanted_none rfl, ?_⟩
          simp [Oper.looksAt, Op.operands, Call.operands, KnownAt, List.lookup, consD] at hk
          simp [execOp, Act.eval, hk, go_sem]
          all_goals rfl
        apply gw_val
        · intro a' w' hk
          refine ⟨wanted_none rfl, ?_⟩
          simp [Oper.looksAt, Op.operands, Call.operands, KnownAt, List.lookup, consD] at hk
          simp [execOp, Act.eval, hk, go_sem]
          all_goals rfl
        refine gw_valB (fun v _ => v = .int .i64 v1) (mono_eq _) ?_ ?_
        · intro a' w' hb' hk
          refine ⟨wanted_none rfl, _, ?_, rfl⟩
          have q0 := cell_later2 HC1.out hb'
          simp [Oper.looksAt, Op.operands, Call.operands, KnownAt, List.lookup, consD] at hk
          simp [execOp, Act.eval, hk, q0, go_sem]
          all_goals rfl
        refine gw_val (.bool true) ?_ ?_
        · intro a' w' hk
          refine ⟨wanted_none rfl, ?_⟩
          simp [Oper.looksAt, Op.operands, Call.operands, KnownAt, List.lookup, consD] at hk
          simp [execOp, Act.eval, hk, go_sem, b1]
          all_goals rfl
        refine gw_val (.bool true) ?_ ?_
        · intro a' w' hk
          refine ⟨wanted_none rfl, ?_⟩
          simp [Oper.looksAt, Op.operands, Call.operands, KnownAt, List.lookup, consD] at hk
          simp [execOp, Act.eval, hk, go_sem]
          all_goals rfl
        apply gw_val
        · intro a' w' hk
          refine ⟨wanted_guard (t := 14) rfl rfl (by simpa [KnownAt, List.lookup, consD] using hk 14 (by decide)), ?_⟩
          simp [Oper.looksAt, Op.operands, Call.operands, KnownAt, List.lookup, consD] at hk
          simp [execOp, Act.eval, hk, go_sem]
          all_goals rfl
        apply gw_val
        · intro a' w' hk
          refine ⟨wanted_guard (t := 14) rfl rfl (by simpa [KnownAt, List.lookup, consD] using hk 14 (by decide)), ?_⟩
          simp [Oper.looksAt, Op.operands, Call.operands, KnownAt, List.lookup, consD] at hk
          simp [execOp, Act.eval, hk, go_sem]
          all_goals rfl
        refine gw_valB (fun v _ => v = .int .i64 v2) (mono_eq _) ?_ ?_
        · intro a' w' hb' hk
          refine ⟨wanted_guard (t := 14) rfl rfl (by simpa [KnownAt, List.lookup, consD] using hk 14 (by decide)), _, ?_, rfl⟩
          have q0 := cell_later2 HC2.out hb'
          simp [Oper.looksAt, Op.operands, Call.operands, KnownAt, List.lookup, consD] at hk
          simp [execOp, Act.eval, hk, q0, go_sem]
          all_goals rfl
        refine gw_val (.bool true) ?_ ?_
        · intro a' w' hk
          refine ⟨wanted_guard (t := 14) rfl rfl (by simpa [KnownAt, List.lookup, consD] using hk 14 (by decide)), ?_⟩
          simp [Oper.looksAt, Op.operands, Call.operands, KnownAt, List.lookup, consD] at hk
          simp [execOp, Act.eval, hk, go_sem, b2]
          all_goals rfl
        refine gw_val (.bool true) ?_ ?_
        · intro a' w' hk
          refine ⟨wanted_none rfl, ?_⟩
          simp [Oper.looksAt, Op.operands, Call.operands, KnownAt, List.lookup, consD] at hk
          simp [execOp, Act.eval, hk, go_sem]
          all_goals rfl
        refine gw_val (.bool true) ?_ ?_
        · intro a' w' hk
          refine ⟨wanted_none rfl, ?_⟩
          simp [Oper.looksAt, Op.operands, Call.operands, KnownAt, List.lookup, consD] at hk
          simp [execOp, Act.eval, hk, go_sem]
          all_goals rfl
        apply gw_val
        · intro a' w' hk
          refine ⟨wanted_guard (t := 20) rfl rfl (by simpa [KnownAt, List.lookup, consD] using hk 20 (by decide)), ?_⟩
          simp [Oper.looksAt, Op.operands, Call.operands, KnownAt, List.lookup, consD] at hk
          simp [execOp, Act.eval, hk, go_sem]
          all_goals rfl
        apply gw_val
        · intro a' w' hk
          refine ⟨wanted_guard (t := 20) rfl rfl (by simpa [KnownAt, List.lookup, consD] using hk 20 (by decide)), ?_⟩
          simp [Oper.looksAt, Op.operands, Call.operands, KnownAt, List.lookup, consD] at hk
          simp [execOp, Act.eval, hk, go_sem]
          all_goals rfl
        refine gw_valB (fun v _ => v = .int .i64 v3) (mono_eq _) ?_ ?_
        · intro a' w' hb' hk
          refine ⟨wanted_guard (t := 20) rfl rfl (by simpa [KnownAt, List.lookup, consD] using hk 20 (by decide)), _, ?_, rfl⟩
          have q0 := cell_later2 HC3.out hb'
          simp [Oper.looksAt, Op.operands, Call.operands, KnownAt, List.lookup, consD] at hk
          simp [execOp, Act.eval, hk, q0, go_sem]
          all_goals rfl
        apply gw_val
        · intro a' w' hk
          refine ⟨wanted_guard (t := 20) rfl rfl (by simpa [KnownAt, List.lookup, consD] using hk 20 (by decide)), ?_⟩
          simp [Oper.looksAt, Op.operands, Call.operands, KnownAt, List.lookup, consD] at hk
          simp [execOp, Act.eval, hk, go_sem]
          all_goals rfl
        apply gw_val
        · intro a' w' hk
          refine ⟨wanted_guard (t := 20) rfl rfl (by simpa [KnownAt, List.lookup, consD] using hk 20 (by decide)), ?_⟩
          simp [Oper.looksAt, Op.operands, Call.operands, KnownAt, List.lookup, consD] at hk
          simp [execOp, Act.eval, hk, go_sem]
          all_goals rfl
        refine gw_valB (fun v _ => v = .int .i64 v4) (mono_eq _) ?_ ?_
        · intro a' w' hb' hk
          refine ⟨wanted_guard (t := 20) rfl rfl (by simpa [KnownAt, List.lookup, consD] using hk 20 (by decide)), _, ?_, rfl⟩
          have q0 := cell_later2 HC4.out hb'
          simp [Oper.looksAt, Op.operands, Call.operands, KnownAt, List.lookup, consD] at hk
          simp [execOp, Act.eval, hk, q0, go_sem]
          all_goals rfl
        refine gw_val (.bool false) ?_ ?_
        · intro a' w' hk
          refine ⟨wanted_guard (t := 20) rfl rfl (by simpa [KnownAt, List.lookup, consD] using hk 20 (by decide)), ?_⟩
          simp [Oper.looksAt, Op.operands, Call.operands, KnownAt, List.lookup, consD] at hk
          simp [execOp, Act.eval, hk, go_sem, b3]
          all_goals rfl
        refine gw_val (.bool false) ?_ ?_
        · intro a' w' hk
          refine ⟨wanted_none rfl, ?_⟩
          simp [Oper.looksAt, Op.operands, Call.operands, KnownAt, List.lookup, consD] at hk
          simp [execOp, Act.eval, hk, go_sem]
          all_goals rfl
        refine gw_val (.bool false) ?_ ?_
        · intro a' w' hk
          refine ⟨wanted_none rfl, ?_⟩
          simp [Oper.looksAt, Op.operands, Call.operands, KnownAt, List.lookup, consD] at hk
          simp [execOp, Act.eval, hk, go_sem]
          all_goals rfl
        refine gw_skip (fun a' w' hk => wanted_not (t := 29) rfl rfl (by simpa [KnownAt, List.lookup, consD] using hk 29 (by decide)) (by decide)) ?_
        refine gw_skip (fun a' w' hk => wanted_not (t := 29) rfl rfl (by simpa [KnownAt, List.lookup, consD] using hk 29 (by decide)) (by decide)) ?_
        refine gw_skip (fun a' w' hk => wanted_not (t := 29) rfl rfl (by simpa [KnownAt, List.lookup, consD] using hk 29 (by decide)) (by decide)) ?_
        refine gw_skip (fun a' w' hk => wanted_not (t := 29) rfl rfl (by simpa [KnownAt, List.lookup, consD] using hk 29 (by decide)) (by decide)) ?_
        refine gw_val (.bool false) ?_ ?_
        · intro a' w' hk
          refine ⟨wanted_none rfl, ?_⟩
          simp [Oper.looksAt, Op.operands, Call.operands, KnownAt, List.lookup, consD] at hk
          simp [execOp, Act.eval, hk, go_sem]
          all_goals rfl
        intro vs w3 hb3 hall _
        simp only [AllS, consD] at hall
        simp only [consD, putAllS, Act.put]
        obtain ⟨h34, -, -, -, -, -, -, -, -, -, -, -, -, -, -, -, -, -, -, -, -, -, -, -, -, h9, -⟩ := hall
        rw [h34, h9]
        clear h34 h9
        simp only [List.drop_succ_cons, List.drop_zero, List.setIfInBounds_toArray, List.set_cons_succ, List.set_cons_zero]
        have hb3' : Below w1.heap.size w1 w3 := ((Below.refl w1.heap.size w1).drew).trans hb3
        have HR3 := Lib.hid (HRF.out.below hb3')
        have HG3 := Lib.hid (grownBy_trans HG1.out (grownBy_of_below (some g) hb3'))
        have HD3 := Lib.hid ((cell_later2 HC3.out hb3))
        have HD5 := Lib.hid ((cell_later2 HC5.out hb3))
        have HD6 := Lib.hid ((cell_later2 HC6.out hb3))
        clear hb3 hb3' HC1 HC2 HC3 HC4 HC5 HC6 HC7 HRF HG1
        go_wp2_with fail
        refine (want_any g l p0 er0 false w3 HR3.out).mono ?_
        rintro e w5 ⟨rfl, hr5, hg5⟩
        rw [HCD.out] at HQ
        have HG5 := Lib.hid (grownBy_trans HG3.out hg5)
        have hne : some g4 ≠ some g := by intro e; simp only [Option.some.injEq] at e; have := HLT.out; have := HG4.out; omega
        have q3 := (hg5.cell HD3.out hne)
        have q5 := (hg5.cell HD5.out hne)
        have q6 := (hg5.cell HD6.out hne)
        generalize wantE er0 false = er1 at hr5 HQ
        have HR5 := Lib.hid hr5
        obtain ⟨aa, nn, cc, hbk, -⟩ := hr5.ex
        have qe := hbk.cell (i := 2) rfl
        clear hr5 hg5 hbk HR3 HG3 HD3 HD5 HD6 hne HCD
        by_cases he : er1 = 0
        · subst he
          rw [if_pos rfl] at HQ
          have HD : Hid (∀ kd, RefOk (w5.drewN kd) g l p0 0 ∧ w.grownBy (w5.drewN kd) (some g)) := Lib.hid (fun kd => ⟨HR5.out.drewN kd, grownBy_trans HG5.out (grownBy_of_below (some g) (below_drewN _ _ _))⟩)
          go_wp2
          go_quiet (fail)
          go_wp2
          go_ret3
          rw [HQ.out]
          exact ⟨rfl, HD.out _⟩
        · have he' : (er1 == 0) = false := by simpa using he
          rw [if_neg he] at HQ
          clear he q3 q5 q6
          go_wp2
          go_ret3
          rw [HQ.out]
          exact ⟨rfl, HR5.out, HG5.out⟩
    · have b2 : (v2 == 0) = false := by simpa using x2
      clear x1 x2
      have HCD : Hid (endC v1 v2 v3 v4 v7 = false) := Lib.hid (by unfold endC; rw [b1, b2]; simp)
      refine wp_region_growT 26 (by kernel_rfl) (by kernel_rfl) (by rfl) (by kernel_rfl) ?_
      apply gw_val
      · intro a' w' hk
        refine ⟨wanted_none rfl, ?_⟩
        simp [Oper.looksAt, Op.operands, Call.operands, KnownAt, List.lookup, consD] at hk
        simp [execOp, Act.eval, hk, go_sem]
        all_goals rfl
      apply gw_val
      · intro a' w' hk
        refine ⟨wanted_none rfl, ?_⟩
        simp [Oper.looksAt, Op.operands, Call.operands, KnownAt, List.lookup, consD] at hk
        simp [execOp, Act.eval, hk, go_sem]
        all_goals rfl
      apply gw_val
      · intro a' w' hk
        refine ⟨wanted_none rfl, ?_⟩
        simp [Oper.looksAt, Op.operands, Call.operands, KnownAt, List.lookup, consD] at hk
        simp [execOp, Act.eval, hk, go_sem]
        all_goals rfl
      refine gw_valB (fun v _ => v = .int .i64 v1) (mono_eq _) ?_ ?_
      · intro a' w' hb' hk
        refine ⟨wanted_none rfl, _, ?_, rfl⟩
        have q0 := cell_later2 HC1.out hb'
        simp [Oper.looksAt, Op.operands, Call.operands, KnownAt, List.lookup, consD] at hk
        simp [execOp, Act.eval, hk, q0, go_sem]
        all_goals rfl
      refine gw_val (.bool true) ?_ ?_
      · intro a' w' hk
        refine ⟨wanted_none rfl, ?_⟩
        simp [Oper.looksAt, Op.operands, Call.operands, KnownAt, List.lookup, consD] at hk
        simp [execOp, Act.eval, hk, go_sem, b1]
        all_goals rfl
      refine gw_val (.bool true) ?_ ?_
      · intro a' w' hk
        refine ⟨wanted_none rfl, ?_⟩
        simp [Oper.looksAt, Op.operands, Call.operands, KnownAt, List.lookup, consD] at hk
        simp [execOp, Act.eval, hk, go_sem]
        all_goals rfl
      apply gw_val
      · intro a' w' hk
        refine ⟨wanted_guard (t := 14) rfl rfl (by simpa [KnownAt, List.lookup, consD] using hk 14 (by decide)), ?_⟩
        simp [Oper.looksAt, Op.operands, Call.operands, KnownAt, List.lookup, consD] at hk
        simp [execOp, Act.eval, hk, go_sem]
        all_goals rfl
      apply gw_val
      · intro a' w' hk
        refine ⟨wanted_guard (t := 14) rfl rfl (by simpa [KnownAt, List.lookup, consD] using hk 14 (by decide)), ?_⟩
        simp [Oper.looksAt, Op.operands, Call.operands, KnownAt, List.lookup, consD] at hk
        simp [execOp, Act.eval, hk, go_sem]
        all_goals rfl
      refine gw_valB (fun v _ => v = .int .i64 v2) (mono_eq _) ?_ ?_
      · intro a' w' hb' hk
        refine ⟨wanted_guard (t := 14) rfl rfl (by simpa [KnownAt, List.lookup, consD] using hk 14 (by decide)), _, ?_, rfl⟩
        have q0 := cell_later2 HC2.out hb'
        simp [Oper.looksAt, Op.operands, Call.operands, KnownAt, List.lookup, consD] at hk
        simp [execOp, Act.eval, hk, q0, go_sem]
        all_goals rfl
      refine gw_val (.bool false) ?_ ?_
      · intro a' w' hk
        refine ⟨wanted_guard (t := 14) rfl rfl (by simpa [KnownAt, List.lookup, consD] using hk 14 (by decide)), ?_⟩
        simp [Oper.looksAt, Op.operands, Call.operands, KnownAt, List.lookup, consD] at hk
        simp [execOp, Act.eval, hk, go_sem, b2]
        all_goals rfl
      refine gw_val (.bool false) ?_ ?_
      · intro a' w' hk
        refine ⟨wanted_none rfl, ?_⟩
        simp [Oper.looksAt, Op.operands, Call.operands, KnownAt, List.lookup, consD] at hk
        simp [execOp, Act.eval, hk, go_sem]
        all_goals rfl
      refine gw_val (.bool false) ?_ ?_
      · intro a' w' hk
        refine ⟨wanted_none rfl, ?_⟩
        simp [Oper.looksAt, Op.operands, Call.operands, KnownAt, List.lookup, consD] at hk
        simp [execOp, Act.eval, hk, go_sem]
        all_goals rfl
      refine gw_skip (fun a' w' hk => wanted_not (t := 20) rfl rfl (by simpa [KnownAt, List.lookup, consD] using hk 20 (by decide)) (by decide)) ?_
      refine gw_skip (fun a' w' hk => wanted_not (t := 20) rfl rfl (by simpa [KnownAt, List.lookup, consD] using hk 20 (by decide)) (by decide)) ?_
      refine gw_skip (fun a' w' hk => wanted_not (t := 20) rfl rfl (by simpa [KnownAt, List.lookup, consD] using hk 20 (by decide)) (by decide)) ?_
      refine gw_skip (fun a' w' hk => wanted_not (t := 20) rfl rfl (by simpa [KnownAt, List.lookup, consD] using hk 20 (by decide)) (by decide)) ?_
      refine gw_skip (fun a' w' hk => wanted_not (t := 20) rfl rfl (by simpa [KnownAt, List.lookup, consD] using hk 20 (by decide)) (by decide)) ?_
      refine gw_skip (fun a' w' hk => wanted_not (t := 20) rfl rfl (by simpa [KnownAt, List.lookup, consD] using hk 20 (by decide)) (by decide)) ?_
      refine gw_skip (fun a' w' hk => wanted_not (t := 20) rfl rfl (by simpa [KnownAt, List.lookup, consD] using hk 20 (by decide)) (by decide)) ?_
      refine gw_val (.bool false) ?_ ?_
      · intro a' w' hk
        refine ⟨wanted_none rfl, ?_⟩
        simp [Oper.looksAt, Op.operands, Call.operands, KnownAt, List.lookup, consD] at hk
        simp [execOp, Act.eval, hk, go_sem]
        all_goals rfl
      refine gw_val (.bool false) ?_ ?_
      · intro a' w' hk
        refine ⟨wanted_none rfl, ?_⟩
        simp [Oper.looksAt, Op.operands, Call.operands, KnownAt, List.lookup, consD] at hk
        simp [execOp, Act.eval, hk, go_sem]
        all_goals rfl
      refine gw_skip (fun a' w' hk => wanted_not (t := 29) rfl rfl (by simpa [KnownAt, List.lookup, consD] using hk 29 (by decide)) (by decide)) ?_
      refine gw_skip (fun a' w' hk => wanted_not (t := 29) rfl rfl (by simpa [KnownAt, List.lookup, consD] using hk 29 (by decide)) (by decide)) ?_
      refine gw_skip (fun a' w' hk => wanted_not (t := 29) rfl rfl (by simpa [KnownAt, List.lookup, consD] using hk 29 (by decide)) (by decide)) ?_
      refine gw_skip (fun a' w' hk => wanted_not (t := 29) rfl rfl (by simpa [KnownAt, List.lookup, consD] using hk 29 (by decide)) (by decide)) ?_
      refine gw_val (.bool false) ?_ ?_
      · intro a' w' hk
        refine ⟨wanted_none rfl, ?_⟩
        simp [Oper.looksAt, Op.operands, Call.operands, KnownAt, List.lookup, consD] at hk
        simp [execOp, Act.eval, hk, go_sem]
        all_goals rfl
      intro vs w3 hb3 hall _
      simp only [AllS, consD] at hall
      simp only [consD, putAllS, Act.put]
      obtain ⟨h34, -, -, -, -, -, -, -, -, -, -, -, -, -, -, -, -, -, -, -, -, -, -, -, -, h9, -⟩ := hall
      rw [h34, h9]
      clear h34 h9
      simp only [List.drop_succ_cons, List.drop_zero, List.setIfInBounds_toArray, List.set_cons_succ, List.set_cons_zero]
      have hb3' : Below w1.heap.size w1 w3 := ((Below.refl w1.heap.size w1).drew).trans hb3
      have HR3 := Lib.hid (HRF.out.below hb3')
      have HG3 := Lib.hid (grownBy_trans HG1.out (grownBy_of_below (some g) hb3'))
      have HD3 := Lib.hid ((cell_later2 HC3.out hb3))
      have HD5 := Lib.hid ((cell_later2 HC5.out hb3))
      have HD6 := Lib.hid ((cell_later2 HC6.out hb3))
      clear hb3 hb3' HC1 HC2 HC3 HC4 HC5 HC6 HC7 HRF HG1
      go_wp2_with fail
      refine (want_any g l p0 er0 false w3 HR3.out).mono ?_
      rintro e w5 ⟨rfl, hr5, hg5⟩
      rw [HCD.out] at HQ
      have HG5 := Lib.hid (grownBy_trans HG3.out hg5)
      have hne : some g4 ≠ some g := by intro e; simp only [Option.some.injEq] at e; have := HLT.out; have := HG4.out; omega
      have q3 := (hg5.cell HD3.out hne)
      have q5 := (hg5.cell HD5.out hne)
      have q6 := (hg5.cell HD6.out hne)
      generalize wantE er0 false = er1 at hr5 HQ
      have HR5 := Lib.hid hr5
      obtain ⟨aa, nn, cc, hbk, -⟩ := hr5.ex
      have qe := hbk.cell (i := 2) rfl
      clear hr5 hg5 hbk HR3 HG3 HD3 HD5 HD6 hne HCD
      by_cases he : er1 = 0
      · subst he
        rw [if_pos rfl] at HQ
        have HD : Hid (∀ kd, RefOk (w5.drewN kd) g l p0 0 ∧ w.grownBy (w5.drewN kd) (some g)) := Lib.hid (fun kd => ⟨HR5.out.drewN kd, grownBy_trans HG5.out (grownBy_of_below (some g) (below_drewN _ _ _))⟩)
        go_wp2
        go_quiet (fail)
        go_wp2
        go_ret3
        rw [HQ.out]
        exact ⟨rfl, HD.out _⟩
      · have he' : (er1 == 0) = false := by simpa using he
        rw [if_neg he] at HQ
        clear he q3 q5 q6
        go_wp2
        go_ret3
        rw [HQ.out]
        exact ⟨rfl, HR5.out, HG5.out⟩
  · have b1 : (v1 == 0) = false := by simpa using x1
    clear x1
    have HCD : Hid (endC v1 v2 v3 v4 v7 = false) := Lib.hid (by unfold endC; rw [b1]; simp)
    refine wp_region_growT 26 (by kernel_rfl) (by kernel_rfl) (by rfl) (by kernel_rfl) ?_
    apply gw_val
    · intro a' w' hk
      refine ⟨wanted_none rfl, ?_⟩
      simp [Oper.looksAt, Op.operands, Call.operands, KnownAt, List.lookup, consD] at hk
      simp [execOp, Act.eval, hk, go_sem]
      all_goals rfl
    apply gw_val
    · intro a' w' hk
      refine ⟨wanted_none rfl, ?_⟩
      simp [Oper.looksAt, Op.operands, Call.operands, KnownAt, List.lookup, consD] at hk
      simp [execOp, Act.eval, hk, go_sem]
      all_goals rfl
    apply gw_val
    · intro a' w' hk
      refine ⟨wanted_none rfl, ?_⟩
      simp [Oper.looksAt, Op.operands, Call.operands, KnownAt, List.lookup, consD] at hk
      simp [execOp, Act.eval, hk, go_sem]
      all_goals rfl
    refine gw_valB (fun v _ => v = .int .i64 v1) (mono_eq _) ?_ ?_
    · intro a' w' hb' hk
      refine ⟨wanted_none rfl, _, ?_, rfl⟩
      have q0 := cell_later2 HC1.out hb'
      simp [Oper.looksAt, Op.operands, Call.operands, KnownAt, List.lookup, consD] at hk
      simp [execOp, Act.eval, hk, q0, go_sem]
      all_goals rfl
    refine gw_val (.bool false) ?_ ?_
    · intro a' w' hk
      refine ⟨wanted_none rfl, ?_⟩
      simp [Oper.looksAt, Op.operands, Call.operands, KnownAt, List.lookup, consD] at hk
      simp [execOp, Act.eval, hk, go_sem, b1]
      all_goals rfl
    refine gw_val (.bool false) ?_ ?_
    · intro a' w' hk
      refine ⟨wanted_none rfl, ?_⟩
      simp [Oper.looksAt, Op.operands, Call.operands, KnownAt, List.lookup, consD] at hk
      simp [execOp, Act.eval, hk, go_sem]
      all_goals rfl
    refine gw_skip (fun a' w' hk => wanted_not (t := 14) rfl rfl (by simpa [KnownAt, List.lookup, consD] using hk 14 (by decide)) (by decide)) ?_
    refine gw_skip (fun a' w' hk => wanted_not (t := 14) rfl rfl (by simpa [KnownAt, List.lookup, consD] using hk 14 (by decide)) (by decide)) ?_
    refine gw_skip (fun a' w' hk => wanted_not (t := 14) rfl rfl (by simpa [KnownAt, List.lookup, consD] using hk 14 (by decide)) (by decide)) ?_
    refine gw_skip (fun a' w' hk => wanted_not (t := 14) rfl rfl (by simpa [KnownAt, List.lookup, consD] using hk 14 (by decide)) (by decide)) ?_
    refine gw_val (.bool false) ?_ ?_
    · intro a' w' hk
      refine ⟨wanted_none rfl, ?_⟩
      simp [Oper.looksAt, Op.operands, Call.operands, KnownAt, List.lookup, consD] at hk
      simp [execOp, Act.eval, hk, go_sem]
      all_goals rfl
    refine gw_val (.bool false) ?_ ?_
    · intro a' w' hk
      refine ⟨wanted_none rfl, ?_⟩
      simp [Oper.looksAt, Op.operands, Call.operands, KnownAt, List.lookup, consD] at hk
      simp [execOp, Act.eval, hk, go_sem]
      all_goals rfl
    refine gw_skip (fun a' w' hk => wanted_not (t := 20) rfl rfl (by simpa [KnownAt, List.lookup, consD] using hk 20 (by decide)) (by decide)) ?_
    refine gw_skip (fun a' w' hk => wanted_not (t := 20) rfl rfl (by simpa [KnownAt, List.lookup, consD] using hk 20 (by decide)) (by decide)) ?_
    refine gw_skip (fun a' w' hk => wanted_not (t := 20) rfl rfl (by simpa [KnownAt, List.lookup, consD] using hk 20 (by decide)) (by decide)) ?_
    refine gw_skip (fun a' w' hk => wanted_not (t := 20) rfl rfl (by simpa [KnownAt, List.lookup, consD] using hk 20 (by decide)) (by decide)) ?_
    refine gw_skip (fun a' w' hk => wanted_not (t := 20) rfl rfl (by simpa [KnownAt, List.lookup, consD] using hk 20 (by decide)) (by decide)) ?_
    refine gw_skip (fun a' w' hk => wanted_not (t := 20) rfl rfl (by simpa [KnownAt, List.lookup, consD] using hk 20 (by decide)) (by decide)) ?_
    refine gw_skip (fun a' w' hk => wanted_not (t := 20) rfl rfl (by simpa [KnownAt, List.lookup, consD] using hk 20 (by decide)) (by decide)) ?_
    refine gw_val (.bool false) ?_ ?_
    · intro a' w' hk
      refine ⟨wanted_none rfl, ?_⟩
      simp [Oper.looksAt, Op.operands, Call.operands, KnownAt, List.lookup, consD] at hk
      simp [execOp, Act.eval, hk, go_sem]
      all_goals rfl
    refine gw_val (.bool false) ?_ ?_
    · intro a' w' hk
      refine ⟨wanted_none rfl, ?_⟩
      simp [Oper.looksAt, Op.operands, Call.operands, KnownAt, List.lookup, consD] at hk
      simp [execOp, Act.eval, hk, go_sem]
      all_goals rfl
    refine gw_skip (fun a' w' hk => wanted_not (t := 29) rfl rfl (by simpa [KnownAt, List.lookup, consD] using hk 29 (by decide)) (by decide)) ?_
    refine gw_skip (fun a' w' hk => wanted_not (t := 29) rfl rfl (by simpa [KnownAt, List.lookup, consD] using hk 29 (by decide)) (by decide)) ?_
    refine gw_skip (fun a' w' hk => wanted_not (t := 29) rfl rfl (by simpa [KnownAt, List.lookup, consD] using hk 29 (by decide)) (by decide)) ?_
    refine gw_skip (fun a' w' hk => wanted_not (t := 29) rfl rfl (by simpa [KnownAt, List.lookup, consD] using hk 29 (by decide)) (by decide)) ?_
    refine gw_val (.bool false) ?_ ?_
    · intro a' w' hk
      refine ⟨wanted_none rfl, ?_⟩
      simp [Oper.looksAt, Op.operands, Call.operands, KnownAt, List.lookup, consD] at hk
      simp [execOp, Act.eval, hk, go_sem]
      all_goals rfl
    intro vs w3 hb3 hall _
    simp only [AllS, consD] at hall
    simp only [consD, putAllS, Act.put]
    obtain ⟨h34, -, -, -, -, -, -, -, -, -, -, -, -, -, -, -, -, -, -, -, -, -, -, -, -, h9, -⟩ := hall
    rw [h34, h9]
    clear h34 h9
    simp only [List.drop_succ_cons, List.drop_zero, List.setIfInBounds_toArray, List.set_cons_succ, List.set_cons_zero]
    have hb3' : Below w1.heap.size w1 w3 := ((Below.refl w1.heap.size w1).drew).trans hb3
    have HR3 := Lib.hid (HRF.out.below hb3')
    have HG3 := Lib.hid (grownBy_trans HG1.out (grownBy_of_below (some g) hb3'))
    have HD3 := Lib.hid ((cell_later2 HC3.out hb3))
    have HD5 := Lib.hid ((cell_later2 HC5.out hb3))
    have HD6 := Lib.hid ((cell_later2 HC6.out hb3))
    clear hb3 hb3' HC1 HC2 HC3 HC4 HC5 HC6 HC7 HRF HG1
    go_wp2_with fail
    refine (want_any g l p0 er0 false w3 HR3.out).mono ?_
    rintro e w5 ⟨rfl, hr5, hg5⟩
    rw [HCD.out] at HQ
    have HG5 := Lib.hid (grownBy_trans HG3.out hg5)
    have hne : some g4 ≠ some g := by intro e; simp only [Option.some.injEq] at e; have := HLT.out; have := HG4.out; omega
    have q3 := (hg5.cell HD3.out hne)
    have q5 := (hg5.cell HD5.out hne)
    have q6 := (hg5.cell HD6.out hne)
    generalize wantE er0 false = er1 at hr5 HQ
    have HR5 := Lib.hid hr5
    obtain ⟨aa, nn, cc, hbk, -⟩ := hr5.ex
    have qe := hbk.cell (i := 2) rfl
    clear hr5 hg5 hbk HR3 HG3 HD3 HD5 HD6 hne HCD
    by_cases he : er1 = 0
    · subst he
      rw [if_pos rfl] at HQ
      have HD : Hid (∀ kd, RefOk (w5.drewN kd) g l p0 0 ∧ w.grownBy (w5.drewN kd) (some g)) := Lib.hid (fun kd => ⟨HR5.out.drewN kd, grownBy_trans HG5.out (grownBy_of_below (some g) (below_drewN _ _ _))⟩)
      go_wp2
      go_quiet (fail)
      go_wp2
      go_ret3
      rw [HQ.out]
      exact ⟨rfl, HD.out _⟩
    · have he' : (er1 == 0) = false := by simpa using he
      rw [if_neg he] at HQ
      clear he q3 q5 q6
      go_wp2
      go_ret3
      rw [HQ.out]
      exact ⟨rfl, HR5.out, HG5.out⟩
end Go.Proofs.Ytbknkahakmfhkaa
