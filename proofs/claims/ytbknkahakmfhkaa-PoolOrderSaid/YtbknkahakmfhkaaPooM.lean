/- pool.one. -/
import Derived.Test.YtbknkahakmfhkaaPooL
import Derived.Test.YtbknkahakmfhkaaGrowJ
namespace Go.Proofs.Ytbknkahakmfhkaa
open Go.RowKit
set_option linter.unusedVariables false
set_option linter.unusedSimpArgs false

/-- What a drawn region keeps whose one call moves a cursor. -/
def IC (X : World → Prop) (w0 : World) (g : Nat) (l : List UInt8) (p : Nat) (er : Int) (p' : Nat) (er' : Int) (j : Nat) (L : Nat → Bool) (w : World) : Prop :=
  w0.grownBy w (some g) ∧ X w ∧ (L j = false → CurOk w g l p er) ∧ (L j = true → CurOk w g l p' er')
theorem IC.set {X : World → Prop} {w0 w : World} {g : Nat} {l : List UInt8} {p : Nat} {er : Int} {p' : Nat} {er' : Int} {j k : Nat} {L : Nat → Bool} (h : IC X w0 g l p er p' er' j L w) (hk : j ≠ k) : IC X w0 g l p er p' er' j (setL L k) w := by
  have : setL L k j = L j := by unfold setL; simp [hk]
  exact ⟨h.1, h.2.1, by rw [this]; exact h.2.2.1, by rw [this]; exact h.2.2.2⟩
theorem IC.c {X : World → Prop} {w0 w w' : World} {g : Nat} {l : List UInt8} {p : Nat} {er : Int} {p' : Nat} {er' : Int} {j : Nat} {L : Nat → Bool} (h : IC X w0 g l p er p' er' j L w) (hc : CurOk w' g l p' er') (hg : w.grownBy w' (some g)) (hX : X w → X w') : IC X w0 g l p er p' er' j (setL L j) w' := by
  have : setL L j j = true := by unfold setL; simp
  exact ⟨grownBy_trans h.1 hg, hX h.2.1, by rw [this]; simp, fun _ => hc⟩
theorem grown_refl9 {g : Nat} (w : World) : w.grownBy w (some g) := grownBy_of_below _ (Below.refl _ _)
def OnePost (w : World) (g : Nat) (L : List UInt8) (s : RawK × Nat × Int) (e : Ending) (w' : World) : Prop :=
  e = .returned (if s.2.2 = 0 then ofV s.1 else .nilIface) ∧ CurOk w' g L s.2.1 s.2.2 ∧ w.grownBy w' (some g)
theorem cBig_n (g : Nat) (L : List UInt8) (p : Nat) (er m : Int) (w : World) (h : CurOk w g L p er) (hm : sizedB m = true) :
  Calls Try.prog 91 #[.pointer (some ⟨g, 0, none⟩), .int .i64 m] w fun e w' => e = .returned (.int .u64 (bigR (nextL L p er m true))) ∧ CurOk w' g L (nextAt L.length p er m true) (nextEr L.length p er m true) ∧ w.grownBy w' (some g) := by
  have h0 := sizedB_cases m hm
  refine (cBigGet_any g L p er m w h (by omega) (by omega)).mono ?_
  rintro e w' ⟨h1, h2, h3⟩
  rw [hm] at h1 h2
  exact ⟨h1, h2, h3⟩
theorem CurOk.lt9 {w : World} {g : Nat} {l : List UInt8} {p : Nat} {er : Int} (h : CurOk w g l p er) : g < w.heap.size := by
  obtain ⟨a, n, c, h1, h2⟩ := h.ex
  exact h1.lt
theorem failE_ne (er x : Int) (hx : x ≠ 0) : failE er x ≠ 0 := by
  unfold failE; split <;> assumption
theorem wrap_i64_small {t : Int} (h : 0 ≤ t ∧ t < 65536) : IntKind.i64.wrap t = t := IntWalk.i64_in _ (by omega)
set_option maxRecDepth 100000 in
set_option maxHeartbeats 8000000 in
theorem one_any (g : Nat) (L0 : List UInt8) (p : Nat) (w : World) (h : CurOk w g L0 p 0) :
  Calls Try.prog 92 #[.pointer (some ⟨g, 0, none⟩)] w (OnePost w g L0 (stepK L0 p)) := by
  have HB1 := Lib.hid (cBig_n g L0 p 0 1 w h rfl)
  have HT := Lib.hid (num1 L0 p 0)
  unfold stepK
  generalize bigR (nextL L0 p 0 1 true) = t at *
  generalize nextAt L0.length p 0 1 true = p1 at *
  generalize nextEr L0.length p 0 1 true = e1 at *
  have gt : IntKind.i64.wrap t = t := wrap_i64_small (by have := HT.out; omega)
  have mixed : Try.prog.follows .mixedOrders = true := by kernel_rfl
  clear h
  go_enter Try.func92, Try.ntmps92
  go_wp2_with fail
  refine HB1.out.mono ?_
  rintro e w1 ⟨rfl, hc1, hg1⟩
  have HC1 := Lib.hid (And.intro hc1 hg1)
  clear hc1 hg1 HB1
  go_wp2_with fail
  refine (of_any ⟨t, ⟨#[]⟩, 0, 0, 0⟩ w1).mono ?_
  rintro e w2 ⟨rfl, hb2⟩
  have HC2 : Hid (CurOk w2 g L0 p1 e1 ∧ w.grownBy w2 (some g)) := Lib.hid ⟨HC1.out.1.below hb2, grownBy_trans HC1.out.2 (grownBy_of_below _ hb2)⟩
  clear hb2 HC1 gt
  by_cases hk0 : kindT t = 0
  · have hof : ofV ⟨t, ⟨#[]⟩, 0, 0, 0⟩ = .nilIface := by unfold ofV; simp only [hk0]
    rw [hof]
    clear hof
    go_wp2_with fail
    refine (cFail_any g L0 p1 e1 9 w2 HC2.out.1).mono ?_
    rintro e w3 ⟨rfl, hc3, hg3⟩
    have HC3 := Lib.hid (And.intro hc3 (grownBy_trans HC2.out.2 hg3))
    clear hc3 hg3
    go_wp2_with fail
    refine (cErr_any g L0 p1 (failE e1 9) w3 HC3.out.1).mono ?_
    rintro e w4 ⟨rfl, rfl⟩
    have hne : (failE e1 9 != 0) = true := by simpa using failE_ne e1 9 (by decide)
    go_wp2_with fail
    go_ret
    have hst : stepT L0 t p1 e1 = (⟨t, ByteArray.empty, 0, 0, 0⟩, p1, failE e1 9) := by unfold stepT; simp only [hk0]
    rw [hst]
    exact ⟨by rw [if_neg (failE_ne e1 9 (by decide))]; rfl, HC3.out⟩
  by_cases hk3 : kindT t = 3
  · have hof : ofV ⟨t, ⟨#[]⟩, 0, 0, 0⟩ = .iface LNK (.agg #[.int .i64 t, .int .i64 0]) := by unfold ofV; simp only [hk3]
    rw [hof]
    clear hof
    go_wp2_with fail
    obtain ⟨w3, hw3⟩ : ∃ w3, w3 = w2.alloc (.cells #[.int .i64 t, .int .i64 0] LNK) := ⟨_, rfl⟩
    obtain ⟨bb, hbb⟩ : ∃ bb, bb = w2.heap.size := ⟨_, rfl⟩
    have hb3 : Below w2.heap.size w2 w3 := by rw [hw3]; exact below_alloc w2 _
    have HB3 : Hid (Blk w3 bb LNK #[.int .i64 t, .int .i64 0]) := Lib.hid (by rw [hw3, hbb]; exact Blk.new _ _ _)
    have HC3 : Hid (CurOk w3 g L0 p1 e1 ∧ w.grownBy w3 (some g)) := Lib.hid ⟨HC2.out.1.below hb3, grownBy_trans HC2.out.2 (grownBy_of_below _ hb3)⟩
    have HNE : Hid (some bb ≠ some g) := Lib.hid (by
      intro he
      have := Option.some.inj he
      have := HC2.out.1.lt9
      omega)
    rw [← hw3, ← hbb]
    clear hw3 hbb hb3 HC2
    have HSZ : Hid (sizedB 2 = true) := Lib.hid rfl
    obtain ⟨m, hm⟩ : ∃ m, m = bigR (nextL L0 p1 e1 (2) true) := ⟨_, rfl⟩
    have HM := Lib.hid hm
    have gm : IntKind.i64.wrap m = m := wrap_i64_small (by rw [hm]; exact num2 L0 p1 e1)
    clear hm
    refine wp_region_growI (fun w w' => w.grownBy w' (some g)) (IC (fun w => Blk w bb LNK #[.int .i64 t, .int .i64 0]) w3 g L0 p1 e1 (nextAt L0.length p1 e1 (2) true) (nextEr L0.length p1 e1 (2) true) 3) mixed (by kernel_rfl) (by rfl) ⟨grownBy_of_below _ ((Below.refl _ _).drew), HB3.out.drew, fun _ => HC3.out.1.drewN 1, by simp⟩ ?_
    apply gi_val _ grown_refl9 (fun L w' _ h => h.set (show (3 : Nat) ≠ 0 by decide))
    · intro a' w' L hL haf hi hk
      refine ⟨wanted_none rfl, ?_⟩
      try simp [Oper.looksAt, Op.operands, Call.operands, KnownAt, List.lookup, consD] at hk
      simp [execOp, Act.eval, hk, go_sem]
      all_goals rfl
    apply gi_val _ grown_refl9 (fun L w' _ h => h.set (show (3 : Nat) ≠ 1 by decide))
    · intro a' w' L hL haf hi hk
      refine ⟨wanted_none rfl, ?_⟩
      try simp [Oper.looksAt, Op.operands, Call.operands, KnownAt, List.lookup, consD] at hk
      have q0 : w'.cell? ⟨bb, 0, none⟩ = some (.int .i64 t) := hi.2.1.cell rfl
      simp [execOp, Act.eval, hk, go_sem, q0]
      all_goals rfl
    apply gi_val _ grown_refl9 (fun L w' _ h => h.set (show (3 : Nat) ≠ 2 by decide))
    · intro a' w' L hL haf hi hk
      refine ⟨wanted_none rfl, ?_⟩
      try simp [Oper.looksAt, Op.operands, Call.operands, KnownAt, List.lookup, consD] at hk
      simp [execOp, Act.eval, hk, go_sem]
      all_goals rfl
    refine gi_call 91 #[.pointer (some ⟨g, 0, none⟩), .int .i64 (2)] (fun v _ => v = .int .u64 m) (monoS_eq _) ?_ ?_ ?_
    · intro a' w' hk
      refine ⟨wanted_none rfl, ?_⟩
      try simp [Oper.looksAt, Op.operands, Call.operands, KnownAt, List.lookup, consD] at hk
      simp [execOp, Act.eval, hk, go_sem]
      all_goals rfl
    · intro w' L hL haf hi
      refine (cBig_n g L0 p1 e1 (2) w' (hi.2.2.1 hL) HSZ.out).mono ?_
      rintro e w'' ⟨rfl, hc, hg⟩
      rw [← HM.out]
      exact ⟨_, rfl, rfl, hg, hi.c hc hg (fun h => h.grown hg HNE.out)⟩
    apply gi_val _ grown_refl9 (fun L w' _ h => h.set (show (3 : Nat) ≠ 4 by decide))
    · intro a' w' L hL haf hi hk
      refine ⟨wanted_none rfl, ?_⟩
      try simp [Oper.looksAt, Op.operands, Call.operands, KnownAt, List.lookup, consD] at hk
      simp [execOp, Act.eval, hk, go_sem, gm]
      all_goals rfl
    apply gi_val _ grown_refl9 (fun L w' _ h => h.set (show (3 : Nat) ≠ 5 by decide))
    · intro a' w' L hL haf hi hk
      refine ⟨wanted_none rfl, ?_⟩
      try simp [Oper.looksAt, Op.operands, Call.operands, KnownAt, List.lookup, consD] at hk
      simp [execOp, Act.eval, hk, go_sem]
      all_goals rfl
    apply gi_val _ grown_refl9 (fun L w' _ h => h.set (show (3 : Nat) ≠ 6 by decide))
    · intro a' w' L hL haf hi hk
      refine ⟨wanted_none rfl, ?_⟩
      try simp [Oper.looksAt, Op.operands, Call.operands, KnownAt, List.lookup, consD] at hk
      simp [execOp, Act.eval, hk, go_sem]
      all_goals rfl
    apply gi_val _ grown_refl9 (fun L w' _ h => h.set (show (3 : Nat) ≠ 7 by decide))
    · intro a' w' L hL haf hi hk
      refine ⟨wanted_none rfl, ?_⟩
      try simp [Oper.looksAt, Op.operands, Call.operands, KnownAt, List.lookup, consD] at hk
      simp [execOp, Act.eval, hk, go_sem]
      all_goals rfl
    intro vs w4 Lf hLf hI hall
    simp only [AllS, consD] at hall
    simp only [consD, putAllS, Act.put]
    obtain ⟨h3, -⟩ := hall
    have H3 := Lib.hid h3
    clear h3
    simp only [List.drop_succ_cons, List.drop_zero, List.setIfInBounds_toArray, List.set_cons_succ, List.set_cons_zero]
    try rw [H3.out]
    have HC4 : Hid (CurOk w4 g L0 (nextAt L0.length p1 e1 (2) true) (nextEr L0.length p1 e1 (2) true) ∧ w.grownBy w4 (some g)) := Lib.hid ⟨hI.2.2.2 (hLf 3 (by decide)), grownBy_trans HC3.out.2 hI.1⟩
    have HP : Hid (∀ wf, CurOk wf g L0 (nextAt L0.length p1 e1 (2) true) (nextEr L0.length p1 e1 (2) true) → w.grownBy wf (some g) → OnePost w g L0 (stepT L0 t p1 e1) (.returned (if nextEr L0.length p1 e1 (2) true = 0 then .iface LNK (.agg #[.int .i64 t, .int .i64 m]) else .nilIface)) wf) := Lib.hid (by
      intro wf h1 h2
      have hst : stepT L0 t p1 e1 = (⟨t, ByteArray.empty, 0, m, 0⟩, nextAt L0.length p1 e1 (2) true, nextEr L0.length p1 e1 (2) true) := by unfold stepT; simp only [hk3, HM.out]
      have hof : ofV ⟨t, ByteArray.empty, 0, m, 0⟩ = .iface LNK (.agg #[.int .i64 t, .int .i64 m]) := by unfold ofV; simp only [hk3]
      rw [hst]
      exact ⟨by simp only [hof], h1, h2⟩)
    clear hI hLf
    generalize nextAt L0.length p1 e1 (2) true = pf at *
    generalize nextEr L0.length p1 e1 (2) true = ef at *
    go_wp2_with fail
    refine (cErr_any g L0 pf ef w4 HC4.out.1).mono ?_
    rintro e wf ⟨rfl, hwf⟩; subst hwf
    by_cases he : ef = 0
    · have hne : (ef != 0) = false := by simpa using he
      have HQ := Lib.hid (HP.out w4 HC4.out.1 HC4.out.2)
      rw [if_pos he] at HQ
      clear HP
      go_wp2_with fail
      try rw [H3.out]
      go_ret
      exact HQ.out
    · have hne : (ef != 0) = true := by simpa using he
      have HQ := Lib.hid (HP.out w4 HC4.out.1 HC4.out.2)
      rw [if_neg he] at HQ
      clear HP
      go_wp2_with fail
      go_ret
      exact HQ.out
  by_cases hk2 : kindT t = 2
  · have hof : ofV ⟨t, ⟨#[]⟩, 0, 0, 0⟩ = .iface BTS (.agg #[.int .i64 t, .int .u64 0]) := by unfold ofV; simp only [hk2]
    rw [hof]
    clear hof
    go_wp2_with fail
    obtain ⟨w3, hw3⟩ : ∃ w3, w3 = w2.alloc (.cells #[.int .i64 t, .int .u64 0] BTS) := ⟨_, rfl⟩
    obtain ⟨bb, hbb⟩ : ∃ bb, bb = w2.heap.size := ⟨_, rfl⟩
    have hb3 : Below w2.heap.size w2 w3 := by rw [hw3]; exact below_alloc w2 _
    have HB3 : Hid (Blk w3 bb BTS #[.int .i64 t, .int .u64 0]) := Lib.hid (by rw [hw3, hbb]; exact Blk.new _ _ _)
    have HC3 : Hid (CurOk w3 g L0 p1 e1 ∧ w.grownBy w3 (some g)) := Lib.hid ⟨HC2.out.1.below hb3, grownBy_trans HC2.out.2 (grownBy_of_below _ hb3)⟩
    have HNE : Hid (some bb ≠ some g) := Lib.hid (by
      intro he
      have := Option.some.inj he
      have := HC2.out.1.lt9
      omega)
    rw [← hw3, ← hbb]
    clear hw3 hbb hb3 HC2
    have HSZ : Hid (sizedB (sizeT t) = true) := Lib.hid (sized_sizeT t)
    obtain ⟨m, hm⟩ : ∃ m, m = bigR (nextL L0 p1 e1 (sizeT t) true) := ⟨_, rfl⟩
    have HM := Lib.hid hm
    clear hm
    refine wp_region_growI (fun w w' => w.grownBy w' (some g)) (IC (fun w => Blk w bb BTS #[.int .i64 t, .int .u64 0]) w3 g L0 p1 e1 (nextAt L0.length p1 e1 (sizeT t) true) (nextEr L0.length p1 e1 (sizeT t) true) 6) mixed (by kernel_rfl) (by rfl) ⟨grownBy_of_below _ ((Below.refl _ _).drew), HB3.out.drew, fun _ => HC3.out.1.drewN 1, by simp⟩ ?_
    apply gi_val _ grown_refl9 (fun L w' _ h => h.set (show (6 : Nat) ≠ 0 by decide))
    · intro a' w' L hL haf hi hk
      refine ⟨wanted_none rfl, ?_⟩
      try simp [Oper.looksAt, Op.operands, Call.operands, KnownAt, List.lookup, consD] at hk
      simp [execOp, Act.eval, hk, go_sem]
      all_goals rfl
    apply gi_val _ grown_refl9 (fun L w' _ h => h.set (show (6 : Nat) ≠ 1 by decide))
    · intro a' w' L hL haf hi hk
      refine ⟨wanted_none rfl, ?_⟩
      try simp [Oper.looksAt, Op.operands, Call.operands, KnownAt, List.lookup, consD] at hk
      have q0 : w'.cell? ⟨bb, 0, none⟩ = some (.int .i64 t) := hi.2.1.cell rfl
      simp [execOp, Act.eval, hk, go_sem, q0]
      all_goals rfl
    apply gi_val _ grown_refl9 (fun L w' _ h => h.set (show (6 : Nat) ≠ 2 by decide))
    · intro a' w' L hL haf hi hk
      refine ⟨wanted_none rfl, ?_⟩
      try simp [Oper.looksAt, Op.operands, Call.operands, KnownAt, List.lookup, consD] at hk
      simp [execOp, Act.eval, hk, go_sem]
      all_goals rfl
    apply gi_val _ grown_refl9 (fun L w' _ h => h.set (show (6 : Nat) ≠ 3 by decide))
    · intro a' w' L hL haf hi hk
      refine ⟨wanted_none rfl, ?_⟩
      try simp [Oper.looksAt, Op.operands, Call.operands, KnownAt, List.lookup, consD] at hk
      simp [execOp, Act.eval, hk, go_sem]
      all_goals rfl
    apply gi_val _ grown_refl9 (fun L w' _ h => h.set (show (6 : Nat) ≠ 4 by decide))
    · intro a' w' L hL haf hi hk
      refine ⟨wanted_none rfl, ?_⟩
      try simp [Oper.looksAt, Op.operands, Call.operands, KnownAt, List.lookup, consD] at hk
      have q0 : w'.cell? ⟨bb, 0, none⟩ = some (.int .i64 t) := hi.2.1.cell rfl
      simp [execOp, Act.eval, hk, go_sem, q0]
      all_goals rfl
    refine gi_call 90 #[.int .i64 t] (fun v _ => v = .int .i64 (sizeT t)) (monoS_eq _) ?_ ?_ ?_
    · intro a' w' hk
      refine ⟨wanted_none rfl, ?_⟩
      try simp [Oper.looksAt, Op.operands, Call.operands, KnownAt, List.lookup, consD] at hk
      simp [execOp, Act.eval, hk, go_sem]
      all_goals rfl
    · intro w' L hL haf hi
      refine (size_any t w').mono ?_
      rintro e w'' ⟨rfl, rfl⟩
      exact ⟨_, rfl, rfl, grown_refl9 _, hi.set (show (6 : Nat) ≠ 5 by decide)⟩
    refine gi_call 91 #[.pointer (some ⟨g, 0, none⟩), .int .i64 (sizeT t)] (fun v _ => v = .int .u64 m) (monoS_eq _) ?_ ?_ ?_
    · intro a' w' hk
      refine ⟨wanted_none rfl, ?_⟩
      try simp [Oper.looksAt, Op.operands, Call.operands, KnownAt, List.lookup, consD] at hk
      simp [execOp, Act.eval, hk, go_sem]
      all_goals rfl
    · intro w' L hL haf hi
      refine (cBig_n g L0 p1 e1 (sizeT t) w' (hi.2.2.1 hL) HSZ.out).mono ?_
      rintro e w'' ⟨rfl, hc, hg⟩
      rw [← HM.out]
      exact ⟨_, rfl, rfl, hg, hi.c hc hg (fun h => h.grown hg HNE.out)⟩
    apply gi_val _ grown_refl9 (fun L w' _ h => h.set (show (6 : Nat) ≠ 7 by decide))
    · intro a' w' L hL haf hi hk
      refine ⟨wanted_none rfl, ?_⟩
      try simp [Oper.looksAt, Op.operands, Call.operands, KnownAt, List.lookup, consD] at hk
      simp [execOp, Act.eval, hk, go_sem]
      all_goals rfl
    apply gi_val _ grown_refl9 (fun L w' _ h => h.set (show (6 : Nat) ≠ 8 by decide))
    · intro a' w' L hL haf hi hk
      refine ⟨wanted_none rfl, ?_⟩
      try simp [Oper.looksAt, Op.operands, Call.operands, KnownAt, List.lookup, consD] at hk
      simp [execOp, Act.eval, hk, go_sem]
      all_goals rfl
    apply gi_val _ grown_refl9 (fun L w' _ h => h.set (show (6 : Nat) ≠ 9 by decide))
    · intro a' w' L hL haf hi hk
      refine ⟨wanted_none rfl, ?_⟩
      try simp [Oper.looksAt, Op.operands, Call.operands, KnownAt, List.lookup, consD] at hk
      simp [execOp, Act.eval, hk, go_sem]
      all_goals rfl
    intro vs w4 Lf hLf hI hall
    simp only [AllS, consD] at hall
    simp only [consD, putAllS, Act.put]
    obtain ⟨h3, -⟩ := hall
    have H3 := Lib.hid h3
    clear h3
    simp only [List.drop_succ_cons, List.drop_zero, List.setIfInBounds_toArray, List.set_cons_succ, List.set_cons_zero]
    try rw [H3.out]
    have HC4 : Hid (CurOk w4 g L0 (nextAt L0.length p1 e1 (sizeT t) true) (nextEr L0.length p1 e1 (sizeT t) true) ∧ w.grownBy w4 (some g)) := Lib.hid ⟨hI.2.2.2 (hLf 6 (by decide)), grownBy_trans HC3.out.2 hI.1⟩
    have HP : Hid (∀ wf, CurOk wf g L0 (nextAt L0.length p1 e1 (sizeT t) true) (nextEr L0.length p1 e1 (sizeT t) true) → w.grownBy wf (some g) → OnePost w g L0 (stepT L0 t p1 e1) (.returned (if nextEr L0.length p1 e1 (sizeT t) true = 0 then .iface BTS (.agg #[.int .i64 t, .int .u64 m]) else .nilIface)) wf) := Lib.hid (by
      intro wf h1 h2
      have hst : stepT L0 t p1 e1 = (⟨t, ByteArray.empty, m, 0, 0⟩, nextAt L0.length p1 e1 (sizeT t) true, nextEr L0.length p1 e1 (sizeT t) true) := by unfold stepT; simp only [hk2, HM.out]
      have hof : ofV ⟨t, ByteArray.empty, m, 0, 0⟩ = .iface BTS (.agg #[.int .i64 t, .int .u64 m]) := by unfold ofV; simp only [hk2]
      rw [hst]
      exact ⟨by simp only [hof], h1, h2⟩)
    clear hI hLf
    generalize nextAt L0.length p1 e1 (sizeT t) true = pf at *
    generalize nextEr L0.length p1 e1 (sizeT t) true = ef at *
    go_wp2_with fail
    refine (cErr_any g L0 pf ef w4 HC4.out.1).mono ?_
    rintro e wf ⟨rfl, hwf⟩; subst hwf
    by_cases he : ef = 0
    · have hne : (ef != 0) = false := by simpa using he
      have HQ := Lib.hid (HP.out w4 HC4.out.1 HC4.out.2)
      rw [if_pos he] at HQ
      clear HP
      go_wp2_with fail
      try rw [H3.out]
      go_ret
      exact HQ.out
    · have hne : (ef != 0) = true := by simpa using he
      have HQ := Lib.hid (HP.out w4 HC4.out.1 HC4.out.2)
      rw [if_neg he] at HQ
      clear HP
      go_wp2_with fail
      go_ret
      exact HQ.out
  by_cases hk4 : kindT t = 4
  · have hof : ofV ⟨t, ⟨#[]⟩, 0, 0, 0⟩ = .iface PAR (.agg #[.int .i64 t, .int .i64 0, .int .i64 0]) := by unfold ofV; simp only [hk4]
    rw [hof]
    clear hof
    go_wp2_with fail
    obtain ⟨w3, hw3⟩ : ∃ w3, w3 = w2.alloc (.cells #[.int .i64 t, .int .i64 0, .int .i64 0] PAR) := ⟨_, rfl⟩
    obtain ⟨bb, hbb⟩ : ∃ bb, bb = w2.heap.size := ⟨_, rfl⟩
    have hb3 : Below w2.heap.size w2 w3 := by rw [hw3]; exact below_alloc w2 _
    have HB3 : Hid (Blk w3 bb PAR #[.int .i64 t, .int .i64 0, .int .i64 0]) := Lib.hid (by rw [hw3, hbb]; exact Blk.new _ _ _)
    have HC3 : Hid (CurOk w3 g L0 p1 e1 ∧ w.grownBy w3 (some g)) := Lib.hid ⟨HC2.out.1.below hb3, grownBy_trans HC2.out.2 (grownBy_of_below _ hb3)⟩
    have HNE : Hid (some bb ≠ some g) := Lib.hid (by
      intro he
      have := Option.some.inj he
      have := HC2.out.1.lt9
      omega)
    rw [← hw3, ← hbb]
    clear hw3 hbb hb3 HC2
    have HSZ : Hid (sizedB 2 = true) := Lib.hid rfl
    obtain ⟨a, ha⟩ : ∃ a, a = bigR (nextL L0 p1 e1 (2) true) := ⟨_, rfl⟩
    have HA := Lib.hid ha
    have ga : IntKind.i64.wrap a = a := wrap_i64_small (by rw [ha]; exact num2 L0 p1 e1)
    clear ha
    have HMA := HA
    refine (cBig_n g L0 p1 e1 2 w3 HC3.out.1 rfl).mono ?_
    rintro e w5 ⟨rfl, hc5, hg5⟩
    rw [← HA.out]
    have HB5 := Lib.hid (HB3.out.grown hg5 HNE.out)
    have HC5 := Lib.hid (And.intro hc5 (grownBy_trans HC3.out.2 hg5))
    clear hc5 hg5 HB3 HC3
    have HB3 := HB5
    have HC3 := HC5
    clear HB5 HC5
    have HST : Hid (stepT L0 t p1 e1 = (⟨t, ByteArray.empty, 0, bigR (nextL L0 p1 e1 2 true), bigR (nextL L0 (nextAt L0.length p1 e1 2 true) (nextEr L0.length p1 e1 2 true) 2 true)⟩, nextAt L0.length (nextAt L0.length p1 e1 2 true) (nextEr L0.length p1 e1 2 true) 2 true, nextEr L0.length (nextAt L0.length p1 e1 2 true) (nextEr L0.length p1 e1 2 true) 2 true)) := Lib.hid (by unfold stepT; simp only [hk4])
    rw [← HA.out] at HST
    generalize nextAt L0.length p1 e1 2 true = p2 at *
    generalize nextEr L0.length p1 e1 2 true = e2 at *
    go_wp2_with fail
    obtain ⟨m, hm⟩ : ∃ m, m = bigR (nextL L0 p2 e2 (2) true) := ⟨_, rfl⟩
    have HM := Lib.hid hm
    have gm : IntKind.i64.wrap m = m := wrap_i64_small (by rw [hm]; exact num2 L0 p2 e2)
    clear hm
    refine wp_region_growI (fun w w' => w.grownBy w' (some g)) (IC (fun w => Blk w bb PAR #[.int .i64 t, .int .i64 0, .int .i64 0]) w5 g L0 p2 e2 (nextAt L0.length p2 e2 (2) true) (nextEr L0.length p2 e2 (2) true) 4) mixed (by kernel_rfl) (by rfl) ⟨grownBy_of_below _ ((Below.refl _ _).drew), HB3.out.drew, fun _ => HC3.out.1.drewN 1, by simp⟩ ?_
    apply gi_val _ grown_refl9 (fun L w' _ h => h.set (show (4 : Nat) ≠ 0 by decide))
    · intro a' w' L hL haf hi hk
      refine ⟨wanted_none rfl, ?_⟩
      try simp [Oper.looksAt, Op.operands, Call.operands, KnownAt, List.lookup, consD] at hk
      simp [execOp, Act.eval, hk, go_sem]
      all_goals rfl
    apply gi_val _ grown_refl9 (fun L w' _ h => h.set (show (4 : Nat) ≠ 1 by decide))
    · intro a' w' L hL haf hi hk
      refine ⟨wanted_none rfl, ?_⟩
      try simp [Oper.looksAt, Op.operands, Call.operands, KnownAt, List.lookup, consD] at hk
      have q0 : w'.cell? ⟨bb, 0, none⟩ = some (.int .i64 t) := hi.2.1.cell rfl
      simp [execOp, Act.eval, hk, go_sem, q0]
      all_goals rfl
    apply gi_val _ grown_refl9 (fun L w' _ h => h.set (show (4 : Nat) ≠ 2 by decide))
    · intro a' w' L hL haf hi hk
      refine ⟨wanted_none rfl, ?_⟩
      try simp [Oper.looksAt, Op.operands, Call.operands, KnownAt, List.lookup, consD] at hk
      simp [execOp, Act.eval, hk, go_sem]
      all_goals rfl
    apply gi_val _ grown_refl9 (fun L w' _ h => h.set (show (4 : Nat) ≠ 3 by decide))
    · intro a' w' L hL haf hi hk
      refine ⟨wanted_none rfl, ?_⟩
      try simp [Oper.looksAt, Op.operands, Call.operands, KnownAt, List.lookup, consD] at hk
      simp [execOp, Act.eval, hk, go_sem]
      all_goals rfl
    refine gi_call 91 #[.pointer (some ⟨g, 0, none⟩), .int .i64 (2)] (fun v _ => v = .int .u64 m) (monoS_eq _) ?_ ?_ ?_
    · intro a' w' hk
      refine ⟨wanted_none rfl, ?_⟩
      try simp [Oper.looksAt, Op.operands, Call.operands, KnownAt, List.lookup, consD] at hk
      simp [execOp, Act.eval, hk, go_sem]
      all_goals rfl
    · intro w' L hL haf hi
      refine (cBig_n g L0 p2 e2 (2) w' (hi.2.2.1 hL) HSZ.out).mono ?_
      rintro e w'' ⟨rfl, hc, hg⟩
      rw [← HM.out]
      exact ⟨_, rfl, rfl, hg, hi.c hc hg (fun h => h.grown hg HNE.out)⟩
    apply gi_val _ grown_refl9 (fun L w' _ h => h.set (show (4 : Nat) ≠ 5 by decide))
    · intro a' w' L hL haf hi hk
      refine ⟨wanted_none rfl, ?_⟩
      try simp [Oper.looksAt, Op.operands, Call.operands, KnownAt, List.lookup, consD] at hk
      simp [execOp, Act.eval, hk, go_sem, gm]
      all_goals rfl
    apply gi_val _ grown_refl9 (fun L w' _ h => h.set (show (4 : Nat) ≠ 6 by decide))
    · intro a' w' L hL haf hi hk
      refine ⟨wanted_none rfl, ?_⟩
      try simp [Oper.looksAt, Op.operands, Call.operands, KnownAt, List.lookup, consD] at hk
      simp [execOp, Act.eval, hk, go_sem]
      all_goals rfl
    apply gi_val _ grown_refl9 (fun L w' _ h => h.set (show (4 : Nat) ≠ 7 by decide))
    · intro a' w' L hL haf hi hk
      refine ⟨wanted_none rfl, ?_⟩
      try simp [Oper.looksAt, Op.operands, Call.operands, KnownAt, List.lookup, consD] at hk
      simp [execOp, Act.eval, hk, go_sem]
      all_goals rfl
    apply gi_val _ grown_refl9 (fun L w' _ h => h.set (show (4 : Nat) ≠ 8 by decide))
    · intro a' w' L hL haf hi hk
      refine ⟨wanted_none rfl, ?_⟩
      try simp [Oper.looksAt, Op.operands, Call.operands, KnownAt, List.lookup, consD] at hk
      simp [execOp, Act.eval, hk, go_sem]
      all_goals rfl
    intro vs w6 Lf hLf hI hall
    simp only [AllS, consD] at hall
    simp only [consD, putAllS, Act.put]
    obtain ⟨h3, -⟩ := hall
    have H3 := Lib.hid h3
    clear h3
    simp only [List.drop_succ_cons, List.drop_zero, List.setIfInBounds_toArray, List.set_cons_succ, List.set_cons_zero]
    try rw [H3.out]
    have HC4 : Hid (CurOk w6 g L0 (nextAt L0.length p2 e2 (2) true) (nextEr L0.length p2 e2 (2) true) ∧ w.grownBy w6 (some g)) := Lib.hid ⟨hI.2.2.2 (hLf 4 (by decide)), grownBy_trans HC3.out.2 hI.1⟩
    have HP : Hid (∀ wf, CurOk wf g L0 (nextAt L0.length p2 e2 (2) true) (nextEr L0.length p2 e2 (2) true) → w.grownBy wf (some g) → OnePost w g L0 (stepT L0 t p1 e1) (.returned (if nextEr L0.length p2 e2 (2) true = 0 then .iface PAR (.agg #[.int .i64 t, .int .i64 a, .int .i64 m]) else .nilIface)) wf) := Lib.hid (by
      intro wf h1 h2
      have hst : stepT L0 t p1 e1 = (⟨t, ByteArray.empty, 0, a, m⟩, nextAt L0.length p2 e2 (2) true, nextEr L0.length p2 e2 (2) true) := by rw [HST.out, HM.out]
      have hof : ofV ⟨t, ByteArray.empty, 0, a, m⟩ = .iface PAR (.agg #[.int .i64 t, .int .i64 a, .int .i64 m]) := by unfold ofV; simp only [hk4]
      rw [hst]
      exact ⟨by simp only [hof], h1, h2⟩)
    clear hI hLf
    generalize nextAt L0.length p2 e2 (2) true = pf at *
    generalize nextEr L0.length p2 e2 (2) true = ef at *
    go_wp2_with fail
    refine (cErr_any g L0 pf ef w6 HC4.out.1).mono ?_
    rintro e wf ⟨rfl, hwf⟩; subst hwf
    by_cases he : ef = 0
    · have hne : (ef != 0) = false := by simpa using he
      have HQ := Lib.hid (HP.out w6 HC4.out.1 HC4.out.2)
      rw [if_pos he] at HQ
      clear HP
      go_wp2_with fail
      try rw [H3.out]
      go_ret
      exact HQ.out
    · have hne : (ef != 0) = true := by simpa using he
      have HQ := Lib.hid (HP.out w6 HC4.out.1 HC4.out.2)
      rw [if_neg he] at HQ
      clear HP
      go_wp2_with fail
      go_ret
      exact HQ.out
  have hk1 : kindT t = 1 := by
    have : kindT t ≤ 4 := by unfold kindT; repeat' split
                             all_goals decide
    omega
  have ht1 := kind_one hk1
  subst ht1
  have hof : ofV ⟨1, ⟨#[]⟩, 0, 0, 0⟩ = .iface TXT (.string ⟨#[]⟩) := rfl
  rw [hof]
  clear hof
  go_wp2_with fail
  refine (cBig_n g L0 p1 e1 2 w2 HC2.out.1 rfl).mono ?_
  rintro e w3 ⟨rfl, hc3, hg3⟩
  have HC3 := Lib.hid (And.intro hc3 (grownBy_trans HC2.out.2 hg3))
  clear hc3 hg3
  have HST : Hid (stepT L0 1 p1 e1 = (⟨1, strOf (nextL L0 (nextAt L0.length p1 e1 2 true) (nextEr L0.length p1 e1 2 true) (bigR (nextL L0 p1 e1 2 true)) true), 0, 0, 0⟩, nextAt L0.length (nextAt L0.length p1 e1 2 true) (nextEr L0.length p1 e1 2 true) (bigR (nextL L0 p1 e1 2 true)) true, if (unitsOf (nextL L0 (nextAt L0.length p1 e1 2 true) (nextEr L0.length p1 e1 2 true) (bigR (nextL L0 p1 e1 2 true)) true)).isSome then nextEr L0.length (nextAt L0.length p1 e1 2 true) (nextEr L0.length p1 e1 2 true) (bigR (nextL L0 p1 e1 2 true)) true else failE (nextEr L0.length (nextAt L0.length p1 e1 2 true) (nextEr L0.length p1 e1 2 true) (bigR (nextL L0 p1 e1 2 true)) true) 2)) := Lib.hid (by unfold stepT; simp only [hk1])
  have HM := Lib.hid (num2 L0 p1 e1)
  generalize nextAt L0.length p1 e1 2 true = p2 at *
  generalize nextEr L0.length p1 e1 2 true = e2 at *
  generalize bigR (nextL L0 p1 e1 2 true) = m at *
  have gm : IntKind.i64.wrap m = m := wrap_i64_small HM.out
  have HT4 := Lib.hid (cTake_any g L0 p2 e2 m w3 HC3.out.1 (by have := HM.out; omega) (by have := HM.out; omega))
  have HLE := Lib.hid (nextL_le2 L0 p2 e2 m)
  unfold TakePost at HT4
  generalize nextAt L0.length p2 e2 m true = p3 at *
  generalize nextEr L0.length p2 e2 m true = e3 at *
  generalize nextL L0 p2 e2 m true = sl at *
  go_wp2_with fail
  refine HT4.out.mono ?_
  rintro e w4 ⟨a4, k4, c4, rfl, hown4, hc4, hg4⟩
  have hbuf4 : Buf w4 w3.heap.size U8 bE a4 k4 c4 sl := .inl hown4
  have hcv := conv_str (P := Try.prog) Try.underlying29 Try.underlying5 Try.underlying9 c4 hbuf4.len hbuf4.rd
  have HC4 := Lib.hid (And.intro hc4 (grownBy_trans HC3.out.2 hg4))
  obtain ⟨st, hst⟩ : ∃ st, st = strOf sl := ⟨_, rfl⟩
  rw [← hst] at hcv
  have HS := Lib.hid hst
  rw [← HS.out] at HST
  clear hown4 hc4 hg4 hbuf4 hst HT4 HC3 HC2
  go_wp2_with fail
  clear hcv
  refine (right_any st sl w4 HS (by have := HLE.out; have := HM.out; omega)).mono ?_
  unfold RightPost
  rintro e w5 ⟨rfl, hb5⟩
  have HC5 : Hid (CurOk w5 g L0 p3 e3 ∧ w.grownBy w5 (some g)) := Lib.hid ⟨HC4.out.1.below hb5, grownBy_trans HC4.out.2 (grownBy_of_below _ hb5)⟩
  clear hb5 HC4
  have H3 : Hid True := Lib.hid trivial
  have hof : ofV ⟨1, st, 0, 0, 0⟩ = .iface TXT (.string st) := rfl
  cases hu : (unitsOf sl).isSome with
  | true =>
    rw [hu] at HST
    have HC4 := HC5
    have HP : Hid (∀ wf, CurOk wf g L0 p3 e3 → w.grownBy wf (some g) → OnePost w g L0 (stepT L0 1 p1 e1) (.returned (if e3 = 0 then .iface TXT (.string st) else .nilIface)) wf) := Lib.hid (by
      intro wf h1 h2
      rw [HST.out]
      exact ⟨rfl, h1, h2⟩)
    clear HST HS
    go_wp2_with fail
    refine (cErr_any g L0 p3 e3 w5 HC4.out.1).mono ?_
    rintro e wf ⟨rfl, hwf⟩; subst hwf
    by_cases he : e3 = 0
    · have hne : (e3 != 0) = false := by simpa using he
      have HQ := Lib.hid (HP.out w5 HC4.out.1 HC4.out.2)
      rw [if_pos he] at HQ
      clear HP
      go_wp2_with fail
      try rw [H3.out]
      go_ret
      exact HQ.out
    · have hne : (e3 != 0) = true := by simpa using he
      have HQ := Lib.hid (HP.out w5 HC4.out.1 HC4.out.2)
      rw [if_neg he] at HQ
      clear HP
      go_wp2_with fail
      go_ret
      exact HQ.out
  | false =>
    rw [hu] at HST
    go_wp2_with fail
    refine (cFail_any g L0 p3 e3 2 w5 HC5.out.1).mono ?_
    rintro e w6 ⟨rfl, hc6, hg6⟩
    have HC4 := Lib.hid (And.intro hc6 (grownBy_trans HC5.out.2 hg6))
    have HP : Hid (∀ wf, CurOk wf g L0 p3 (failE e3 2) → w.grownBy wf (some g) → OnePost w g L0 (stepT L0 1 p1 e1) (.returned (if failE e3 2 = 0 then .iface TXT (.string st) else .nilIface)) wf) := Lib.hid (by
      intro wf h1 h2
      rw [HST.out]
      exact ⟨rfl, h1, h2⟩)
    clear HST HS hc6 hg6 HC5
    generalize failE e3 2 = ef at *
    go_wp2_with fail
    refine (cErr_any g L0 p3 ef w6 HC4.out.1).mono ?_
    rintro e wf ⟨rfl, hwf⟩; subst hwf
    by_cases he : ef = 0
    · have hne : (ef != 0) = false := by simpa using he
      have HQ := Lib.hid (HP.out w6 HC4.out.1 HC4.out.2)
      rw [if_pos he] at HQ
      clear HP
      go_wp2_with fail
      try rw [H3.out]
      go_ret
      exact HQ.out
    · have hne : (ef != 0) = true := by simpa using he
      have HQ := Lib.hid (HP.out w6 HC4.out.1 HC4.out.2)
      rw [if_neg he] at HQ
      clear HP
      go_wp2_with fail
      go_ret
      exact HQ.out
end Go.Proofs.Ytbknkahakmfhkaa
