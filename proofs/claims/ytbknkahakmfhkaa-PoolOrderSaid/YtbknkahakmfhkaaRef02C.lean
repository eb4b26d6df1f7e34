/- The methods of packsaddleref02.Cursor. -/
import Derived.Test.YtbknkahakmfhkaaCurO
import Derived.Test.YtbknkahakmfhkaaGrowL
import Derived.Test.YtbknkahakmfhkaaKeep
import Derived.Test.YtbknkahakmfhkaaSl
namespace Go.Proofs.Ytbknkahakmfhkaa
open Go.RowKit
set_option linter.unusedVariables false
set_option linter.unusedSimpArgs false

theorem Blk.drew {w : World} {g : Nat} {T : TypeId} {cs : Array Value} (h : Blk w g T cs) : Blk w.drew g T cs := h
structure RefOk (w : World) (g : Nat) (l : List UInt8) (at' : Nat) (er : Int) : Prop where
  ex : ∃ (a : Option Addr) (n c : Nat), Blk w g 44 #[.slice a n c, .int .i64 (at' : Int), .int .i64 er] ∧ l.length = n ∧ n ≤ c ∧ (c ≤ 9223372036854775807 ∧ n ≤ 1000000000000) ∧ Rd w bE a l ∧ (l = [] ∨ ∀ b off, a = some ⟨b, off, none⟩ → b < g) ∧ at' ≤ n

theorem RefOk.drewN {w : World} {g : Nat} {l : List UInt8} {p : Nat} {er : Int} (h : RefOk w g l p er) (k : Nat) : RefOk (w.drewN k) g l p er := ⟨h.ex⟩
theorem RefOk.below {w w' : World} {g : Nat} {l : List UInt8} {p : Nat} {er : Int} (h : RefOk w g l p er) (hb : Below w.heap.size w w') : RefOk w' g l p er := by
  obtain ⟨a, n, c, h1, h2, h3, h4, h5, h6⟩ := h.ex
  exact ⟨a, n, c, h1.below hb, h2, h3, h4, h5.below hb, h6⟩
theorem RefOk.nobyte {w : World} {g : Nat} {l : List UInt8} {p : Nat} {er : Int} (h : RefOk w g l p er) : ∀ off (z : UInt8), w.cell? ⟨g, off, none⟩ ≠ some (bE z) := by
  obtain ⟨a, n, c, hb, _⟩ := h.ex; exact blk_nobyte hb
/-- A younger row grows. -/
theorem CurOk.grown {w w' : World} {g : Nat} {l : List UInt8} {p : Nat} {er : Int} {row : Option Nat} (h : CurOk w g l p er) (hg : w.grownBy w' row) (hrow : ∀ k, row = some k → g < k) : CurOk w' g l p er := by
  obtain ⟨a, n, c, h1, h2, h3, h4, h5, h6, h7⟩ := h.ex
  refine ⟨a, n, c, h1.grown hg (fun e => ?_), h2, h3, h4, h5.grown hg (fun b off e e2 => ?_), h6, h7⟩
  · have := hrow g e.symm; omega
  · have := hrow b e2.symm; have := h6 b off e; omega
theorem RefOk.grown {w w' : World} {g : Nat} {l : List UInt8} {p : Nat} {er : Int} {row : Option Nat} (h : RefOk w g l p er) (hg : w.grownBy w' row) (hrow : ∀ k, row = some k → g < k) : RefOk w' g l p er := by
  obtain ⟨a, n, c, h1, h2, h3, h4, h5, h6, h7⟩ := h.ex
  refine ⟨a, n, c, h1.grown hg (fun e => ?_), h2, h3, h4, ?_, h6, h7⟩
  · have := hrow g e.symm; omega
  · rcases h6 with h6 | h6
    · subst h6; exact Rd.nil
    · exact h5.grown hg (fun b off e e2 => by have := hrow b e2.symm; have := h6 b off e; omega)
theorem RefOk.new (w : World) {a : Option Addr} {n c : Nat} {l : List UInt8} (hl : l.length = n) (hnc : n ≤ c) (hc : c ≤ 9223372036854775807 ∧ n ≤ 1000000000000) (hr : Rd w bE a l) :
    RefOk (w.alloc (.cells #[.slice a n c, .int .i64 0, .int .i64 0] 44)) w.heap.size l 0 0 := by
  refine ⟨a, n, c, Blk.new _ _ _, hl, hnc, hc, hr.below (below_alloc _ _), ?_, Nat.zero_le _⟩
  cases l with
  | nil => exact .inl rfl
  | cons x l =>
    obtain ⟨b, off, rfl, hb, -⟩ := hr.at (k := 0) (by simp)
    exact .inr (fun b' off' e => by simp at e; omega)
/-- An error is stored. -/
theorem RefOk.setE {w : World} {g : Nat} {l : List UInt8} {p : Nat} {er : Int} (h : RefOk w g l p er) (x : Int) : RefOk (w.setCell ⟨g, 2, none⟩ (.int .i64 x)) g l p x := by
  have hk := keep_of_grown (grownBy_setCell w ⟨g, 2, none⟩ (.int .i64 x)) h.nobyte
  obtain ⟨a, n, c, hb, hl, hnc, hc, hr, hnb, hp⟩ := h.ex
  exact ⟨a, n, c, hb.setCell 2 (.int .i64 x), hl, hnc, hc, hr.keep hk, hnb, hp⟩
/-- A place is stored. -/
theorem RefOk.setAt {w : World} {g : Nat} {l : List UInt8} {p : Nat} {er : Int} (h : RefOk w g l p er) (q : Nat) (hq : q ≤ l.length) : RefOk (w.setCell ⟨g, 1, none⟩ (.int .i64 (q : Int))) g l q er := by
  have hk := keep_of_grown (grownBy_setCell w ⟨g, 1, none⟩ (.int .i64 (q : Int))) h.nobyte
  obtain ⟨a, n, c, hb, hl, hnc, hc, hr, hnb, hp⟩ := h.ex
  exact ⟨a, n, c, hb.setCell 1 (.int .i64 (q : Int)), hl, hnc, hc, hr.keep hk, hnb, by omega⟩
theorem RefOk.len {w : World} {g : Nat} {l : List UInt8} {p : Nat} {er : Int} (h : RefOk w g l p er) : l.length ≤ 1000000000000 ∧ p ≤ l.length := by
  obtain ⟨a, n, c, _, h2, h3, h4, _, _, h5⟩ := h.ex
  omega

def RTakePost (w : World) (g : Nat) (l : List UInt8) (p : Nat) (er m : Int) (e : Ending) (w' : World) : Prop :=
  ∃ a' k c', e = .returned (.slice a' k c') ∧ (nextL l p er m true).length = k ∧ Rd w' bE a' (nextL l p er m true) ∧ RefOk w' g l (nextAt l.length p er m true) (nextEr l.length p er m true) ∧ w.grownBy w' (some g)
set_option maxRecDepth 100000 in
set_option maxHeartbeats 4000000 in
theorem rTake_any (g : Nat) (l : List UInt8) (p : Nat) (er m : Int) (w : World) (h : RefOk w g l p er) (hm1 : -9223372036854775808 ≤ m) (hm2 : m ≤ 9223372036854775807) :
  Calls Try.prog 71 #[.pointer (some ⟨g, 0, none⟩), .int .i64 m] w (RTakePost w g l p er m) := by
  have hlen := h.len
  by_cases he : er = 0
  · subst he
    by_cases hneg : m < 0
    · have hok : nextOk l.length p 0 m true = false := by
        unfold nextOk; exact decide_eq_false (by rintro ⟨_, h1, _⟩; omega)
      have e1 : nextL l p 0 m true = [] := by unfold nextL; rw [hok]; rfl
      have e2 : nextAt l.length p 0 m true = p := by unfold nextAt; rw [hok]; rfl
      have e3 : nextEr l.length p 0 m true = 1 := by unfold nextEr; simp [hneg]
      have hfin := h.setE 1
      have hgr := grownBy_setCell w ⟨g, 2, none⟩ (.int .i64 1)
      obtain ⟨a, n, c, hb, -⟩ := h.ex
      have h2 := hb.cell (i := 2) rfl
      have hf := hb.frozen 2
      have HF : Hid (RTakePost w g l p 0 m (.returned (.slice none 0 0)) (w.setCell ⟨g, 2, none⟩ (.int .i64 1))) :=
        ⟨none, 0, 0, rfl, by rw [e1]; rfl, by rw [e1]; exact Rd.nil, by rw [e2, e3]; exact hfin, hgr⟩
      clear hok e1 e2 e3 h hfin hgr hlen hb
      go_enter Try.func71, Try.ntmps71
      go_wp2
      go_ret
      exact HF.out
    · by_cases hlong : m > (l.length : Int) - p
      · have hok : nextOk l.length p 0 m true = false := by
          unfold nextOk; exact decide_eq_false (by rintro ⟨_, _, _, h4⟩; omega)
        have e1 : nextL l p 0 m true = [] := by unfold nextL; rw [hok]; rfl
        have e2 : nextAt l.length p 0 m true = p := by unfold nextAt; rw [hok]; rfl
        have e3 : nextEr l.length p 0 m true = 6 := by
          unfold nextEr; rw [if_neg (by simp), if_neg (by simp; omega), if_pos hlong]
        have HF : Hid (∀ kd, RTakePost w g l p 0 m (.returned (.slice none 0 0)) ((w.drewN kd).setCell ⟨g, 2, none⟩ (.int .i64 6))) := fun kd =>
          ⟨none, 0, 0, rfl, by rw [e1]; rfl, by rw [e1]; exact Rd.nil, by rw [e2, e3]; exact (h.drewN kd).setE 6, grownBy_trans (grownBy_of_below (some g) (below_drewN w w.heap.size kd)) (grownBy_setCell _ ⟨g, 2, none⟩ (.int .i64 6))⟩
        obtain ⟨a, n, c, hb, hl, hnc, hc, -⟩ := h.ex
        have h0 := hb.cell (i := 0) rfl
        have h1 := hb.cell (i := 1) rfl
        have h2 := hb.cell (i := 2) rfl
        have hf := hb.frozen 2
        have hlong2 : m > (n : Int) - (p : Int) := by rw [← hl]; exact hlong
        have hpn : p ≤ n := by omega
        clear hok e1 e2 e3 h hlen hb hl hlong
        go_enter Try.func71, Try.ntmps71
        go_wp2
        go_quiet (fail)
        go_wp2
        go_ret
        exact HF.out _
      · obtain ⟨k, rfl⟩ := Int.eq_ofNat_of_zero_le (show 0 ≤ m by omega)
        have hok : nextOk l.length p 0 k true = true := by
          unfold nextOk; exact decide_eq_true ⟨rfl, by omega, rfl, by omega⟩
        have e1 : nextL l p 0 k true = (l.drop p).take k := by unfold nextL; rw [hok]; simp
        have e2 : nextAt l.length p 0 k true = p + k := by unfold nextAt; rw [hok]; simp
        have e3 : nextEr l.length p 0 k true = 0 := by
          unfold nextEr; rw [if_neg (by simp), if_neg (by simp), if_neg hlong]
        have E1 := Lib.hid e1
        have E2 := Lib.hid e2
        have E3 := Lib.hid e3
        obtain ⟨a, n, c, hb, hl, hnc, hc, hr, -⟩ := h.ex
        have h0 := hb.cell (i := 0) rfl
        have h1 := hb.cell (i := 1) rfl
        have h2 := hb.cell (i := 2) rfl
        have hf := hb.frozen 1
        have hlong2 : ¬ (k : Int) > (n : Int) - (p : Int) := by rw [← hl]; exact hlong
        have hpn : p ≤ n := by omega
        have H := Lib.hid h
        have HR := Lib.hid hr
        have HL := Lib.hid hl
        have HBK := Lib.hid hb
        have hrw : ∀ kd, Rd ((w.drewN kd).setCell ⟨g, 1, none⟩ (.int .i64 ((p : Int) + (k : Int)))).drew bE (if c = p then a else a.map (·.add p)) ((l.drop p).take k) := fun kd => by
          have hk := keep_of_grown (grownBy_trans (grownBy_of_below (some g) (below_drewN w w.heap.size kd)) (grownBy_setCell _ ⟨g, 1, none⟩ (.int .i64 ((p : Int) + (k : Int))))) H.out.nobyte
          exact (((hr.sl p c (by omega)).take k).keep hk).drew
        have HRW0 := Lib.hid hrw
        have hgrw : ∀ kd, w.grownBy ((w.drewN kd).setCell ⟨g, 1, none⟩ (.int .i64 ((p : Int) + (k : Int)))) (some g) := fun kd =>
          grownBy_trans (grownBy_of_below (some g) (below_drewN w w.heap.size kd)) (grownBy_setCell _ ⟨g, 1, none⟩ _)
        have HG := Lib.hid hgrw
        have hlenk : ((l.drop p).take k).length = k := by rw [List.length_take, List.length_drop]; omega
        have HLEN := Lib.hid hlenk
        have HPK : Hid (p + k ≤ l.length) := Lib.hid (by omega)
        clear hok e1 e2 e3 h hlen hb hl hlong hr hrw hgrw hlenk
        go_enter Try.func71, Try.ntmps71
        go_wp2
        go_quiet (fail)
        go_wp2
        have hbw := Blk.setCell (w := w.drewN nq) HBK.out 1 (.int .i64 ((p : Int) + (k : Int)))
        have HRW := Lib.hid (HRW0.out nq)
        refine wp_region_grow (by kernel_rfl) (by kernel_rfl) (by rfl) ?_
        refine gw_make0 (e' := 5) rfl rfl ?_ ?_
        · intro a' w'
          simp [execOp, go_sem]
          go_goals
        apply gw_val
        · intro a' w' hk
          refine ⟨wanted_none rfl, ?_⟩
          simp [Oper.looksAt, Op.operands, Call.operands, KnownAt, List.lookup, consD] at hk
          simp [execOp, Act.eval, hk, go_sem]
          all_goals rfl
        apply gw_val
        · intro a' w' hk
          refine ⟨wanted_none rfl, ?_⟩
          simp [Oper.looksAt, Op.operands, Call.operands, KnownAt, List.lookup, consD] at hk
          simp [execOp, Act.eval, hk, go_sem]
          all_goals rfl
        apply gw_val
        · intro a' w' hk
          refine ⟨wanted_none rfl, ?_⟩
          simp [Oper.looksAt, Op.operands, Call.operands, KnownAt, List.lookup, consD] at hk
          simp [execOp, Act.eval, hk, go_sem]
          all_goals rfl
        refine gw_valB _ (mono_eq ((.slice a n c))) ?_ ?_
        · intro a' w' hb' hk
          refine ⟨wanted_none rfl, _, ?_, rfl⟩
          have hc := ((Blk.drew hbw).below hb').cell (i := 0) rfl
          simp [Oper.looksAt, Op.operands, Call.operands, KnownAt, List.lookup, consD] at hk
          simp [execOp, Act.eval, hk, hc, go_sem]
          all_goals rfl
        apply gw_val
        · intro a' w' hk
          refine ⟨wanted_none rfl, ?_⟩
          simp [Oper.looksAt, Op.operands, Call.operands, KnownAt, List.lookup, consD] at hk
          simp [execOp, Act.eval, hk, go_sem]
          all_goals rfl
        apply gw_val
        · intro a' w' hk
          refine ⟨wanted_none rfl, ?_⟩
          simp [Oper.looksAt, Op.operands, Call.operands, KnownAt, List.lookup, consD] at hk
          simp [execOp, Act.eval, hk, go_sem]
          all_goals rfl
        apply gw_val
        · intro a' w' hk
          refine ⟨wanted_none rfl, ?_⟩
          simp [Oper.looksAt, Op.operands, Call.operands, KnownAt, List.lookup, consD] at hk
          simp [execOp, Act.eval, hk, go_sem]
          all_goals rfl
        refine gw_valB _ (mono_eq ((.int .i64 ((p : Int) + (k : Int))))) ?_ ?_
        · intro a' w' hb' hk
          refine ⟨wanted_none rfl, _, ?_, rfl⟩
          have hc := ((Blk.drew hbw).below hb').cell (i := 1) rfl
          simp [Oper.looksAt, Op.operands, Call.operands, KnownAt, List.lookup, consD] at hk
          simp [execOp, Act.eval, hk, hc, go_sem]
          all_goals rfl
        apply gw_val
        · intro a' w' hk
          refine ⟨wanted_none rfl, ?_⟩
          simp [Oper.looksAt, Op.operands, Call.operands, KnownAt, List.lookup, consD] at hk
          simp [execOp, Act.eval, hk, go_sem]
          all_goals rfl
        apply gw_val
        · intro a' w' hk
          refine ⟨wanted_none rfl, ?_⟩
          simp [Oper.looksAt, Op.operands, Call.operands, KnownAt, List.lookup, consD] at hk
          simp [execOp, Act.eval, hk, go_sem]
          all_goals rfl
        apply gw_val
        · intro a' w' hk
          refine ⟨wanted_none rfl, ?_⟩
          simp [Oper.looksAt, Op.operands, Call.operands, KnownAt, List.lookup, consD] at hk
          simp [execOp, Act.eval, hk, go_sem]
          all_goals rfl
        apply gw_val
        · intro a' w' hk
          refine ⟨wanted_none rfl, ?_⟩
          simp [Oper.looksAt, Op.operands, Call.operands, KnownAt, List.lookup, consD] at hk
          simp [execOp, Act.eval, hk, go_sem]
          all_goals rfl
        apply gw_val
        · intro a' w' hk
          refine ⟨wanted_none rfl, ?_⟩
          simp [Oper.looksAt, Op.operands, Call.operands, KnownAt, List.lookup, consD] at hk
          simp [execOp, Act.eval, hk, go_sem]
          all_goals rfl
        refine gw_valB _ (mono_eq ((.int .i64 ((p : Int) + (k : Int))))) ?_ ?_
        · intro a' w' hb' hk
          refine ⟨wanted_none rfl, _, ?_, rfl⟩
          have hc := ((Blk.drew hbw).below hb').cell (i := 1) rfl
          simp [Oper.looksAt, Op.operands, Call.operands, KnownAt, List.lookup, consD] at hk
          simp [execOp, Act.eval, hk, hc, go_sem]
          all_goals rfl
        refine gw_valB (SliceG bE ((l.drop p).take k)) (mono_slice _ _) ?_ ?_
        · intro a' w' hb' hk
          refine ⟨wanted_none rfl, ?_⟩
          simp [Oper.looksAt, Op.operands, Call.operands, KnownAt, List.lookup, consD] at hk
          have s1 : IntKind.i64.wrap (p : Int) = (p : Int) := IntWalk.i64_in _ (by omega)
          have s2 : (p : Int) ≤ (p : Int) + (k : Int) := by omega
          have s3 : ((p : Int) + (k : Int)).toNat = p + k := by omega
          have s4 : 0 ≤ (p : Int) + (k : Int) := by omega
          have s5 : (p : Int) + (k : Int) ≤ (c : Int) := by omega
          simp [execOp, Act.eval, hk, go_sem, s1, s2, s3, s4, s5]
          refine ⟨_, _, _, rfl, HLEN.out, ?_⟩
          exact HRW.out.below hb'
        refine gw_append (E := bE) slByte (.tmp 39) (.tmp 54) [] ((l.drop p).take k) rfl (by rw [HLEN.out]; simp; omega) (by rw [HLEN.out]; unfold maxLen; simp; omega) ?_ ?_
        · intro a' w' hb' hk
          have hk39 := hk 39 (by decide)
          have hk54 := hk 54 (by decide)
          simp only [KnownAt, List.lookup, consD] at hk39 hk54
          obtain ⟨b1, hk39⟩ := hk39
          exact ⟨wanted_none rfl, ⟨_, hk39, Rd.nil⟩, hk54⟩
        refine gw_valB (SliceG bE ((l.drop p).take k)) (mono_slice _ _) ?_ ?_
        · intro a' w' hb' hk
          have hk55 := hk 55 (by decide)
          simp [KnownAt, List.lookup, consD] at hk55
          obtain ⟨a9, n9, c9, h9, hl9, hr9⟩ := hk55
          refine ⟨wanted_none rfl, _, ?_, ⟨a9, n9, c9, rfl, hl9, hr9⟩⟩
          simp [execOp, Act.eval, h9, go_sem]
          all_goals rfl
        intro vs w' hb' hall
        simp only [AllS, consD] at hall
        obtain ⟨⟨a9, n9, c9, h9, hl9, hr9⟩, -⟩ := hall
        simp only [consD, putAllS, Act.put]
        rw [h9]
        simp only [List.setIfInBounds_toArray, List.set_cons_succ, List.set_cons_zero]
        go_wp2
        go_ret
        have hg2 := HG.out nq
        have hb2 := ((Below.refl ((w.drewN nq).setCell ⟨g, 1, none⟩ (.int .i64 ((p : Int) + (k : Int)))).heap.size ((w.drewN nq).setCell ⟨g, 1, none⟩ (.int .i64 ((p : Int) + (k : Int))))).drew).trans hb'
        have hra := (H.out.drewN nq).setAt (p + k) HPK.out
        rw [show ((p + k : Nat) : Int) = (p : Int) + (k : Int) from by omega] at hra
        exact ⟨_, _, _, rfl, by rw [E1.out]; exact hl9, by rw [E1.out]; exact hr9, by rw [E2.out, E3.out]; exact hra.below hb2, grownBy_trans hg2 (grownBy_of_below _ hb2)⟩
  · have hok : nextOk l.length p er m true = false := by
      unfold nextOk; exact decide_eq_false (by rintro ⟨h, _⟩; exact he h)
    have e1 : nextL l p er m true = [] := by unfold nextL; rw [hok]; rfl
    have e2 : nextAt l.length p er m true = p := by unfold nextAt; rw [hok]; rfl
    have e3 : nextEr l.length p er m true = er := by unfold nextEr; rw [if_pos he]
    have HF : Hid (RTakePost w g l p er m (.returned (.slice none 0 0)) w) :=
      ⟨none, 0, 0, rfl, by rw [e1]; rfl, by rw [e1]; exact Rd.nil, by rw [e2, e3]; exact h, World.grownBy.refl _ _⟩
    obtain ⟨a, n, c, hb, -⟩ := h.ex
    have h2 := hb.cell (i := 2) rfl
    have he2 : (er != 0) = true := by simpa using he
    clear hok e1 e2 e3 h hlen hb he
    go_enter Try.func71, Try.ntmps71
    go_wp2
    go_ret
    exact HF.out
end Go.Proofs.Ytbknkahakmfhkaa
