/- The methods of packsaddleref01.Reader. -/
import Derived.Test.YtgcdeadfkljeaaaBitR2
import Derived.Test.YtgcdeadfkljeaaaRef01B
import Derived.Test.YtgcdeadfkljeaaaGrowI
namespace Go.Proofs.Ytgcdeadfkljeaaa
open Go.RowKit
set_option linter.unusedVariables false
set_option linter.unusedSimpArgs false

/-- Cells that hold bools keep them. -/
def BitKeep (w w' : World) : Prop := ∀ b off (x : Bool), w.cell? ⟨b, off, none⟩ = some (.bool x) → w'.cell? ⟨b, off, none⟩ = some (.bool x)
theorem bkeep_of_grown {w w' : World} {g : Nat} (hg : w.grownBy w' (some g)) (hno : ∀ off (x : Bool), w.cell? ⟨g, off, none⟩ ≠ some (.bool x)) : BitKeep w w' := by
  intro b off x h
  by_cases hb : b = g
  · subst hb; exact absurd h (hno off x)
  · exact hg.cell h (by simpa using hb)
theorem Rd.bkeep {w w' : World} {a : Option Addr} {l : List Bool} (h : Rd w Value.bool a l) (hk : BitKeep w w') : Rd w' Value.bool a l := by
  rcases h with rfl | ⟨b, off, rfl, h⟩
  · exact .inl rfl
  · exact .inr ⟨b, off, rfl, fun j x hj => hk _ _ _ (h j x hj)⟩
theorem blk_nobit {w : World} {g : Nat} {T : TypeId} {a : Option Addr} {n c : Nat} {x : Int} (h : Blk w g T #[.slice a n c, .int .i64 x]) : ∀ off (z : Bool), w.cell? ⟨g, off, none⟩ ≠ some (.bool z) := by
  intro off z he
  rw [cell_of_row w g off _ T (0, 0) h] at he
  match off, he with
  | 0, he => simp at he
  | 1, he => simp at he
  | off+2, he => simp at he
theorem RdOk.nobit {w : World} {g : Nat} {l : List UInt8} {p : Nat} (h : RdOk w g l p) : ∀ off (z : Bool), w.cell? ⟨g, off, none⟩ ≠ some (.bool z) := by
  obtain ⟨a, n, c, hb, _⟩ := h.ex; exact blk_nobit hb
/-- The document's reader of the bits of these bytes. -/
structure RrOk (w : World) (g : Nat) (l : List UInt8) (at' : Nat) : Prop where
  ex : ∃ (a : Option Addr) (n c : Nat), Blk w g 67 #[.slice a n c, .int .i64 (at' : Int)] ∧ 8 * l.length = n ∧ n ≤ c ∧ (c ≤ 9223372036854775807 ∧ n ≤ 8000000 ∧ Bnd (ofL l) a g) ∧ Rd w Value.bool a (ofL l) ∧ at' ≤ n
section
variable {w w' : World} {g : Nat} {l : List UInt8} {p : Nat}
theorem RrOk.nobit (h : RrOk w g l p) : ∀ off (z : Bool), w.cell? ⟨g, off, none⟩ ≠ some (.bool z) := by
  obtain ⟨a, n, c, hb, _⟩ := h.ex; exact blk_nobit hb
theorem RrOk.nobyte (h : RrOk w g l p) : ∀ off (z : UInt8), w.cell? ⟨g, off, none⟩ ≠ some (bE z) := by
  obtain ⟨a, n, c, hb, _⟩ := h.ex; exact blk_nobyte2 hb
theorem RrOk.below (h : RrOk w g l p) (hb : Below w.heap.size w w') : RrOk w' g l p := by
  obtain ⟨a, n, c, h1, h2, h3, h4, h5, h6⟩ := h.ex
  exact ⟨a, n, c, h1.below hb, h2, h3, h4, h5.below hb, h6⟩
theorem RrOk.drewN (h : RrOk w g l p) (j : Nat) : RrOk (w.drewN j) g l p := ⟨h.ex⟩
theorem RrOk.len (h : RrOk w g l p) : l.length ≤ 1000000 ∧ p ≤ 8 * l.length := by
  obtain ⟨a, n, c, h1, h2, h3, h4, h5, h6⟩ := h.ex; omega
theorem RrOk.setAt (h : RrOk w g l p) (q : Nat) (hq : q ≤ 8 * l.length) : RrOk (w.setCell ⟨g, 1, none⟩ (.int .i64 (q : Int))) g l q := by
  have hk := bkeep_of_grown (grownBy_setCell w ⟨g, 1, none⟩ (.int .i64 (q : Int))) h.nobit
  obtain ⟨a, n, c, h1, h2, h3, h4, h5, h6⟩ := h.ex
  exact ⟨a, n, c, h1.setCell 1 (.int .i64 (q : Int)), h2, h3, h4, h5.bkeep hk, by omega⟩
theorem RrOk.keep {q : Nat} (h : RrOk w g l p) (hk : BitKeep w w') (hg : w.grownBy w' (some q)) (hne : g ≠ q) : RrOk w' g l p := by
  obtain ⟨a, n, c, h1, h2, h3, h4, h5, h6⟩ := h.ex
  exact ⟨a, n, c, h1.grown hg (by simpa using hne), h2, h3, h4, h5.bkeep hk, h6⟩
end
def cntR (g : Nat) (w : World) : Nat := match w.cell? ⟨g, 1, none⟩ with | some v => (intOf v).toNat | none => 0
theorem RrOk.cnt {w : World} {g : Nat} {l : List UInt8} {p : Nat} (h : RrOk w g l p) : cntR g w = p := by
  obtain ⟨a, n, c, hb, _⟩ := h.ex
  have := hb.cell (i := 1) rfl
  simp [cntR, this, intOf]

set_option maxRecDepth 100000 in
set_option maxHeartbeats 2000000 in
theorem rrAlign_any (g : Nat) (l : List UInt8) (p : Nat) (w : World) (h : RrOk w g l p) :
  Calls Try.prog 64 #[.pointer (some ⟨g, 0, none⟩)] w fun e w' => e = .returned (.tuple #[]) ∧ RrOk w' g l (alignN p) ∧ w.grownBy w' (some g) := by
  have hlen := h.len
  have hg0 := World.grownBy.refl w (some g)
  have hal : p ≤ alignN p ∧ alignN p ≤ 8 * l.length ∧ alignN p % 8 = 0 ∧ alignN p < p + 8 := by unfold alignN; omega
  obtain ⟨z, hz⟩ : ∃ z, alignN p = z := ⟨_, rfl⟩
  rw [hz] at hal ⊢
  clear hz
  go_enter Try.func64, Try.ntmps64
  go_wp2
  go_loopw [] (fun wr => ∃ q : Nat, (p ≤ q ∧ q ≤ z) ∧ RrOk wr g l q ∧ w.grownBy wr (some g)) (fun wr => z - cntR g wr)
  case atStart => exact ⟨p, ⟨Nat.le_refl _, hal.1⟩, h, hg0⟩
  case round =>
    obtain ⟨q, hq, hr, hgr⟩ := hrel
    clear h hg0
    have hcn := hr.cnt
    obtain ⟨a, n, c, hb, hl, hrest⟩ := hr.ex
    have c1 := hb.cell (i := 1) rfl
    have f1 := hb.frozen 1
    by_cases hend : q = z
    · subst hend
      have h8 : (q : Int) % 8 = 0 := by omega
      clear hrest hl hb
      go_wp2
      go_end0
      exact ⟨rfl, hr, hgr⟩
    · have h8 : (q : Int) % 8 ≠ 0 := by omega
      have h8b : ((q : Int) % 8 != 0) = true := bne_iff_ne.2 h8
      have hset := hr.setAt (q + 1) (by omega)
      have hgs := grownBy_trans hgr (grownBy_setCell wr ⟨g, 1, none⟩ (.int .i64 ((q + 1 : Nat) : Int)))
      have hcn2 := hset.cnt
      rw [show ((q + 1 : Nat) : Int) = (q : Int) + 1 from by omega] at hset hgs hcn2
      have HS := Lib.hid hset
      have HG := Lib.hid hgs
      have HC := Lib.hid hcn2
      have HC1 := Lib.hid hcn
      have hq7 : q ≤ 8000000 := by omega
      clear hrest hl hb hr hgr hset hgs hcn2 hcn
      go_wp2
      go_roundw
      case rel => exact ⟨q + 1, by omega, HS.out, HG.out⟩
      case measure => rw [HC.out, HC1.out]; omega

def RrGetPost (w : World) (g : Nat) (l : List UInt8) (p : Nat) (m : Int) (e : Ending) (w' : World) : Prop :=
  e = .returned (.tuple #[.int .u32 ((rdGetV l p m : Nat) : Int), .int .i64 (rdGetEr l p m)]) ∧ RrOk w' g l (rdGetAt l p m) ∧ w.grownBy w' (some g)
set_option maxRecDepth 100000 in
set_option maxHeartbeats 4000000 in
theorem rrGet_any (g : Nat) (l : List UInt8) (p : Nat) (m : Int) (w : World) (h : RrOk w g l p) (hm1 : -9223372036854775808 ≤ m) (hm2 : m ≤ 9223372036854775807) :
  Calls Try.prog 63 #[.pointer (some ⟨g, 0, none⟩), .int .i64 m] w (RrGetPost w g l p m) := by
  have hlen := h.len
  by_cases hbad : m < 0 ∨ m > 32
  · have e1 : rdGetEr l p m = 1 := by unfold rdGetEr; rw [if_pos hbad]
    have HF : Hid (RrGetPost w g l p m (.returned (.tuple #[.int .u32 0, .int .i64 1])) w) := Lib.hid ⟨by unfold rdGetV; rw [e1]; rfl, by unfold rdGetAt; rw [e1]; exact h, World.grownBy.refl _ _⟩
    clear h e1
    go_enter Try.func63, Try.ntmps63
    by_cases hneg : m < 0
    · go_wp2
      go_ret2
      exact HF.out
    · have hbig : m > 32 := by omega
      go_wp2
      go_ret2
      exact HF.out
  · obtain ⟨k, rfl⟩ := Int.eq_ofNat_of_zero_le (show 0 ≤ m by omega)
    have hk : k ≤ 32 := by omega
    by_cases hlong : (k : Int) > 8 * (l.length : Int) - p
    · have e1 : rdGetEr l p k = 6 := by unfold rdGetEr; rw [if_neg hbad, if_pos hlong]
      have HF : Hid (∀ kd, RrGetPost w g l p k (.returned (.tuple #[.int .u32 0, .int .i64 6])) (w.drewN kd)) := Lib.hid fun kd => ⟨by unfold rdGetV; rw [e1]; rfl, by unfold rdGetAt; rw [e1]; exact h.drewN kd, grownBy_of_below _ (below_drewN _ _ kd)⟩
      obtain ⟨a, n, c, hb, hl, hnc, hc, hr, hp⟩ := h.ex
      have c0 := hb.cell (i := 0) rfl
      have c1 := hb.cell (i := 1) rfl
      have hlong2 : (k : Int) > (n : Int) - p := by omega
      clear h e1 hb hr hlong hl
      go_enter Try.func63, Try.ntmps63
      go_wp2
      go_quiet (fail)
      go_wp2
      go_ret2
      exact HF.out _
    · have e1 : rdGetEr l p k = 0 := by unfold rdGetEr; rw [if_neg hbad, if_neg hlong]
      have hcutl : (((ofL l).drop p).take k).length = k := by rw [List.length_take, List.length_drop, ofL_length]; omega
      have HE : Hid (rdGetV l p k = numL (((ofL l).drop p).take k) ∧ rdGetAt l p k = p + k ∧ rdGetEr l p k = 0) := Lib.hid ⟨by unfold rdGetV; rw [if_pos e1, Int.toNat_natCast, numL_numF _ (by omega)], by unfold rdGetAt; rw [if_pos e1, Int.toNat_natCast], e1⟩
      have H := Lib.hid h
      obtain ⟨a, n, c, hb, hl, hnc, hc, hr, hp⟩ := h.ex
      have hlong2 : ¬ (k : Int) > (n : Int) - p := by omega
      have c0 := hb.cell (i := 0) rfl
      have c1 := hb.cell (i := 1) rfl
      have f1 := hb.frozen 1
      have hsl := fun w => run_slice_lh1 slBool a n c p (p + k) (by omega) (by omega) (p : Int) ((p : Int) + (k : Int)) rfl (by omega) w
      rw [Nat.add_sub_cancel_left] at hsl
      have hrs0 : Rd w Value.bool (slP a c p) (((ofL l).drop p).take k) := (hr.slP p c (by rw [ofL_length]; omega)).take k
      have HBK0 := Lib.hid hb
      have HSL := Lib.hid hsl
      have HRS0 := Lib.hid hrs0
      have HLK := Lib.hid hcutl
      have hpn : p + k ≤ 8000000 := by omega
      generalize slP a c p = PP at HSL HRS0
      have HPL : Hid (p + k ≤ 8 * l.length) := Lib.hid (by omega)
      clear h e1 hr hb hsl hrs0 hcutl hl hlong
      go_enter Try.func63, Try.ntmps63
      go_wp2
      go_quiet (fail)
      go_wp2_with fail
      have HBK := Lib.hid (Blk.setCell (w := w.drewN nq) HBK0.out 1 (.int .i64 ((p : Int) + (k : Int))))
      have hat := (H.out.drewN nq).setAt (p + k) HPL.out
      have hgr := grownBy_trans (grownBy_of_below (some g) (below_drewN w w.heap.size nq)) (grownBy_setCell (w.drewN nq) ⟨g, 1, none⟩ (.int .i64 ((p : Int) + (k : Int))))
      rw [show ((p + k : Nat) : Int) = (p : Int) + (k : Int) from by omega] at hat
      have HRS := Lib.hid (HRS0.out.bkeep (bkeep_of_grown hgr H.out.nobit))
      have HAT := Lib.hid hat
      have HGR := Lib.hid hgr
      clear hat hgr
      refine wp_region_grow (by kernel_rfl) (by kernel_rfl) (by rfl) ?_
      apply gw_val
      · intro a' w' hk
        refine ⟨wanted_none rfl, ?_⟩
        simp [Oper.looksAt, Op.operands, Call.operands, KnownAt, List.lookup, consD] at hk
        simp [execOp, Act.eval, hk, go_sem]
        all_goals rfl
      apply gw_val
      · intro a' w' hk
        refine ⟨wanted_none rfl, ?_⟩
        simp [Oper.looksAt, Op.operands, Call.operands, KnownAt, List.lookup, consD] at hk
        simp [execOp, Act.eval, hk, go_sem]
        all_goals rfl
      apply gw_val
      · intro a' w' hk
        refine ⟨wanted_none rfl, ?_⟩
        simp [Oper.looksAt, Op.operands, Call.operands, KnownAt, List.lookup, consD] at hk
        simp [execOp, Act.eval, hk, go_sem]
        all_goals rfl
      refine gw_valB (fun v _ => v = .slice a n c) (mono_eq _) ?_ ?_
      · intro a' w' hb' hk
        refine ⟨wanted_none rfl, _, ?_, rfl⟩
        have hc := ((Blk.drew2 HBK.out).below hb').cell (i := 0) rfl
        simp [Oper.looksAt, Op.operands, Call.operands, KnownAt, List.lookup, consD] at hk
        simp [execOp, Act.eval, hk, hc, go_sem]
        all_goals rfl
      apply gw_val
      · intro a' w' hk
        refine ⟨wanted_none rfl, ?_⟩
        simp [Oper.looksAt, Op.operands, Call.operands, KnownAt, List.lookup, consD] at hk
        simp [execOp, Act.eval, hk, go_sem]
        all_goals rfl
      apply gw_val
      · intro a' w' hk
        refine ⟨wanted_none rfl, ?_⟩
        simp [Oper.looksAt, Op.operands, Call.operands, KnownAt, List.lookup, consD] at hk
        simp [execOp, Act.eval, hk, go_sem]
        all_goals rfl
      apply gw_val
      · intro a' w' hk
        refine ⟨wanted_none rfl, ?_⟩
        simp [Oper.looksAt, Op.operands, Call.operands, KnownAt, List.lookup, consD] at hk
        simp [execOp, Act.eval, hk, go_sem]
        all_goals rfl
      refine gw_valB (fun v _ => v = .int .i64 ((p : Int) + (k : Int))) (mono_eq _) ?_ ?_
      · intro a' w' hb' hk
        refine ⟨wanted_none rfl, _, ?_, rfl⟩
        have hc := ((Blk.drew2 HBK.out).below hb').cell (i := 1) rfl
        simp [Oper.looksAt, Op.operands, Call.operands, KnownAt, List.lookup, consD] at hk
        simp [execOp, Act.eval, hk, hc, go_sem]
        all_goals rfl
      apply gw_val
      · intro a' w' hk
        refine ⟨wanted_none rfl, ?_⟩
        simp [Oper.looksAt, Op.operands, Call.operands, KnownAt, List.lookup, consD] at hk
        simp [execOp, Act.eval, hk, go_sem]
        all_goals rfl
      refine gw_val (.int .i64 (p : Int)) ?_ ?_
      · intro a' w' hk
        refine ⟨wanted_none rfl, ?_⟩
        simp [Oper.looksAt, Op.operands, Call.operands, KnownAt, List.lookup, consD] at hk
        have hw : IntKind.i64.wrap (p : Int) = (p : Int) := IntWalk.i64_in _ (by omega)
        simp [execOp, Act.eval, hk, go_sem, hw]
        all_goals rfl
      apply gw_val
      · intro a' w' hk
        refine ⟨wanted_none rfl, ?_⟩
        simp [Oper.looksAt, Op.operands, Call.operands, KnownAt, List.lookup, consD] at hk
        simp [execOp, Act.eval, hk, go_sem]
        all_goals rfl
      apply gw_val
      · intro a' w' hk
        refine ⟨wanted_none rfl, ?_⟩
        simp [Oper.looksAt, Op.operands, Call.operands, KnownAt, List.lookup, consD] at hk
        simp [execOp, Act.eval, hk, go_sem]
        all_goals rfl
      apply gw_val
      · intro a' w' hk
        refine ⟨wanted_none rfl, ?_⟩
        simp [Oper.looksAt, Op.operands, Call.operands, KnownAt, List.lookup, consD] at hk
        simp [execOp, Act.eval, hk, go_sem]
        all_goals rfl
      refine gw_valB (fun v _ => v = .int .i64 ((p : Int) + (k : Int))) (mono_eq _) ?_ ?_
      · intro a' w' hb' hk
        refine ⟨wanted_none rfl, _, ?_, rfl⟩
        have hc := ((Blk.drew2 HBK.out).below hb').cell (i := 1) rfl
        simp [Oper.looksAt, Op.operands, Call.operands, KnownAt, List.lookup, consD] at hk
        simp [execOp, Act.eval, hk, hc, go_sem]
        all_goals rfl
      refine gw_val (.slice PP k (c - p)) ?_ ?_
      · intro a' w' hk
        refine ⟨wanted_none rfl, ?_⟩
        simp [Oper.looksAt, Op.operands, Call.operands, KnownAt, List.lookup, consD] at hk
        have hsl := HSL.out w'
        simp [execOp, Act.eval, hk, go_sem, hsl]
        all_goals rfl
      refine gw_call _ #[.slice PP k (c - p)] (fun v _ => v = .int .u32 ((numL (((ofL l).drop p).take k) : Nat) : Int)) (mono_eq _) (fun a' w' hk => ?_) (fun w' hb => (number_any PP k (c - p) (((ofL l).drop p).take k) w' HLK.out (by omega) (HRS.out.drew.later hb)).mono ?_) ?_
      · refine ⟨wanted_none rfl, ?_⟩
        simp [Oper.looksAt, Op.operands, Call.operands, KnownAt, List.lookup, consD] at hk
        simp [execOp, Act.eval, hk, go_sem]
        all_goals rfl
      · rintro e w'' ⟨rfl, rfl⟩
        exact ⟨_, rfl, rfl, Below.refl _ _⟩
      apply gw_val
      · intro a' w' hk
        refine ⟨wanted_none rfl, ?_⟩
        simp [Oper.looksAt, Op.operands, Call.operands, KnownAt, List.lookup, consD] at hk
        simp [execOp, Act.eval, hk, go_sem]
        all_goals rfl
      apply gw_val
      · intro a' w' hk
        refine ⟨wanted_none rfl, ?_⟩
        simp [Oper.looksAt, Op.operands, Call.operands, KnownAt, List.lookup, consD] at hk
        simp [execOp, Act.eval, hk, go_sem]
        all_goals rfl
      intro vs w' hb' hall
      simp only [AllS, consD] at hall
      simp only [consD, putAllS, Act.put]
      obtain ⟨h5, h4, -⟩ := hall
      rw [h5, h4]
      simp only [List.setIfInBounds_toArray, List.set_cons_succ, List.set_cons_zero]
      go_wp2
      go_ret2
      obtain ⟨x1, x2, x3⟩ := HE.out
      have hb2 := ((Below.refl ((w.drewN nq).setCell ⟨g, 1, none⟩ (.int .i64 ((p : Int) + (k : Int)))).heap.size ((w.drewN nq).setCell ⟨g, 1, none⟩ (.int .i64 ((p : Int) + (k : Int))))).drew).trans hb'
      exact ⟨by rw [x1, x3]; rfl, by rw [x2]; exact HAT.out.below hb2, grownBy_trans HGR.out (grownBy_of_below _ hb2)⟩

def RrTakePost (w : World) (g : Nat) (l : List UInt8) (p : Nat) (m : Int) (e : Ending) (w' : World) : Prop :=
  ∃ a k c, e = .returned (.tuple #[.slice a k c, .int .i64 (rdTakeEr l p m)]) ∧ (rdTakeL l p m).length = k ∧ Rd w' bE a (rdTakeL l p m) ∧ RrOk w' g l (rdTakeAt l p m) ∧ w.grownBy w' (some g)
theorem take_bytes (l : List UInt8) (f k : Nat) : bytesL (((ofL l).drop (8 * f)).take (8 * k)) = (l.drop f).take k := by
  have e : ((ofL l).drop (8 * f)).take (8 * k) = ofL ((l.drop f).take k) := by
    apply bits_ext
    · rw [ofL_length, List.length_take, List.length_take, List.length_drop, List.length_drop, ofL_length]; omega
    · intro i
      rw [ofL_bits]
      have h := ofL_bits l (8 * f + i)
      simp only [List.getD, List.getElem?_take, List.getElem?_drop] at h ⊢
      by_cases hi : i < 8 * k
      · rw [if_pos hi, if_pos (by omega), h, show (8 * f + i) / 8 = f + i / 8 from by omega, show (8 * f + i) % 8 = i % 8 from by omega]
      · rw [if_neg hi, if_neg (by omega)]; simp
  rw [e, bytesL_ofL]
set_option maxRecDepth 100000 in
set_option maxHeartbeats 4000000 in
theorem rrTake_any (g : Nat) (l : List UInt8) (p : Nat) (m : Int) (w : World) (h : RrOk w g l p) (hm1 : -9223372036854775808 ≤ m) (hm2 : m ≤ 9223372036854775807) :
  Calls Try.prog 65 #[.pointer (some ⟨g, 0, none⟩), .int .i64 m] w (RrTakePost w g l p m) := by
  have hlen := h.len
  by_cases hneg : m < 0
  · have e1 : rdTakeEr l p m = 1 := by unfold rdTakeEr; rw [if_pos hneg]
    have e2 : rdTakeL l p m = [] := by unfold rdTakeL; rw [e1]; rfl
    have HF : Hid (RrTakePost w g l p m (.returned (.tuple #[.slice none 0 0, .int .i64 1])) w) := Lib.hid ⟨none, 0, 0, by rw [e1], by rw [e2]; rfl, by rw [e2]; exact Rd.nil, by unfold rdTakeAt; rw [if_pos hneg]; exact h, World.grownBy.refl _ _⟩
    clear h e1 e2
    go_enter Try.func65, Try.ntmps65
    go_wp2
    go_ret2
    exact HF.out
  · obtain ⟨k, rfl⟩ := Int.eq_ofNat_of_zero_le (show 0 ≤ m by omega)
    have hal : alignN p ≤ 8 * l.length ∧ alignN p % 8 = 0 := by unfold alignN; omega
    have hat : rdTakeAt l p k = if rdTakeEr l p k = 0 then alignN p + 8 * k else alignN p := by unfold rdTakeAt; rw [if_neg hneg]; rfl
    have her : rdTakeEr l p k = if (k : Int) > (((8 * l.length - alignN p) / 8 : Nat) : Int) then 6 else 0 := by unfold rdTakeEr; rw [if_neg hneg]
    have hL : rdTakeL l p k = if rdTakeEr l p k = 0 then (l.drop (alignN p / 8)).take k else [] := rfl
    have HAT := Lib.hid hat
    have HER := Lib.hid her
    have HLL := Lib.hid hL
    clear hat her hL
    go_enter Try.func65, Try.ntmps65
    go_wp2_with fail
    refine (rrAlign_any g l p w h).mono ?_
    rintro e w1 ⟨rfl, h1, hg1⟩
    obtain ⟨q, hq⟩ : ∃ q, alignN p = q := ⟨_, rfl⟩
    rw [hq] at h1 hal
    have H1 := Lib.hid h1
    have HG1 := Lib.hid hg1
    obtain ⟨a, n, c, hb, hl, hnc, hc, hr, hp⟩ := h1.ex
    have c0 := hb.cell (i := 0) rfl
    have c1 := hb.cell (i := 1) rfl
    have f1 := hb.frozen 1
    have hdiv : ((n : Int) - (q : Int)) / 8 = (((8 * l.length - q) / 8 : Nat) : Int) := by omega
    by_cases hlong : (k : Int) > (((8 * l.length - q) / 8 : Nat) : Int)
    · have e1 : rdTakeEr l p k = 6 := by rw [HER.out, hq, if_pos hlong]
      have e2 : rdTakeL l p k = [] := by rw [HLL.out, e1]; rfl
      have HF : Hid (∀ kd, RrTakePost w g l p k (.returned (.tuple #[.slice none 0 0, .int .i64 6])) (w1.drewN kd)) := Lib.hid fun kd => ⟨none, 0, 0, by rw [e1], by rw [e2]; rfl, by rw [e2]; exact Rd.nil, by rw [HAT.out, e1, hq]; exact h1.drewN kd, grownBy_trans hg1 (grownBy_of_below _ (below_drewN _ _ kd))⟩
      have hlong3 : ((n : Int) - (q : Int)) / 8 < (k : Int) := by rw [hdiv]; exact hlong
      clear e1 e2 h1 hg1 h hb hr hdiv hlong hl hq
      go_wp2
      go_quiet (fail)
      go_wp2
      go_ret2
      exact HF.out _
    · have e1 : rdTakeEr l p k = 0 := by rw [HER.out, hq, if_neg hlong]
      have e2 : rdTakeL l p k = (l.drop (q / 8)).take k := by rw [HLL.out, e1, hq]; rfl
      have e3 : rdTakeAt l p k = q + 8 * k := by rw [HAT.out, e1, hq]; rfl
      have HE1 := Lib.hid e1
      have HE2 := Lib.hid e2
      have HE3 := Lib.hid e3
      have hlong3 : ¬ ((n : Int) - (q : Int)) / 8 < (k : Int) := by rw [hdiv]; omega
      have hqk : q + 8 * k ≤ n := by omega
      have hsl := fun w => run_slice_lh1 slBool a n c q (q + 8 * k) (by omega) (by omega) (q : Int) ((q : Int) + 8 * (k : Int)) rfl (by omega) w
      rw [Nat.add_sub_cancel_left] at hsl
      have hrs0 : Rd w1 Value.bool (slP a c q) (((ofL l).drop q).take (8 * k)) := (hr.slP q c (by rw [ofL_length]; omega)).take (8 * k)
      have hcutl : (((ofL l).drop q).take (8 * k)).length = 8 * k := by rw [List.length_take, List.length_drop, ofL_length]; omega
      have hby := take_bytes l (q / 8) k
      rw [show 8 * (q / 8) = q from by omega] at hby
      have HBK0 := Lib.hid hb
      have HSL := Lib.hid hsl
      have HRS0 := Lib.hid hrs0
      have HLK := Lib.hid hcutl
      have HBY := Lib.hid hby
      have hpn : q + 8 * k ≤ 8000000 := by omega
      generalize slP a c q = PP at HSL HRS0
      have HPL : Hid (q + 8 * k ≤ 8 * l.length) := Lib.hid (by omega)
      clear h h1 hg1 e1 e2 e3 hr hb hsl hrs0 hcutl hby hl hdiv hlong hq
      go_wp2
      go_quiet (fail)
      go_wp2_with fail
      have HBK := Lib.hid (Blk.setCell (w := w1.drewN nq) HBK0.out 1 (.int .i64 ((q : Int) + 8 * (k : Int))))
      have hat := (H1.out.drewN nq).setAt (q + 8 * k) HPL.out
      have hgr := grownBy_trans (grownBy_of_below (some g) (below_drewN w1 w1.heap.size nq)) (grownBy_setCell (w1.drewN nq) ⟨g, 1, none⟩ (.int .i64 ((q : Int) + 8 * (k : Int))))
      rw [show ((q + 8 * k : Nat) : Int) = (q : Int) + 8 * (k : Int) from by omega] at hat
      have HRS := Lib.hid (HRS0.out.bkeep (bkeep_of_grown hgr H1.out.nobit))
      have HAT2 := Lib.hid hat
      have HGR := Lib.hid hgr
      clear hat hgr
      refine wp_region_grow (by kernel_rfl) (by kernel_rfl) (by rfl) ?_
      apply gw_val
      · intro a' w' hk
        refine ⟨wanted_none rfl, ?_⟩
        simp [Oper.looksAt, Op.operands, Call.operands, KnownAt, List.lookup, consD] at hk
        simp [execOp, Act.eval, hk, go_sem]
        all_goals rfl
      apply gw_val
      · intro a' w' hk
        refine ⟨wanted_none rfl, ?_⟩
        simp [Oper.looksAt, Op.operands, Call.operands, KnownAt, List.lookup, consD] at hk
        simp [execOp, Act.eval, hk, go_sem]
        all_goals rfl
      apply gw_val
      · intro a' w' hk
        refine ⟨wanted_none rfl, ?_⟩
        simp [Oper.looksAt, Op.operands, Call.operands, KnownAt, List.lookup, consD] at hk
        simp [execOp, Act.eval, hk, go_sem]
        all_goals rfl
      refine gw_valB (fun v _ => v = .slice a n c) (mono_eq _) ?_ ?_
      · intro a' w' hb' hk
        refine ⟨wanted_none rfl, _, ?_, rfl⟩
        have hc := ((Blk.drew2 HBK.out).below hb').cell (i := 0) rfl
        simp [Oper.looksAt, Op.operands, Call.operands, KnownAt, List.lookup, consD] at hk
        simp [execOp, Act.eval, hk, hc, go_sem]
        all_goals rfl
      apply gw_val
      · intro a' w' hk
        refine ⟨wanted_none rfl, ?_⟩
        simp [Oper.looksAt, Op.operands, Call.operands, KnownAt, List.lookup, consD] at hk
        simp [execOp, Act.eval, hk, go_sem]
        all_goals rfl
      apply gw_val
      · intro a' w' hk
        refine ⟨wanted_none rfl, ?_⟩
        simp [Oper.looksAt, Op.operands, Call.operands, KnownAt, List.lookup, consD] at hk
        simp [execOp, Act.eval, hk, go_sem]
        all_goals rfl
      apply gw_val
      · intro a' w' hk
        refine ⟨wanted_none rfl, ?_⟩
        simp [Oper.looksAt, Op.operands, Call.operands, KnownAt, List.lookup, consD] at hk
        simp [execOp, Act.eval, hk, go_sem]
        all_goals rfl
      refine gw_valB (fun v _ => v = .int .i64 ((q : Int) + 8 * (k : Int))) (mono_eq _) ?_ ?_
      · intro a' w' hb' hk
        refine ⟨wanted_none rfl, _, ?_, rfl⟩
        have hc := ((Blk.drew2 HBK.out).below hb').cell (i := 1) rfl
        simp [Oper.looksAt, Op.operands, Call.operands, KnownAt, List.lookup, consD] at hk
        simp [execOp, Act.eval, hk, hc, go_sem]
        all_goals rfl
      apply gw_val
      · intro a' w' hk
        refine ⟨wanted_none rfl, ?_⟩
        simp [Oper.looksAt, Op.operands, Call.operands, KnownAt, List.lookup, consD] at hk
        simp [execOp, Act.eval, hk, go_sem]
        all_goals rfl
      refine gw_val (.int .i64 (8 * (k : Int))) ?_ ?_
      · intro a' w' hk
        refine ⟨wanted_none rfl, ?_⟩
        simp [Oper.looksAt, Op.operands, Call.operands, KnownAt, List.lookup, consD] at hk
        have hw8 : IntKind.i64.wrap (8 * (k : Int)) = 8 * (k : Int) := IntWalk.i64_in _ (by omega)
        simp [execOp, Act.eval, hk, go_sem, hw8]
        all_goals rfl
      refine gw_val (.int .i64 (q : Int)) ?_ ?_
      · intro a' w' hk
        refine ⟨wanted_none rfl, ?_⟩
        simp [Oper.looksAt, Op.operands, Call.operands, KnownAt, List.lookup, consD] at hk
        have hw : IntKind.i64.wrap (q : Int) = (q : Int) := IntWalk.i64_in _ (by omega)
        simp [execOp, Act.eval, hk, go_sem, hw]
        all_goals rfl
      apply gw_val
      · intro a' w' hk
        refine ⟨wanted_none rfl, ?_⟩
        simp [Oper.looksAt, Op.operands, Call.operands, KnownAt, List.lookup, consD] at hk
        simp [execOp, Act.eval, hk, go_sem]
        all_goals rfl
      apply gw_val
      · intro a' w' hk
        refine ⟨wanted_none rfl, ?_⟩
        simp [Oper.looksAt, Op.operands, Call.operands, KnownAt, List.lookup, consD] at hk
        simp [execOp, Act.eval, hk, go_sem]
        all_goals rfl
      apply gw_val
      · intro a' w' hk
        refine ⟨wanted_none rfl, ?_⟩
        simp [Oper.looksAt, Op.operands, Call.operands, KnownAt, List.lookup, consD] at hk
        simp [execOp, Act.eval, hk, go_sem]
        all_goals rfl
      refine gw_valB (fun v _ => v = .int .i64 ((q : Int) + 8 * (k : Int))) (mono_eq _) ?_ ?_
      · intro a' w' hb' hk
        refine ⟨wanted_none rfl, _, ?_, rfl⟩
        have hc := ((Blk.drew2 HBK.out).below hb').cell (i := 1) rfl
        simp [Oper.looksAt, Op.operands, Call.operands, KnownAt, List.lookup, consD] at hk
        simp [execOp, Act.eval, hk, hc, go_sem]
        all_goals rfl
      refine gw_val (.slice PP (8 * k) (c - q)) ?_ ?_
      · intro a' w' hk
        refine ⟨wanted_none rfl, ?_⟩
        simp [Oper.looksAt, Op.operands, Call.operands, KnownAt, List.lookup, consD] at hk
        have hsl := HSL.out w'
        simp [execOp, Act.eval, hk, go_sem, hsl]
        all_goals rfl
      refine gw_call _ #[.slice PP (8 * k) (c - q)] (BytesG ((l.drop (q / 8)).take k)) (mono_bytes _) (fun a' w' hk => ?_) (fun w' hb => (rBytes_any PP (8 * k) (c - q) (((ofL l).drop q).take (8 * k)) w' HLK.out (by omega) (by omega) (by unfold maxLen; omega) (HRS.out.drew.later hb)).mono ?_) ?_
      · refine ⟨wanted_none rfl, ?_⟩
        simp [Oper.looksAt, Op.operands, Call.operands, KnownAt, List.lookup, consD] at hk
        simp [execOp, Act.eval, hk, go_sem]
        all_goals rfl
      · rw [HBY.out]
        rintro e w'' ⟨a9, n9, c9, rfl, hown, hB⟩
        exact ⟨_, rfl, ⟨a9, n9, c9, rfl, hown.len, hown.rd⟩, hB⟩
      refine gw_valB (BytesG ((l.drop (q / 8)).take k)) (mono_bytes _) ?_ ?_
      · intro a' w' hb' hk
        have hk49 := hk 49 (by decide)
        simp [KnownAt, List.lookup, consD] at hk49
        obtain ⟨a9, n9, c9, h9, hl9, hr9⟩ := hk49
        refine ⟨wanted_none rfl, _, ?_, ⟨a9, n9, c9, rfl, by simpa using hl9, hr9⟩⟩
        simp [execOp, Act.eval, h9, go_sem]
        all_goals rfl
      apply gw_val
      · intro a' w' hk
        refine ⟨wanted_none rfl, ?_⟩
        simp [Oper.looksAt, Op.operands, Call.operands, KnownAt, List.lookup, consD] at hk
        simp [execOp, Act.eval, hk, go_sem]
        all_goals rfl
      intro vs w' hb' hall
      simp only [AllS, consD] at hall
      simp only [consD, putAllS, Act.put]
      obtain ⟨h5, ⟨a9, n9, c9, h4, hl9, hr9⟩, -⟩ := hall
      rw [h5, h4]
      simp only [List.setIfInBounds_toArray, List.set_cons_succ, List.set_cons_zero]
      go_wp2
      go_ret2
      have hb2 := ((Below.refl ((w1.drewN nq).setCell ⟨g, 1, none⟩ (.int .i64 ((q : Int) + 8 * (k : Int)))).heap.size ((w1.drewN nq).setCell ⟨g, 1, none⟩ (.int .i64 ((q : Int) + 8 * (k : Int))))).drew).trans hb'
      exact ⟨a9, n9, c9, by rw [HE1.out]; rfl, by rw [HE2.out]; exact hl9, by rw [HE2.out]; exact hr9, by rw [HE3.out]; exact HAT2.out.below hb2, grownBy_trans (grownBy_trans HG1.out HGR.out) (grownBy_of_below _ hb2)⟩
end Go.Proofs.Ytgcdeadfkljeaaa
