/- The walks of bitio.Reader's methods. -/
import Derived.Test.YtgcdeadfkljeaaaNumF
import Derived.Test.YtgcdeadfkljeaaaBnd
import Derived.Test.YtgcdeadfkljeaaaCurO
import Derived.Test.YtgcdeadfkljeaaaBuf
import Derived.Test.YtgcdeadfkljeaaaCrcO
import Derived.Test.YtgcdeadfkljeaaaGrowI
import Derived.Deep.QuietTactic
import Derived.BigQuiet
namespace Go.Proofs.Ytgcdeadfkljeaaa
open Go.RowKit
set_option linter.unusedVariables false
set_option linter.unusedSimpArgs false

structure RdOk (w : World) (g : Nat) (l : List UInt8) (at' : Nat) : Prop where
  ex : ∃ (a : Option Addr) (n c : Nat), Blk w g 102 #[.slice a n c, .int .i64 (at' : Int)] ∧ l.length = n ∧ n ≤ c ∧ (c ≤ 9223372036854775807 ∧ n ≤ 1000000 ∧ Bnd l a g) ∧ Rd w bE a l ∧ at' ≤ 8 * n
section
variable {w w' : World} {g : Nat} {l : List UInt8} {p : Nat}
theorem blk_nobyte2 {T : TypeId} {a : Option Addr} {n c : Nat} {x : Int} (h : Blk w g T #[.slice a n c, .int .i64 x]) : ∀ off (z : UInt8), w.cell? ⟨g, off, none⟩ ≠ some (bE z) := by
  intro off z he
  rw [cell_of_row w g off _ T (0, 0) h] at he
  match off, he with
  | 0, he => simp at he
  | 1, he => simp at he
  | off+2, he => simp at he
theorem RdOk.nobyte (h : RdOk w g l p) : ∀ off (z : UInt8), w.cell? ⟨g, off, none⟩ ≠ some (bE z) := by
  obtain ⟨a, n, c, hb, _⟩ := h.ex; exact blk_nobyte2 hb
theorem RdOk.below (h : RdOk w g l p) (hb : Below w.heap.size w w') : RdOk w' g l p := by
  obtain ⟨a, n, c, h1, h2, h3, h4, h5, h6⟩ := h.ex
  exact ⟨a, n, c, h1.below hb, h2, h3, h4, h5.below hb, h6⟩
theorem RdOk.drewN (h : RdOk w g l p) (j : Nat) : RdOk (w.drewN j) g l p := ⟨h.ex⟩
theorem RdOk.len (h : RdOk w g l p) : l.length ≤ 1000000 ∧ p ≤ 8 * l.length := by
  obtain ⟨a, n, c, h1, h2, h3, h4, h5, h6⟩ := h.ex; omega
theorem RdOk.setAt (h : RdOk w g l p) (q : Nat) (hq : q ≤ 8 * l.length) : RdOk (w.setCell ⟨g, 1, none⟩ (.int .i64 (q : Int))) g l q := by
  have hk := keep_of_grown (grownBy_setCell w ⟨g, 1, none⟩ (.int .i64 (q : Int))) h.nobyte
  obtain ⟨a, n, c, h1, h2, h3, h4, h5, h6⟩ := h.ex
  exact ⟨a, n, c, h1.setCell 1 (.int .i64 (q : Int)), h2, h3, h4, h5.keep hk, by omega⟩
theorem RdOk.keep {q : Nat} (h : RdOk w g l p) (hk : ByteKeep w w') (hg : w.grownBy w' (some q)) (hne : g ≠ q) : RdOk w' g l p := by
  obtain ⟨a, n, c, h1, h2, h3, h4, h5, h6⟩ := h.ex
  exact ⟨a, n, c, h1.grown hg (by simpa using hne), h2, h3, h4, h5.keep hk, h6⟩
end

set_option maxRecDepth 100000 in
set_option maxHeartbeats 1000000 in
theorem rdNew_any (a : Option Addr) (n c : Nat) (l : List UInt8) (w : World) (hl : l.length = n) (hn : n ≤ 1000000) (hr : Rd w bE a l) :
  Calls Try.prog 25 #[.slice a n c] w fun e w' => ∃ g, e = .returned (.pointer (some ⟨g, 0, none⟩)) ∧ w.heap.size ≤ g ∧ RdOk w' g l 0 ∧ Below w.heap.size w w' := by
  go_enter Try.func25, Try.ntmps25
  go_wp2_with fail
  refine (clone_any a n c l w hl (by omega) hr).mono ?_
  rintro e w1 ⟨a1, c1, rfl, hown1, hb1⟩
  have hcap := hown1.cap_max
  unfold maxLen at hcap
  have hs1 := hb1.size
  have hfin : RdOk (w1.alloc (.cells #[.slice a1 n c1, .int .i64 0] 102)) w1.heap.size l 0 :=
    ⟨a1, n, c1, Blk.new _ _ _, hl, hown1.le_cap, ⟨by omega, hn, Bnd.of_rd hown1.rd⟩, hown1.rd.below (below_alloc _ _), Nat.zero_le _⟩
  have HF := Lib.hid hfin
  clear hfin hown1
  go_wp2
  go_ret
  exact ⟨_, rfl, hs1, HF.out, hb1.alloc hs1 _⟩

set_option maxRecDepth 100000 in
set_option maxHeartbeats 1000000 in
theorem rdLeft_any (g : Nat) (l : List UInt8) (p : Nat) (w : World) (h : RdOk w g l p) :
  Calls Try.prog 27 #[.pointer (some ⟨g, 0, none⟩)] w fun e w' => e = .returned (.int .i64 (8 * (l.length : Int) - (p : Int))) ∧ ∃ k, w' = w.drewN k := by
  obtain ⟨a, n, c, hb, hl, hnc, hc, hr, hp⟩ := h.ex
  have c0 := hb.cell (i := 0) rfl
  have c1 := hb.cell (i := 1) rfl
  have HL := Lib.hid hl
  clear h hb hr hl
  go_enter Try.func27, Try.ntmps27
  go_wp2
  go_quiet (fail)
  go_wp2
  go_ret
  exact ⟨ret_int (by rw [HL.out]), _, rfl⟩

theorem Blk.drew2 {w : World} {g : Nat} {T : TypeId} {cs : Array Value} (h : Blk w g T cs) : Blk w.drew g T cs := h
/-- The number of five bytes, and the bits of it. -/
theorem get_bits (l : List UInt8) (p k : Nat) (hk : k ≤ 32) : numF (ofL ((l.drop (p / 8)).take 5)) / 2 ^ (p % 8) % 2 ^ k = numF (((ofL l).drop p).take k) := by
  rw [← numF_drop, ← numF_take]
  congr 1
  have e : ofL ((l.drop (p / 8)).take 5) = ((ofL l).drop (8 * (p / 8))).take 40 := by
    apply bits_ext
    · rw [ofL_length, List.length_take, List.length_take, List.length_drop, List.length_drop, ofL_length]; omega
    · intro i
      rw [ofL_bits]
      simp only [List.getD, List.getElem?_take, List.getElem?_drop]
      have h := ofL_bits l (8 * (p / 8) + i)
      simp only [List.getD] at h
      by_cases hi : i < 40
      · rw [if_pos (by omega), if_pos hi, h, show (8 * (p / 8) + i) / 8 = p / 8 + i / 8 from by omega, show (8 * (p / 8) + i) % 8 = i % 8 from by omega]
      · rw [if_neg (by omega), if_neg hi]; simp
  rw [e, List.drop_take, List.drop_drop, List.take_take, show 8 * (p / 8) + p % 8 = p from by omega, Nat.min_eq_left (by omega)]
theorem get_step (S : List UInt8) (j : Nat) (hj : j < S.length) (h5 : S.length ≤ 5) :
    bits .or .u64 ((numF (ofL (S.take j)) : Nat) : Int) (IntKind.u64.wrap (((S[j].toNat : Nat) : Int) * 2 ^ (8 * j))) = ((numF (ofL (S.take (j + 1))) : Nat) : Int) := by
  have hx := S[j].toNat_lt
  have hlt := numF_lt (ofL (S.take j))
  rw [ofL_length, List.length_take, Nat.min_eq_left (by omega)] at hlt
  have hp : (2 : Nat) ^ (8 * j) ≤ 2 ^ 32 := Nat.pow_le_pow_right (by omega) (by omega)
  have hm : S[j].toNat * 2 ^ (8 * j) < 18446744073709551616 := by
    have : S[j].toNat * 2 ^ (8 * j) ≤ 255 * 2 ^ 32 := Nat.mul_le_mul (by omega) hp
    omega
  have e1 : IntKind.u64.wrap (((S[j].toNat : Nat) : Int) * 2 ^ (8 * j)) = ((S[j].toNat * 2 ^ (8 * j) : Nat) : Int) := by
    rw [IntKind.wrap_u64, show ((S[j].toNat : Nat) : Int) * 2 ^ (8 * j) = ((S[j].toNat * 2 ^ (8 * j) : Nat) : Int) from by push_cast; rfl]
    generalize S[j].toNat * 2 ^ (8 * j) = z at hm
    omega
  rw [e1, or64_add' _ _ _ hm hlt (by omega), ofL_take S j hj, numF_append, ofL_length, List.length_take, Nat.min_eq_left (by omega), numF_bitsL, Nat.mod_eq_of_lt (by omega)]
  congr 1
  rw [Nat.mul_comm, Nat.add_comm]

theorem get_val (v p k : Nat) (hk : k ≤ 32) (hp : p < 2 ^ 62) (hv : v < 18446744073709551616) :
    bits .and .u64 ((v : Int) / 2 ^ min (IntKind.u64.wrap (bits .and .i64 (p : Int) 7)).toNat 64) (IntKind.u64.wrap (IntKind.u64.wrap (2 ^ k) - 1)) % 4294967296 = ((v / 2 ^ (p % 8) % 2 ^ k : Nat) : Int) := by
  have hw : IntKind.u64.wrap (bits .and .i64 (p : Int) 7) = ((p % 8 : Nat) : Int) := by
    rw [and7_i64 p hp, IntKind.wrap_u64]; omega
  have hp2 : (2 : Nat) ^ k ≤ 4294967296 := Nat.pow_le_pow_right (n := 2) (by omega) hk
  have hp0 : 0 < (2 : Nat) ^ k := Nat.pow_pos (by omega)
  have e4 : IntKind.u64.wrap (2 ^ k) = ((2 ^ k : Nat) : Int) := by
    rw [show (2 : Int) ^ k = ((2 ^ k : Nat) : Int) from by push_cast; rfl, IntKind.wrap_u64]
    generalize (2 : Nat) ^ k = z at hp2
    omega
  rw [hw, Int.toNat_natCast, Nat.min_eq_left (by omega), e4]
  have e5 : IntKind.u64.wrap (((2 ^ k : Nat) : Int) - 1) = ((2 ^ k - 1 : Nat) : Int) := by
    rw [IntKind.wrap_u64]
    generalize (2 : Nat) ^ k = z at hp2 hp0
    omega
  have hle : v / 2 ^ (p % 8) ≤ v := Nat.div_le_self _ _
  rw [e5, show (v : Int) / 2 ^ (p % 8) = ((v / 2 ^ (p % 8) : Nat) : Int) from by push_cast; rfl, u64_and_nat _ _ (by omega) (by omega), Nat.and_two_pow_sub_one_eq_mod]
  have hmod := Nat.mod_lt (v / 2 ^ (p % 8)) hp0
  generalize v / 2 ^ (p % 8) % 2 ^ k = x at hmod
  omega

def rdGetEr (l : List UInt8) (p : Nat) (m : Int) : Int := if m < 0 ∨ m > 32 then 1 else if m > 8 * (l.length : Int) - p then 6 else 0
def rdGetV (l : List UInt8) (p : Nat) (m : Int) : Nat := if rdGetEr l p m = 0 then numF (((ofL l).drop p).take m.toNat) else 0
def rdGetAt (l : List UInt8) (p : Nat) (m : Int) : Nat := if rdGetEr l p m = 0 then p + m.toNat else p
def RdGetPost (w : World) (g : Nat) (l : List UInt8) (p : Nat) (m : Int) (e : Ending) (w' : World) : Prop :=
  e = .returned (.tuple #[.int .u32 ((rdGetV l p m : Nat) : Int), .int .i64 (rdGetEr l p m)]) ∧ RdOk w' g l (rdGetAt l p m) ∧ w.grownBy w' (some g)
set_option maxRecDepth 100000 in
set_option maxHeartbeats 4000000 in
theorem rdGet_any (g : Nat) (l : List UInt8) (p : Nat) (m : Int) (w : World) (h : RdOk w g l p) (hm1 : -9223372036854775808 ≤ m) (hm2 : m ≤ 9223372036854775807) :
  Calls Try.prog 84 #[.pointer (some ⟨g, 0, none⟩), .int .i64 m] w (RdGetPost w g l p m) := by
  have hlen := h.len
  by_cases hbad : m < 0 ∨ m > 32
  · have e1 : rdGetEr l p m = 1 := by unfold rdGetEr; rw [if_pos hbad]
    have HF : Hid (RdGetPost w g l p m (.returned (.tuple #[.int .u32 0, .int .i64 1])) w) := Lib.hid ⟨by unfold rdGetV; rw [e1]; rfl, by unfold rdGetAt; rw [e1]; exact h, World.grownBy.refl _ _⟩
    clear h e1
    go_enter Try.func84, Try.ntmps84
    by_cases hneg : m < 0
    · go_wp2
      go_ret2
      exact HF.out
    · have hbig : m > 32 := by omega
      go_wp2
      go_ret2
      exact HF.out
  · obtain ⟨k, rfl⟩ := Int.eq_ofNat_of_zero_le (show 0 ≤ m by omega)
    have hk : k ≤ 32 := by omega
    by_cases hlong : (k : Int) > 8 * (l.length : Int) - p
    · have e1 : rdGetEr l p k = 6 := by unfold rdGetEr; rw [if_neg hbad, if_pos hlong]
      have hL := rdLeft_any g l p w h
      have HF : Hid (∀ kd, RdGetPost w g l p k (.returned (.tuple #[.int .u32 0, .int .i64 6])) (w.drewN kd)) := Lib.hid fun kd => ⟨by unfold rdGetV; rw [e1]; rfl, by unfold rdGetAt; rw [e1]; exact h.drewN kd, grownBy_of_below _ (below_drewN _ _ kd)⟩
      clear h e1
      go_enter Try.func84, Try.ntmps84
      go_wp2_with fail
      refine hL.mono ?_
      rintro e w' ⟨rfl, kd, rfl⟩
      clear hL
      go_wp2
      go_ret2
      exact HF.out kd
    · have e1 : rdGetEr l p k = 0 := by unfold rdGetEr; rw [if_neg hbad, if_neg hlong]
      have hL := rdLeft_any g l p w h
      have hbits := get_bits l p k hk
      have HE : Hid (rdGetV l p k = numF (((ofL l).drop p).take k) ∧ rdGetAt l p k = p + k ∧ rdGetEr l p k = 0) := Lib.hid ⟨by unfold rdGetV; rw [if_pos e1, Int.toNat_natCast], by unfold rdGetAt; rw [if_pos e1, Int.toNat_natCast], e1⟩
      have H := Lib.hid h
      obtain ⟨a, n, c, hb, hl, hnc, hc, hr, hp⟩ := h.ex
      have hlong2 : ¬ (k : Int) > 8 * (n : Int) - p := by omega
      obtain ⟨q, hq⟩ : ∃ q, p / 8 = q := ⟨_, rfl⟩
      rw [hq] at hbits
      have hqi : (p : Int) / 8 = (q : Int) := by omega
      have hqn : q ≤ n := by omega
      have HR := Lib.hid hr
      have HB := Lib.hid hbits
      have HL := Lib.hid hl
      have HQ := Lib.hid hq
      clear h e1 hr hbits hq
      go_enter Try.func84, Try.ntmps84
      go_wp2_with fail
      refine hL.mono ?_
      rintro e w' ⟨rfl, kd, rfl⟩
      rw [hl]
      have hbk : Blk (w.drewN kd) g 102 #[.slice a n c, .int .i64 (p : Int)] := hb
      have c0 := hbk.cell (i := 0) rfl
      have c1 := hbk.cell (i := 1) rfl
      have f1 := hbk.frozen 1
      clear hL hb hl
      obtain ⟨r, hrr⟩ : ∃ r, min 5 (n - q) = r := ⟨_, rfl⟩
      obtain ⟨Y, hY, hYr⟩ : ∃ Y : Int, (∀ w, (Builtin.min_ #[3, 3] 3 #[.int .i64 ((q : Int) + 5), .int .i64 (n : Int)]).run Try.prog w = .ok (.int .i64 Y) w) ∧ Y = ((q + r : Nat) : Int) := by
        refine ⟨((q + r : Nat) : Int), fun w => ?_, rfl⟩
        simp [Builtin.min_, Builtin.min2]
        split <;> omega
      have hsl := fun w => run_slice_lh1 slByte a n c q (q + r) (by omega) (by omega) (q : Int) Y rfl hYr w
      rw [Nat.add_sub_cancel_left] at hsl
      have hSr : Rd w bE (slP a c q) ((l.drop q).take 5) := (HR.out.slP q c (by rw [HL.out]; exact hnc)).take 5
      have hSl : ((l.drop q).take 5).length = r := by rw [List.length_take, List.length_drop, HL.out]; exact hrr
      have hr5 : r ≤ 5 := by omega
      generalize slP a c q = PP at hsl hSr
      have HMIN := Lib.hid hY
      have HSL := Lib.hid hsl
      have HSR := Lib.hid hSr
      have HSN := Lib.hid hSl
      clear hY hsl hSr hSl hYr hrr
      go_wp2_with fail
      refine wp_region_grow (by kernel_rfl) (by kernel_rfl) (by rfl) ?_
      apply gw_val
      · intro a' w' hk
        refine ⟨wanted_none rfl, ?_⟩
        simp [Oper.looksAt, Op.operands, Call.operands, KnownAt, List.lookup, consD] at hk
        simp [execOp, Act.eval, hk, go_sem]
        all_goals rfl
      apply gw_val
      · intro a' w' hk
        refine ⟨wanted_none rfl, ?_⟩
        simp [Oper.looksAt, Op.operands, Call.operands, KnownAt, List.lookup, consD] at hk
        simp [execOp, Act.eval, hk, go_sem]
        all_goals rfl
      apply gw_val
      · intro a' w' hk
        refine ⟨wanted_none rfl, ?_⟩
        simp [Oper.looksAt, Op.operands, Call.operands, KnownAt, List.lookup, consD] at hk
        simp [execOp, Act.eval, hk, go_sem]
        all_goals rfl
      refine gw_valB (fun v _ => v = .slice a n c) (mono_eq _) ?_ ?_
      · intro a' w' hb' hk
        refine ⟨wanted_none rfl, _, ?_, rfl⟩
        have hc := ((Blk.drew2 hbk).below hb').cell (i := 0) rfl
        simp [Oper.looksAt, Op.operands, Call.operands, KnownAt, List.lookup, consD] at hk
        simp [execOp, Act.eval, hk, hc, go_sem]
        all_goals rfl
      apply gw_val
      · intro a' w' hk
        refine ⟨wanted_none rfl, ?_⟩
        simp [Oper.looksAt, Op.operands, Call.operands, KnownAt, List.lookup, consD] at hk
        simp [execOp, Act.eval, hk, go_sem]
        all_goals rfl
      apply gw_val
      · intro a' w' hk
        refine ⟨wanted_none rfl, ?_⟩
        simp [Oper.looksAt, Op.operands, Call.operands, KnownAt, List.lookup, consD] at hk
        simp [execOp, Act.eval, hk, go_sem]
        all_goals rfl
      refine gw_val (.int .i64 ((q : Int) + 5)) ?_ ?_
      · intro a' w' hk
        refine ⟨wanted_none rfl, ?_⟩
        simp [Oper.looksAt, Op.operands, Call.operands, KnownAt, List.lookup, consD] at hk
        have hw5 : IntKind.i64.wrap ((q : Int) + 5) = (q : Int) + 5 := IntWalk.i64_in _ (by omega)
        simp [execOp, Act.eval, hk, go_sem, hw5]
        all_goals rfl
      apply gw_val
      · intro a' w' hk
        refine ⟨wanted_none rfl, ?_⟩
        simp [Oper.looksAt, Op.operands, Call.operands, KnownAt, List.lookup, consD] at hk
        simp [execOp, Act.eval, hk, go_sem]
        all_goals rfl
      apply gw_val
      · intro a' w' hk
        refine ⟨wanted_none rfl, ?_⟩
        simp [Oper.looksAt, Op.operands, Call.operands, KnownAt, List.lookup, consD] at hk
        simp [execOp, Act.eval, hk, go_sem]
        all_goals rfl
      apply gw_val
      · intro a' w' hk
        refine ⟨wanted_none rfl, ?_⟩
        simp [Oper.looksAt, Op.operands, Call.operands, KnownAt, List.lookup, consD] at hk
        simp [execOp, Act.eval, hk, go_sem]
        all_goals rfl
      refine gw_valB (fun v _ => v = .slice a n c) (mono_eq _) ?_ ?_
      · intro a' w' hb' hk
        refine ⟨wanted_none rfl, _, ?_, rfl⟩
        have hc := ((Blk.drew2 hbk).below hb').cell (i := 0) rfl
        simp [Oper.looksAt, Op.operands, Call.operands, KnownAt, List.lookup, consD] at hk
        simp [execOp, Act.eval, hk, hc, go_sem]
        all_goals rfl
      apply gw_val
      · intro a' w' hk
        refine ⟨wanted_none rfl, ?_⟩
        simp [Oper.looksAt, Op.operands, Call.operands, KnownAt, List.lookup, consD] at hk
        simp [execOp, Act.eval, hk, go_sem]
        all_goals rfl
      refine gw_val (.int .i64 Y) ?_ ?_
      · intro a' w' hk
        refine ⟨wanted_none rfl, ?_⟩
        simp [Oper.looksAt, Op.operands, Call.operands, KnownAt, List.lookup, consD] at hk
        have hmin := HMIN.out w'
        simp [execOp, Act.eval, hk, go_sem, hmin]
        all_goals rfl
      refine gw_val (.slice PP r (c - q)) ?_ ?_
      · intro a' w' hk
        refine ⟨wanted_none rfl, ?_⟩
        simp [Oper.looksAt, Op.operands, Call.operands, KnownAt, List.lookup, consD] at hk
        have hsl := HSL.out w'
        simp [execOp, Act.eval, hk, go_sem, hsl]
        all_goals rfl
      apply gw_val
      · intro a' w' hk
        refine ⟨wanted_none rfl, ?_⟩
        simp [Oper.looksAt, Op.operands, Call.operands, KnownAt, List.lookup, consD] at hk
        simp [execOp, Act.eval, hk, go_sem]
        all_goals rfl
      apply gw_val
      · intro a' w' hk
        refine ⟨wanted_none rfl, ?_⟩
        simp [Oper.looksAt, Op.operands, Call.operands, KnownAt, List.lookup, consD] at hk
        simp [execOp, Act.eval, hk, go_sem]
        all_goals rfl
      intro vs w' hb' hall
      simp only [AllS, consD] at hall
      simp only [consD, putAllS, Act.put]
      obtain ⟨h46, h45, h44, -⟩ := hall
      rw [h46, h45, h44]
      simp only [List.setIfInBounds_toArray, List.set_cons_succ, List.set_cons_zero]
      have hB' : Below w.heap.size w w' := (((below_drewN w w.heap.size kd)).drew).trans hb'
      have hbk2 := (Blk.drew2 hbk).below hb'
      have c0 := hbk2.cell (i := 0) rfl
      have c1 := hbk2.cell (i := 1) rfl
      have f1 := hbk2.frozen 1
      have hrd := HSR.out.below hB'
      have HB' := Lib.hid hB'
      clear hb' hbk hbk2 hB' h46 h45 h44 HMIN HSL
      obtain ⟨SS, hSS⟩ : ∃ SS, (l.drop q).take 5 = SS := ⟨_, rfl⟩
      rw [hSS] at hrd HSN HB
      clear hSS HSR
      go_wp2
      go_loop [6, 46] (fun v i => ∃ j : Nat, j ≤ r ∧ i = .int .i64 j ∧ v = .int .u64 ((numF (ofL (SS.take j)) : Nat) : Int)) (fun _ i => r - (intOf i).toNat)
      case atStart => exact ⟨0, by omega, rfl, rfl⟩
      case round =>
        obtain ⟨j, hj, rfl, rfl⟩ := hrel
        by_cases hlt : j < r
        · obtain ⟨b, off, rfl, -, hcx⟩ := hrd.at (k := j) (by rw [HSN.out]; exact hlt)
          have hcl : j < SS.length := by rw [HSN.out]; exact hlt
          have hst := get_step SS j hcl (by rw [HSN.out]; exact hr5)
          have hv64 : numF (ofL (SS.take j)) < 2 ^ 64 := by
            have h1 := numF_lt (ofL (SS.take j))
            have h2 : (ofL (SS.take j)).length ≤ 64 := by rw [ofL_length, List.length_take, HSN.out]; omega
            exact Nat.lt_of_lt_of_le h1 (Nat.pow_le_pow_right (by omega) h2)
          have HST := Lib.hid hst
          clear hst
          generalize numF (ofL (SS.take j)) = v at HST hv64 ⊢
          have hx := SS[j].toNat_lt
          generalize SS[j] = x at hcx HST hx
          have hx2 : (x.toNat : Int) < 256 := by omega
          have hrd2 := Lib.hid hrd
          clear hrd
          go_wp2
          go_round
          case rel => exact ⟨j + 1, by omega, by go_num, by rw [← HST.out]⟩
          case measure => simp [intOf]; omega
        · have hj' : r = j := by omega
          subst hj'
          rw [List.take_of_length_le (by rw [HSN.out]; exact Nat.le_refl _)]
          clear hrd
          have hv64 : numF (ofL SS) < 18446744073709551616 := by
            have h1 := numF_lt (ofL SS)
            have h2 : (ofL SS).length ≤ 40 := by rw [ofL_length, HSN.out]; omega
            have h3 : 2 ^ (ofL SS).length ≤ 2 ^ 40 := Nat.pow_le_pow_right (by omega) h2
            omega
          have hval := get_val (numF (ofL SS)) p k hk (by omega) hv64
          rw [HB.out] at hval
          generalize numF (ofL SS) = v at hval hv64 ⊢
          have HVAL := Lib.hid hval
          clear HB hval
          go_wp2
          go_ret2
          have hat := (H.out.below HB'.out).setAt (p + k) (by omega)
          rw [show ((p + k : Nat) : Int) = (p : Int) + (k : Int) from by omega] at hat
          obtain ⟨x1, x2, x3⟩ := HE.out
          exact ⟨by rw [x1, x3, ← HVAL.out]; rfl, by rw [x2]; exact hat, grownBy_trans (grownBy_of_below _ HB'.out) (grownBy_setCell _ ⟨g, 1, none⟩ _)⟩
end Go.Proofs.Ytgcdeadfkljeaaa
