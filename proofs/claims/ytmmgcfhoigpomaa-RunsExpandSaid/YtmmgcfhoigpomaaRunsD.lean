/- runs.Expand. -/
import Derived.Test.YtmmgcfhoigpomaaRunsC
import Derived.Test.YtmmgcfhoigpomaaOpenS
import Derived.Test.YtmmgcfhoigpomaaGrowM
namespace Go.Proofs.Ytmmgcfhoigpomaa
open Go.RowKit
set_option linter.unusedVariables false
set_option linter.unusedSimpArgs false

theorem leastOf_le (s : Int) : 1 ≤ leastOf s ∧ leastOf s ≤ 11 := by unfold leastOf; split; omega; split <;> omega
/-- Pairs of numbers. -/
def RdP (w : World) (a : Option Addr) (n : Nat) (ps : List (Int × Int)) : Prop :=
  ps.length = n ∧ ∃ F, RdN w a n 2 F ∧ ∀ i (h : i < ps.length), F i 0 = .int .i64 ps[i].1 ∧ F i 1 = .int .i64 ps[i].2
theorem RdP.below {w w' : World} {a : Option Addr} {n : Nat} {ps : List (Int × Int)} (h : RdP w a n ps) (hb : Below w.heap.size w w') : RdP w' a n ps := by
  obtain ⟨h1, F, h2, h3⟩ := h
  exact ⟨h1, F, h2.below hb, h3⟩
theorem RdP.later {w0 w : World} {a : Option Addr} {n : Nat} {ps : List (Int × Int)} (h : RdP w0 a n ps) (hb : Below w0.heap.size w0 w) : RdP w a n ps := h.below hb
theorem RdP.at {w : World} {a : Option Addr} {n : Nat} {ps : List (Int × Int)} (h : RdP w a n ps) {i : Nat} (hi : i < ps.length) :
    ∃ b off, a = some ⟨b, off, none⟩ ∧ w.cell? ⟨b, off + i * 2, none⟩ = some (.int .i64 ps[i].1) ∧ w.cell? ⟨b, off + i * 2 + 1, none⟩ = some (.int .i64 ps[i].2) := by
  obtain ⟨h1, F, h2, h3⟩ := h
  obtain ⟨b, off, rfl, hc⟩ := h2.at (i := i) (by omega)
  have e := h3 i hi
  refine ⟨b, off, rfl, ?_, ?_⟩
  · have := hc 0 (by omega); rw [e.1] at this; exact this
  · have := hc 1 (by omega); rw [e.2, ← Nat.add_assoc] at this; exact this
def whatOf (out : List Int) (s : Int) : Int := if s = 16 then out.getLastD 0 else if 16 < s then 0 else s
def timesOf (s m : Int) : Nat := leastOf s + m.toNat
/-- What runs stand for, behind out: the error, the lengths. -/
def expGo : List (Int × Int) → List Int → Int × List Int
  | [], out => (0, out)
  | p :: r, out => if rightB p.1 p.2 = false then (5, []) else if p.1 = 16 ∧ out.length = 0 then (2, []) else if (timesOf p.1 p.2 : Int) > 320 - out.length then (4, []) else expGo r (out ++ List.replicate (timesOf p.1 p.2) (whatOf out p.1))
def ExpPost (w : World) (ps : List (Int × Int)) (e : Ending) (w' : World) : Prop :=
  ∃ a n c, e = .returned (.tuple #[.slice a n c, .int .i64 (expGo ps []).1]) ∧ (expGo ps []).2.length = n ∧ n ≤ 320 ∧ Rd w' iR a (expGo ps []).2 ∧ Below w.heap.size w w'
theorem expPost_bad {w w' : World} {ps : List (Int × Int)} {x : Int} (h : expGo ps [] = (x, [])) (hB : Below w.heap.size w w') : ExpPost w ps (.returned (.tuple #[.slice none 0 0, .int .i64 x])) w' := by
  exact ⟨none, 0, 0, by rw [h], by rw [h]; rfl, by omega, by rw [h]; exact Rd.nil, hB⟩
theorem expPost_ok {w w' : World} {ps : List (Int × Int)} {a : Option Addr} {n c : Nat} {out : List Int} (h : expGo ps [] = (0, out)) (hl : out.length = n) (hn : n ≤ 320) (hr : Rd w' iR a out) (hB : Below w.heap.size w w') : ExpPost w ps (.returned (.tuple #[.slice a n c, .int .i64 0])) w' := by
  exact ⟨a, n, c, by rw [h], by rw [h]; exact hl, hn, by rw [h]; exact hr, hB⟩
theorem rightB_range {s m : Int} (h : rightB s m = true) : 0 ≤ s ∧ s ≤ 18 ∧ 0 ≤ m ∧ m < 128 := by
  unfold rightB at h
  simp only [Bool.and_eq_true, decide_eq_true_eq] at h
  obtain ⟨⟨⟨h1, h2⟩, h3⟩, h4⟩ := h
  refine ⟨h1, h2, h3, ?_⟩
  have hb := bitsOf_le s
  have hp : (2 : Int) ^ bitsOf s ≤ 2 ^ 7 := by
    have := Nat.pow_le_pow_right (show 0 < 2 by omega) hb
    have h2 : ((2 ^ bitsOf s : Nat) : Int) ≤ ((2 ^ 7 : Nat) : Int) := Int.ofNat_le.2 this
    rw [Int.natCast_pow, Int.natCast_pow] at h2
    exact h2
  have hpos : (0 : Int) < 2 ^ bitsOf s := Int.pow_pos (by omega)
  by_cases hlt : m < 128
  · exact hlt
  · have : m / 2 ^ bitsOf s ≥ 1 := by
      have h7 : (2 : Int) ^ bitsOf s ≤ m := Int.le_trans hp (by omega)
      exact (Int.le_ediv_iff_mul_le hpos).2 (by omega)
    omega
theorem last_of {out : List Int} {q : Nat} {y : Int} (h : out.length = q + 1) (hy : out[q]? = some y) : out.getLastD 0 = y := by
  rw [List.getLastD_eq_getLast?, List.getLast?_eq_getElem?, h, Nat.add_sub_cancel, hy]; rfl
set_option maxRecDepth 100000 in
set_option maxHeartbeats 16000000 in
theorem runExpand_any (a : Option Addr) (n c : Nat) (ps : List (Int × Int)) (w : World) (hn : n ≤ 1000000) (hp : RdP w a n ps) (hi : ∀ p ∈ ps, (-9223372036854775808 ≤ p.1 ∧ p.1 ≤ 9223372036854775807) ∧ (-9223372036854775808 ≤ p.2 ∧ p.2 ≤ 9223372036854775807)) :
  Calls Try.prog 49 #[.slice a n c] w (ExpPost w ps) := by
  have HL := Lib.hid hp.1
  have HP := Lib.hid hp
  have HI := Lib.hid hi
  clear hp hi
  go_enter Try.func49, Try.ntmps49
  go_wp2
  go_loopw [4, 11] (fun xo xi wr => ∃ (k n' c' : Nat) (a' : Option Addr) (out : List Int), k ≤ n ∧ xi = .int .i64 k ∧ xo = .slice a' n' c' ∧ n' ≤ 320 ∧ Own wr w.heap.size 3 iR a' n' c' out ∧ expGo (ps.drop k) out = expGo ps [] ∧ Below w.heap.size w wr) (fun _ xi _ => n - (intOf xi).toNat)
  case atStart => exact ⟨0, 0, 0, none, [], by omega, rfl, rfl, by omega, Own.nil, by rw [List.drop_zero], Below.refl _ _⟩
  case round =>
    obtain ⟨k, n', c', a', out, hk, rfl, rfl, hn', hown, hrun, hB⟩ := hrel
    by_cases hlt : k < n
    · have hkl : k < ps.length := by rw [HL.out]; exact hlt
      obtain ⟨b, off, rfl, hc0, hc1⟩ := (HP.out.later hB).at hkl
      have hii := HI.out ps[k] (List.getElem_mem hkl)
      rw [List.drop_eq_getElem_cons hkl, expGo] at hrun
      have HRUN := Lib.hid hrun
      clear hrun
      generalize ps[k] = p at hc0 hc1 hii HRUN
      obtain ⟨s, m⟩ := p
      simp only at hc0 hc1 hii HRUN
      have hblk := Blk.new wr 74 #[.int .i64 s, .int .i64 m]
      have hB1 := hB.alloc hB.size (.cells #[.int .i64 s, .int .i64 m] 74)
      have hown1 := hown.alloc (.cells #[.int .i64 s, .int .i64 m] 74)
      have HB := Lib.hid (And.intro hblk (And.intro hown1 hB1))
      clear hblk hown1 hB1 hown hB
      obtain ⟨q, hq⟩ : ∃ q, q = wr.heap.size := ⟨_, rfl⟩
      go_wp2_with fail
      clear hc0 hc1
      rw [← hq] at HB ⊢
      clear hq
      generalize wr.alloc (.cells #[.int .i64 s, .int .i64 m] 74) = w1 at HB ⊢
      obtain ⟨hblk, hown, hB⟩ := HB.out
      clear HB
      have hd0 := hblk.cell (i := 0) rfl
      have hd1 := hblk.cell (i := 1) rfl
      refine (runRight_any s m w1 hii.1 hii.2).mono ?_
      rintro e w2 ⟨rfl, hBR⟩
      have hblk2 := hblk.below hBR
      have hown2 := hown.below hBR
      have hB2 := hB.trans (hBR.mono hB.size)
      clear hblk hown hB hBR hd0 hd1
      have hd0 := hblk2.cell (i := 0) rfl
      have hd1 := hblk2.cell (i := 1) rfl
      by_cases hr : rightB s m = true
      · rw [hr]
        have hrun := HRUN.out
        rw [if_neg (by rw [hr]; simp)] at hrun
        have hrg := rightB_range hr
        have hlen := hown2.len
        have hle := leastOf_le s
        have htm : (timesOf s m : Int) = ((leastOf s : Nat) : Int) + m := by unfold timesOf; push_cast; omega
        clear HRUN hr
        by_cases h16 : s = 16
        · by_cases h0 : n' = 0
          · have HF := Lib.hid (expPost_bad (w := w) (ps := ps) (by rw [← hrun, if_pos ⟨h16, by omega⟩]) hB2)
            have h16' : (s == 16) = true := beq_iff_eq.2 h16
            have h0' : ((n' : Int) == 0) = true := beq_iff_eq.2 (by omega)
            clear hrun h16 hown2 hlen htm
            go_wp2
            go_ret2
            exact HF.out
          · rw [if_neg (by omega)] at hrun
            obtain ⟨q', rfl⟩ : ∃ q', n' = q' + 1 := ⟨n' - 1, by omega⟩
            obtain ⟨g, y, rfl, -, -, hy, hcy, -⟩ := hown2.at (i := q') (by omega)
            have hwhat : whatOf out s = y := by unfold whatOf; rw [if_pos h16]; exact last_of hlen hy
            rw [hwhat] at hrun
            have h16' : (s == 16) = true := beq_iff_eq.2 h16
            have h0' : (((q' : Int) + 1) == 0) = false := beq_eq_false_iff_ne.2 (by omega)
            unfold iR at hcy
            clear hwhat hy h16 h0
            rw [hlen] at hrun
            have HRUN := Lib.hid hrun
            have HT := Lib.hid htm
            have HLEN := Lib.hid hlen
            clear hrun htm hlen
            go_wp2_with fail
            clear hcy
            have HC := Lib.hid (And.intro hd0 hd1)
            clear hd0 hd1
            refine wp_region_grow (by kernel_rfl) (by kernel_rfl) (by rfl) ?_
            apply gw_val
            · intro a' w' hk
              refine ⟨wanted_none rfl, ?_⟩
              simp [Oper.looksAt, Op.operands, Call.operands, KnownAt, List.lookup, consD] at hk
              simp [execOp, Act.eval, hk, go_sem]
              all_goals rfl
            refine gw_valB (fun x _ => x = .int .i64 s) (mono_eq _) ?_ ?_
            · intro a' w' hb' hk
              refine ⟨wanted_none rfl, _, ?_, rfl⟩
              have hq := cell_later2 HC.out.1 hb'
              simp [Oper.looksAt, Op.operands, Call.operands, KnownAt, List.lookup, consD] at hk
              simp [execOp, Act.eval, hk, hq, go_sem]
              all_goals rfl
            refine gw_call _ #[.int .i64 s] (fun x _ => x = .int .i64 ((leastOf s : Nat) : Int)) (mono_eq _) (fun a' w' hk => ?_) (fun w' hb => (least_any s w').mono ?_) ?_
            · refine ⟨wanted_none rfl, ?_⟩
              simp [Oper.looksAt, Op.operands, Call.operands, KnownAt, List.lookup, consD] at hk
              simp [execOp, Act.eval, hk, go_sem]
              all_goals rfl
            · rintro e w'' ⟨rfl, rfl⟩
              exact ⟨_, rfl, rfl, Below.refl _ _⟩
            apply gw_val
            · intro a' w' hk
              refine ⟨wanted_none rfl, ?_⟩
              simp [Oper.looksAt, Op.operands, Call.operands, KnownAt, List.lookup, consD] at hk
              simp [execOp, Act.eval, hk, go_sem]
              all_goals rfl
            refine gw_valB (fun x _ => x = .int .i64 m) (mono_eq _) ?_ ?_
            · intro a' w' hb' hk
              refine ⟨wanted_none rfl, _, ?_, rfl⟩
              have hq := cell_later2 HC.out.2 hb'
              simp [Oper.looksAt, Op.operands, Call.operands, KnownAt, List.lookup, consD] at hk
              simp [execOp, Act.eval, hk, hq, go_sem]
              all_goals rfl
            apply gw_val
            · intro a' w' hk
              refine ⟨wanted_none rfl, ?_⟩
              simp [Oper.looksAt, Op.operands, Call.operands, KnownAt, List.lookup, consD] at hk
              have hw : IntKind.i64.wrap (((leastOf s : Nat) : Int) + m) = ((leastOf s : Nat) : Int) + m := IntWalk.i64_in _ (by have := leastOf_le s; omega)
              simp [execOp, Act.eval, hk, go_sem, hw]
              all_goals first | rfl | omega
            apply gw_val
            · intro a' w' hk
              refine ⟨wanted_none rfl, ?_⟩
              simp [Oper.looksAt, Op.operands, Call.operands, KnownAt, List.lookup, consD] at hk
              simp [execOp, Act.eval, hk, go_sem]
              all_goals rfl
            intro vs w3 hb3 hall
            simp only [AllS, consD] at hall
            simp only [consD, putAllS, Act.put]
            obtain ⟨h9, -⟩ := hall
            rw [h9]
            simp only [List.setIfInBounds_toArray, List.set_cons_succ, List.set_cons_zero]
            have hb3' : Below w2.heap.size w2 w3 := ((Below.refl w2.heap.size w2).drew).trans hb3
            have hown3 := hown2.below hb3'
            have hB3 := hB2.trans (hb3'.mono hB2.size)
            have hblk3 := hblk2.below hb3'
            clear h9 hb3 hb3' hown2 hB2 hblk2 HC
            obtain ⟨ls, hls⟩ : ∃ ls, leastOf s = ls := ⟨_, rfl⟩
            rw [hls] at HT hle ⊢
            clear hls
            by_cases hmany : (ls : Int) + m > 320 - (((q' : Int) + 1) : Int)
            · have HF := Lib.hid (expPost_bad (w := w) (ps := ps) (by rw [← HRUN.out, if_pos (by rw [HT.out]; push_cast; omega)]) hB3)
              clear HRUN hown3
              go_wp2
              go_ret2
              exact HF.out
            · obtain ⟨mm, rfl⟩ := Int.eq_ofNat_of_zero_le hrg.2.2.1
              have htt : timesOf s (mm : Int) = ls + mm := by have := HT.out; omega
              have hrun := HRUN.out
              rw [if_neg (by rw [HT.out]; push_cast; omega), htt] at hrun
              have HR2 := Lib.hid hrun
              clear HRUN HT htt hrun
              go_wp2_with fail
              have hsz3 := hB3.size
              have hcx : (w3.alloc (.cells #[.int .i64 y] 3)).cell? ⟨w3.heap.size, 0, none⟩ = some (.int .i64 y) := cell_push rfl _ _
              have hown4 := hown3.alloc (.cells #[.int .i64 y] 3)
              have hB4 := hB3.alloc hB3.size (.cells #[.int .i64 y] 3)
              have hw4s : w.heap.size ≤ (w3.alloc (.cells #[.int .i64 y] 3)).heap.size := hB4.size
              have hcast : ((ls : Int) + (mm : Int)) = ((ls + mm : Nat) : Int) := by push_cast; rfl
              rw [hcast]
              refine (repeat_any w3.heap.size y (ls + mm) _ (by omega) hcx).mono ?_
              rintro e w5 ⟨a5, rfl, hown5, hb5⟩
              have hownO := hown4.below hb5
              have hB5 := hB4.trans (hb5.mono hw4s)
              have hrd5 := hown5.rd
              have hsz5 := hB5.size
              clear hown3 hB3 hcx hown4 hB4 hw4s hown5 hb5 hcast
              go_wp2_with (at_builtin; refine wpList_cat slIR rfl _ _ rfl rfl hownO rfl (List.length_replicate) hrd5 (fun v hv => rfl) (by omega) (by unfold maxLen; omega) hsz5 ?_; intro a6 c6 w6 hown6 hg6 _ _; have hB6 := hownO.step hB5 hg6 hsz5; clear hownO hB5 hg6 hrd5)
              go_roundw
              case rel => exact ⟨k + 1, _, c6, a6, _, by omega, by go_num, rfl, by omega, hown6, HR2.out, hB6⟩
              case measure => simp [intOf]; omega
        · rw [if_neg (by omega)] at hrun
          have h16' : (s == 16) = false := beq_eq_false_iff_ne.2 h16
          rw [hlen] at hrun
          by_cases hgt : 16 < s
          · have hwhat : whatOf out s = 0 := by unfold whatOf; rw [if_neg h16, if_pos hgt]
            rw [hwhat] at hrun
            clear hwhat h16
            have HRUN := Lib.hid hrun
            have HT := Lib.hid htm
            have HLEN := Lib.hid hlen
            clear hrun htm hlen
            go_wp2_with fail
            have HC := Lib.hid (And.intro hd0 hd1)
            clear hd0 hd1
            refine wp_region_grow (by kernel_rfl) (by kernel_rfl) (by rfl) ?_
            apply gw_val
            · intro a' w' hk
              refine ⟨wanted_none rfl, ?_⟩
              simp [Oper.looksAt, Op.operands, Call.operands, KnownAt, List.lookup, consD] at hk
              simp [execOp, Act.eval, hk, go_sem]
              all_goals rfl
            refine gw_valB (fun x _ => x = .int .i64 s) (mono_eq _) ?_ ?_
            · intro a' w' hb' hk
              refine ⟨wanted_none rfl, _, ?_, rfl⟩
              have hq := cell_later2 HC.out.1 hb'
              simp [Oper.looksAt, Op.operands, Call.operands, KnownAt, List.lookup, consD] at hk
              simp [execOp, Act.eval, hk, hq, go_sem]
              all_goals rfl
            refine gw_call _ #[.int .i64 s] (fun x _ => x = .int .i64 ((leastOf s : Nat) : Int)) (mono_eq _) (fun a' w' hk => ?_) (fun w' hb => (least_any s w').mono ?_) ?_
            · refine ⟨wanted_none rfl, ?_⟩
              simp [Oper.looksAt, Op.operands, Call.operands, KnownAt, List.lookup, consD] at hk
              simp [execOp, Act.eval, hk, go_sem]
              all_goals rfl
            · rintro e w'' ⟨rfl, rfl⟩
              exact ⟨_, rfl, rfl, Below.refl _ _⟩
            apply gw_val
            · intro a' w' hk
              refine ⟨wanted_none rfl, ?_⟩
              simp [Oper.looksAt, Op.operands, Call.operands, KnownAt, List.lookup, consD] at hk
              simp [execOp, Act.eval, hk, go_sem]
              all_goals rfl
            refine gw_valB (fun x _ => x = .int .i64 m) (mono_eq _) ?_ ?_
            · intro a' w' hb' hk
              refine ⟨wanted_none rfl, _, ?_, rfl⟩
              have hq := cell_later2 HC.out.2 hb'
              simp [Oper.looksAt, Op.operands, Call.operands, KnownAt, List.lookup, consD] at hk
              simp [execOp, Act.eval, hk, hq, go_sem]
              all_goals rfl
            apply gw_val
            · intro a' w' hk
              refine ⟨wanted_none rfl, ?_⟩
              simp [Oper.looksAt, Op.operands, Call.operands, KnownAt, List.lookup, consD] at hk
              have hw : IntKind.i64.wrap (((leastOf s : Nat) : Int) + m) = ((leastOf s : Nat) : Int) + m := IntWalk.i64_in _ (by have := leastOf_le s; omega)
              simp [execOp, Act.eval, hk, go_sem, hw]
              all_goals first | rfl | omega
            apply gw_val
            · intro a' w' hk
              refine ⟨wanted_none rfl, ?_⟩
              simp [Oper.looksAt, Op.operands, Call.operands, KnownAt, List.lookup, consD] at hk
              simp [execOp, Act.eval, hk, go_sem]
              all_goals rfl
            intro vs w3 hb3 hall
            simp only [AllS, consD] at hall
            simp only [consD, putAllS, Act.put]
            obtain ⟨h9, -⟩ := hall
            rw [h9]
            simp only [List.setIfInBounds_toArray, List.set_cons_succ, List.set_cons_zero]
            have hb3' : Below w2.heap.size w2 w3 := ((Below.refl w2.heap.size w2).drew).trans hb3
            have hown3 := hown2.below hb3'
            have hB3 := hB2.trans (hb3'.mono hB2.size)
            have hblk3 := hblk2.below hb3'
            clear h9 hb3 hb3' hown2 hB2 hblk2 HC
            obtain ⟨ls, hls⟩ : ∃ ls, leastOf s = ls := ⟨_, rfl⟩
            rw [hls] at HT hle ⊢
            clear hls
            by_cases hmany : (ls : Int) + m > 320 - (n' : Int)
            · have HF := Lib.hid (expPost_bad (w := w) (ps := ps) (by rw [← HRUN.out, if_pos (by rw [HT.out]; push_cast; omega)]) hB3)
              clear HRUN hown3
              go_wp2
              go_ret2
              exact HF.out
            · obtain ⟨mm, rfl⟩ := Int.eq_ofNat_of_zero_le hrg.2.2.1
              have htt : timesOf s (mm : Int) = ls + mm := by have := HT.out; omega
              have hrun := HRUN.out
              rw [if_neg (by rw [HT.out]; push_cast; omega), htt] at hrun
              have HR2 := Lib.hid hrun
              clear HRUN HT htt hrun
              go_wp2_with fail
              have hsz3 := hB3.size
              have hcx : (w3.alloc (.cells #[.int .i64 0] 3)).cell? ⟨w3.heap.size, 0, none⟩ = some (.int .i64 0) := cell_push rfl _ _
              have hown4 := hown3.alloc (.cells #[.int .i64 0] 3)
              have hB4 := hB3.alloc hB3.size (.cells #[.int .i64 0] 3)
              have hw4s : w.heap.size ≤ (w3.alloc (.cells #[.int .i64 0] 3)).heap.size := hB4.size
              have hcast : ((ls : Int) + (mm : Int)) = ((ls + mm : Nat) : Int) := by push_cast; rfl
              rw [hcast]
              refine (repeat_any w3.heap.size 0 (ls + mm) _ (by omega) hcx).mono ?_
              rintro e w5 ⟨a5, rfl, hown5, hb5⟩
              have hownO := hown4.below hb5
              have hB5 := hB4.trans (hb5.mono hw4s)
              have hrd5 := hown5.rd
              have hsz5 := hB5.size
              clear hown3 hB3 hcx hown4 hB4 hw4s hown5 hb5 hcast
              go_wp2_with (at_builtin; refine wpList_cat slIR rfl _ _ rfl rfl hownO rfl (List.length_replicate) hrd5 (fun v hv => rfl) (by omega) (by unfold maxLen; omega) hsz5 ?_; intro a6 c6 w6 hown6 hg6 _ _; have hB6 := hownO.step hB5 hg6 hsz5; clear hownO hB5 hg6 hrd5)
              go_roundw
              case rel => exact ⟨k + 1, _, c6, a6, _, by omega, by go_num, rfl, by omega, hown6, HR2.out, hB6⟩
              case measure => simp [intOf]; omega
          · have hwhat : whatOf out s = s := by unfold whatOf; rw [if_neg h16, if_neg hgt]
            rw [hwhat] at hrun
            clear hwhat h16
            have HRUN := Lib.hid hrun
            have HT := Lib.hid htm
            have HLEN := Lib.hid hlen
            clear hrun htm hlen
            go_wp2_with fail
            have HC := Lib.hid (And.intro hd0 hd1)
            clear hd0 hd1
            refine wp_region_grow (by kernel_rfl) (by kernel_rfl) (by rfl) ?_
            apply gw_val
            · intro a' w' hk
              refine ⟨wanted_none rfl, ?_⟩
              simp [Oper.looksAt, Op.operands, Call.operands, KnownAt, List.lookup, consD] at hk
              simp [execOp, Act.eval, hk, go_sem]
              all_goals rfl
            refine gw_valB (fun x _ => x = .int .i64 s) (mono_eq _) ?_ ?_
            · intro a' w' hb' hk
              refine ⟨wanted_none rfl, _, ?_, rfl⟩
              have hq := cell_later2 HC.out.1 hb'
              simp [Oper.looksAt, Op.operands, Call.operands, KnownAt, List.lookup, consD] at hk
              simp [execOp, Act.eval, hk, hq, go_sem]
              all_goals rfl
            refine gw_call _ #[.int .i64 s] (fun x _ => x = .int .i64 ((leastOf s : Nat) : Int)) (mono_eq _) (fun a' w' hk => ?_) (fun w' hb => (least_any s w').mono ?_) ?_
            · refine ⟨wanted_none rfl, ?_⟩
              simp [Oper.looksAt, Op.operands, Call.operands, KnownAt, List.lookup, consD] at hk
              simp [execOp, Act.eval, hk, go_sem]
              all_goals rfl
            · rintro e w'' ⟨rfl, rfl⟩
              exact ⟨_, rfl, rfl, Below.refl _ _⟩
            apply gw_val
            · intro a' w' hk
              refine ⟨wanted_none rfl, ?_⟩
              simp [Oper.looksAt, Op.operands, Call.operands, KnownAt, List.lookup, consD] at hk
              simp [execOp, Act.eval, hk, go_sem]
              all_goals rfl
            refine gw_valB (fun x _ => x = .int .i64 m) (mono_eq _) ?_ ?_
            · intro a' w' hb' hk
              refine ⟨wanted_none rfl, _, ?_, rfl⟩
              have hq := cell_later2 HC.out.2 hb'
              simp [Oper.looksAt, Op.operands, Call.operands, KnownAt, List.lookup, consD] at hk
              simp [execOp, Act.eval, hk, hq, go_sem]
              all_goals rfl
            apply gw_val
            · intro a' w' hk
              refine ⟨wanted_none rfl, ?_⟩
              simp [Oper.looksAt, Op.operands, Call.operands, KnownAt, List.lookup, consD] at hk
              have hw : IntKind.i64.wrap (((leastOf s : Nat) : Int) + m) = ((leastOf s : Nat) : Int) + m := IntWalk.i64_in _ (by have := leastOf_le s; omega)
              simp [execOp, Act.eval, hk, go_sem, hw]
              all_goals first | rfl | omega
            apply gw_val
            · intro a' w' hk
              refine ⟨wanted_none rfl, ?_⟩
              simp [Oper.looksAt, Op.operands, Call.operands, KnownAt, List.lookup, consD] at hk
              simp [execOp, Act.eval, hk, go_sem]
              all_goals rfl
            intro vs w3 hb3 hall
            simp only [AllS, consD] at hall
            simp only [consD, putAllS, Act.put]
            obtain ⟨h9, -⟩ := hall
            rw [h9]
            simp only [List.setIfInBounds_toArray, List.set_cons_succ, List.set_cons_zero]
            have hb3' : Below w2.heap.size w2 w3 := ((Below.refl w2.heap.size w2).drew).trans hb3
            have hown3 := hown2.below hb3'
            have hB3 := hB2.trans (hb3'.mono hB2.size)
            have hblk3 := hblk2.below hb3'
            clear h9 hb3 hb3' hown2 hB2 hblk2 HC
            obtain ⟨ls, hls⟩ : ∃ ls, leastOf s = ls := ⟨_, rfl⟩
            rw [hls] at HT hle ⊢
            clear hls
            by_cases hmany : (ls : Int) + m > 320 - (n' : Int)
            · have HF := Lib.hid (expPost_bad (w := w) (ps := ps) (by rw [← HRUN.out, if_pos (by rw [HT.out]; push_cast; omega)]) hB3)
              clear HRUN hown3
              go_wp2
              go_ret2
              exact HF.out
            · obtain ⟨mm, rfl⟩ := Int.eq_ofNat_of_zero_le hrg.2.2.1
              have htt : timesOf s (mm : Int) = ls + mm := by have := HT.out; omega
              have hrun := HRUN.out
              rw [if_neg (by rw [HT.out]; push_cast; omega), htt] at hrun
              have HR2 := Lib.hid hrun
              clear HRUN HT htt hrun
              go_wp2_with fail
              have hsz3 := hB3.size
              have hcx : (w3.alloc (.cells #[.int .i64 s] 3)).cell? ⟨w3.heap.size, 0, none⟩ = some (.int .i64 s) := cell_push rfl _ _
              have hown4 := hown3.alloc (.cells #[.int .i64 s] 3)
              have hB4 := hB3.alloc hB3.size (.cells #[.int .i64 s] 3)
              have hw4s : w.heap.size ≤ (w3.alloc (.cells #[.int .i64 s] 3)).heap.size := hB4.size
              have hcast : ((ls : Int) + (mm : Int)) = ((ls + mm : Nat) : Int) := by push_cast; rfl
              rw [hcast]
              refine (repeat_any w3.heap.size s (ls + mm) _ (by omega) hcx).mono ?_
              rintro e w5 ⟨a5, rfl, hown5, hb5⟩
              have hownO := hown4.below hb5
              have hB5 := hB4.trans (hb5.mono hw4s)
              have hrd5 := hown5.rd
              have hsz5 := hB5.size
              clear hown3 hB3 hcx hown4 hB4 hw4s hown5 hb5 hcast
              go_wp2_with (at_builtin; refine wpList_cat slIR rfl _ _ rfl rfl hownO rfl (List.length_replicate) hrd5 (fun v hv => rfl) (by omega) (by unfold maxLen; omega) hsz5 ?_; intro a6 c6 w6 hown6 hg6 _ _; have hB6 := hownO.step hB5 hg6 hsz5; clear hownO hB5 hg6 hrd5)
              go_roundw
              case rel => exact ⟨k + 1, _, c6, a6, _, by omega, by go_num, rfl, by omega, hown6, HR2.out, hB6⟩
              case measure => simp [intOf]; omega
      · have HF := Lib.hid (expPost_bad (w := w) (ps := ps) (by rw [← HRUN.out, if_pos (by simpa using hr)]) hB2)
        have hr' : rightB s m = false := by simpa using hr
        rw [hr']
        clear hr hr' HRUN hown2
        go_wp2
        go_ret2
        exact HF.out
    · have hkn : k = n := by omega
      rw [hkn, ← HL.out, List.drop_length, expGo] at hrun
      have HF : Hid (ExpPost w ps (.returned (.tuple #[.slice a' n' c', .int .i64 0])) wr) := Lib.hid (expPost_ok hrun.symm hown.len hn' hown.rd hB)
      rw [hkn]
      clear hrun hown hkn hlt hk
      go_wp2
      go_ret2
      exact HF.out
end Go.Proofs.Ytmmgcfhoigpomaa
