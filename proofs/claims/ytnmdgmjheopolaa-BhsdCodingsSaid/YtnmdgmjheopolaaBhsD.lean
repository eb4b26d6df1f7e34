/- Numbers, bounds and rounding of bhsd and the document. -/
import Derived.Test.YtnmdgmjheopolaaBhsC
namespace Go.Proofs.Ytnmdgmjheopolaa
open Go.RowKit
set_option linter.unusedVariables false
set_option linter.unusedSimpArgs false

set_option maxRecDepth 100000 in
theorem rPart_any (b h s d : Int) (w : World) :
  Calls Try.prog 64 #[.agg #[.int .i64 b, .int .i64 h, .int .i64 s, .int .i64 d]] w fun e w' => e = .returned (.int .i64 (partC s)) ∧ Below w.heap.size w w' := by
  by_cases g1 : s = 1
  · subst g1
    go_enter Try.func64, Try.ntmps64
    go_wp2
    go_ret
    exact ⟨rfl, below_alloc _ _⟩
  by_cases g2 : s = 2
  · subst g2
    go_enter Try.func64, Try.ntmps64
    go_wp2
    go_ret
    exact ⟨rfl, below_alloc _ _⟩
  have HF : partC s = 0 := by unfold partC; rw [if_neg g1, if_neg g2]
  rw [HF]
  have k1 : (s == 1) = false := beq_eq_false_iff_ne.2 g1
  have k2 : (s == 2) = false := beq_eq_false_iff_ne.2 g2
  clear g1 g2 HF
  go_enter Try.func64, Try.ntmps64
  go_wp2
  go_ret
  exact ⟨rfl, below_alloc _ _⟩

def plainOk (v : Int) : Prop := ¬ (v < -8589934592 ∨ v > 8589934592)
instance (v : Int) : Decidable (plainOk v) := by unfold plainOk; infer_instance
set_option maxRecDepth 100000 in
set_option maxHeartbeats 4000000 in
theorem rPlain_any (b h s d v : Int) (w : World) (hs : 0 ≤ s ∧ s ≤ 2) :
  Calls Try.prog 21 #[.agg #[.int .i64 b, .int .i64 h, .int .i64 s, .int .i64 d], .int .i64 v] w fun e w' => e = .returned (.tuple #[.int .i64 (if plainOk v then plainC s v else 0), .bool (decide (plainOk v))]) ∧ Below w.heap.size w w' := by
  by_cases g1 : v < -8589934592
  · rw [if_neg (show ¬ plainOk v by unfold plainOk; omega), decide_eq_false (show ¬ plainOk v by unfold plainOk; omega)]
    go_enter Try.func21, Try.ntmps21
    go_wp2
    go_ret2
    exact ⟨rfl, below_alloc _ _⟩
  by_cases g2 : v > 8589934592
  · rw [if_neg (show ¬ plainOk v by unfold plainOk; omega), decide_eq_false (show ¬ plainOk v by unfold plainOk; omega)]
    go_enter Try.func21, Try.ntmps21
    go_wp2
    go_ret2
    exact ⟨rfl, below_alloc _ _⟩
  rw [if_pos (show plainOk v by unfold plainOk; omega), decide_eq_true (show plainOk v by unfold plainOk; omega)]
  rcases (show s = 0 ∨ s = 1 ∨ s = 2 by omega) with rfl | rfl | rfl
  · have HF : plainC 0 v = v := by unfold plainC; rw [if_neg (by omega)]; rfl
    rw [HF]
    go_enter Try.func21, Try.ntmps21
    go_wp2
    go_ret2
    exact ⟨rfl, below_alloc _ _⟩
  · go_enter Try.func21, Try.ntmps21
    go_wp2_with fail
    refine (rPart_any b h 1 d _).mono ?_
    rintro e w1 ⟨rfl, hB⟩
    rw [show partC 1 = 1 from rfl]
    by_cases g3 : v < 0
    · have HF : plainC 1 v = (-1 - v) * 2 + 1 := by unfold plainC; rw [if_neg (by omega), if_neg (by omega), if_pos g3]; rfl
      have HF := Lib.hid HF
      go_wp2
      go_ret2
      exact ⟨by rw [HF.out]; rfl, (below_alloc _ _).trans (hB.mono (by simp))⟩
    · have HF := Lib.hid (show plainC 1 v = v + v by unfold plainC; rw [if_neg (by omega), if_neg (by omega), if_neg g3]; show v + v / 1 = _; omega)
      go_wp2
      go_ret2
      exact ⟨by rw [HF.out]; rfl, (below_alloc _ _).trans (hB.mono (by simp))⟩
  · go_enter Try.func21, Try.ntmps21
    go_wp2_with fail
    refine (rPart_any b h 2 d _).mono ?_
    rintro e w1 ⟨rfl, hB⟩
    rw [show partC 2 = 3 from rfl]
    by_cases g3 : v < 0
    · have HF : plainC 2 v = (-1 - v) * 4 + 3 := by unfold plainC; rw [if_neg (by omega), if_neg (by omega), if_pos g3]; rfl
      have HF := Lib.hid HF
      go_wp2
      go_ret2
      exact ⟨by rw [HF.out]; rfl, (below_alloc _ _).trans (hB.mono (by simp))⟩
    · have HF := Lib.hid (show plainC 2 v = v + v / 3 by unfold plainC; rw [if_neg (by omega), if_neg (by omega), if_neg g3]; rfl)
      go_wp2
      go_ret2
      exact ⟨by rw [HF.out]; rfl, (below_alloc _ _).trans (hB.mono (by simp))⟩

def numC (s u : Int) : Int := if s = 0 then u else if u % (partC s + 1) = partC s then -1 - u / (partC s + 1) else u - u / (partC s + 1)
set_option maxRecDepth 100000 in
set_option maxHeartbeats 4000000 in
theorem bNumber_any (b h s d u : Int) (w : World) (hs : 0 ≤ s ∧ s ≤ 2) (hu : 0 ≤ u ∧ u ≤ 1099511627776) :
  Calls Try.prog 86 #[.agg #[.int .i64 b, .int .i64 h, .int .i64 s, .int .i64 d], .int .i64 u] w fun e w' => e = .returned (.int .i64 (numC s u)) ∧ Below w.heap.size w w' := by
  rcases (show s = 0 ∨ s = 1 ∨ s = 2 by omega) with rfl | rfl | rfl
  · rw [show numC 0 u = u from rfl]
    go_enter Try.func86, Try.ntmps86
    go_wp2
    go_ret
    exact ⟨rfl, below_alloc _ _⟩
  · have ha := and1_64 u
    by_cases g : u % 2 = 1
    · have HF := Lib.hid (show numC 1 u = -1 - u / 2 from (if_neg (by omega)).trans (if_pos g))
      have ka : (bits .and .i64 u 1 == 1) = true := beq_iff_eq.2 (ha.trans g)
      clear ha g
      go_enter Try.func86, Try.ntmps86
      go_wp2
      go_ret
      exact ⟨ret_int (by rw [HF.out, not64 _ (by unfold In64; omega)]), below_alloc _ _⟩
    · have HF := Lib.hid (show numC 1 u = u - u / 2 from (if_neg (by omega)).trans (if_neg g))
      have ka : (bits .and .i64 u 1 == 1) = false := beq_eq_false_iff_ne.2 (fun e => g (ha.symm.trans e))
      clear ha g
      go_enter Try.func86, Try.ntmps86
      go_wp2
      go_ret
      exact ⟨ret_int HF.out.symm, below_alloc _ _⟩
  · have ha := and3_64 u
    by_cases g : u % 4 = 3
    · have HF := Lib.hid (show numC 2 u = -1 - u / 4 from (if_neg (by omega)).trans (if_pos g))
      have ka : (bits .and .i64 u 3 == 3) = true := beq_iff_eq.2 (ha.trans g)
      clear ha g
      go_enter Try.func86, Try.ntmps86
      go_wp2
      go_ret
      exact ⟨ret_int (by rw [HF.out, not64 _ (by unfold In64; omega)]), below_alloc _ _⟩
    · have HF := Lib.hid (show numC 2 u = u - u / 4 from (if_neg (by omega)).trans (if_neg g))
      have ka : (bits .and .i64 u 3 == 3) = false := beq_eq_false_iff_ne.2 (fun e => g (ha.symm.trans e))
      clear ha g
      go_enter Try.func86, Try.ntmps86
      go_wp2
      go_ret
      exact ⟨ret_int HF.out.symm, below_alloc _ _⟩

def BoundC (s v : Int) : Prop := if s = 0 then 0 ≤ v ∧ v < 4294967296 else -2147483648 ≤ v ∧ v < 2147483648
instance (s v : Int) : Decidable (BoundC s v) := by unfold BoundC; infer_instance
def roundC (s v : Int) : Int := if s = 0 then v % 4294967296 else (v + 2147483648) % 4294967296 - 2147483648
theorem round_bound (s v : Int) : BoundC s (roundC s v) := by unfold BoundC roundC; split <;> omega
set_option maxRecDepth 100000 in
set_option maxHeartbeats 4000000 in
theorem bBound_any (b h s d v : Int) (w : World) (hv : In64 v) :
  Calls Try.prog 87 #[.agg #[.int .i64 b, .int .i64 h, .int .i64 s, .int .i64 d], .int .i64 v] w fun e w' => e = .returned (.bool (decide (BoundC s v))) ∧ Below w.heap.size w w' := by
  by_cases g : s = 0
  · subst g
    have HF := Lib.hid (show decide (BoundC 0 v) = (v % 4294967296 == v) by
      by_cases h : v % 4294967296 = v
      · rw [beq_iff_eq.2 h]; exact decide_eq_true (by unfold BoundC; rw [if_pos rfl]; omega)
      · rw [beq_eq_false_iff_ne.2 h]; exact decide_eq_false (by unfold BoundC; rw [if_pos rfl]; omega))
    go_enter Try.func87, Try.ntmps87
    go_wp2
    go_ret
    refine ⟨ret_bool ?_, below_alloc _ _⟩
    exact HF.out.symm
  · have k : (s == 0) = false := beq_eq_false_iff_ne.2 g
    have HG := Lib.hid g
    clear g
    go_enter Try.func87, Try.ntmps87
    go_wp2
    go_ret
    refine ⟨ret_bool ?_, below_alloc _ _⟩
    have hw : wrap64 (wrap32 v) = roundC s v := by unfold wrap64 wrap32 roundC; rw [if_neg HG.out]; omega
    rw [hw]
    by_cases h : roundC s v = v
    · rw [beq_iff_eq.2 h, decide_eq_true (h ▸ round_bound s v)]
    · rw [beq_eq_false_iff_ne.2 h, decide_eq_false (fun hb => h (by unfold BoundC at hb; unfold roundC; rw [if_neg HG.out] at hb ⊢; omega))]
set_option maxRecDepth 100000 in
set_option maxHeartbeats 4000000 in
theorem bRound_any (b h s d v : Int) (w : World) (hv : In64 v) :
  Calls Try.prog 88 #[.agg #[.int .i64 b, .int .i64 h, .int .i64 s, .int .i64 d], .int .i64 v] w fun e w' => e = .returned (.int .i64 (roundC s v)) ∧ Below w.heap.size w w' := by
  by_cases g : s = 0
  · subst g
    go_enter Try.func88, Try.ntmps88
    go_wp2
    go_ret
    refine ⟨ret_int ?_, below_alloc _ _⟩
    exact (if_pos rfl).symm
  · have k : (s == 0) = false := beq_eq_false_iff_ne.2 g
    have HG := Lib.hid g
    clear g
    go_enter Try.func88, Try.ntmps88
    go_wp2
    go_ret
    refine ⟨ret_int ?_, below_alloc _ _⟩
    unfold wrap64 wrap32 roundC; rw [if_neg HG.out]; omega
set_option maxRecDepth 100000 in
set_option maxHeartbeats 4000000 in
theorem rBound_any (b h s d v : Int) (w : World) (hv : In64 v) :
  Calls Try.prog 89 #[.agg #[.int .i64 b, .int .i64 h, .int .i64 s, .int .i64 d], .int .i64 v] w fun e w' => e = .returned (.bool (decide (BoundC s v))) ∧ Below w.heap.size w w' := by
  by_cases g : s = 0
  · subst g
    by_cases g1 : 0 ≤ v
    · have HF := Lib.hid (show decide (BoundC 0 v) = decide (v < 4294967296) by unfold BoundC; simp [g1])
      go_enter Try.func89, Try.ntmps89
      go_wp2
      go_ret
      exact ⟨ret_bool HF.out.symm, below_alloc _ _⟩
    · have HF := Lib.hid (show decide (BoundC 0 v) = false by unfold BoundC; simp; omega)
      go_enter Try.func89, Try.ntmps89
      go_wp2
      go_ret
      exact ⟨ret_bool HF.out.symm, below_alloc _ _⟩
  · have k : (s == 0) = false := beq_eq_false_iff_ne.2 g
    by_cases g1 : -2147483648 ≤ v
    · have HF := Lib.hid (show decide (BoundC s v) = decide (v < 2147483648) by unfold BoundC; simp [g1, g])
      clear g
      go_enter Try.func89, Try.ntmps89
      go_wp2
      go_ret
      exact ⟨ret_bool HF.out.symm, below_alloc _ _⟩
    · have HF := Lib.hid (show decide (BoundC s v) = false by unfold BoundC; simp [g]; omega)
      clear g
      go_enter Try.func89, Try.ntmps89
      go_wp2
      go_ret
      exact ⟨ret_bool HF.out.symm, below_alloc _ _⟩
theorem roundC_add (s v k : Int) : roundC s (v + k * 4294967296) = roundC s v := by
  unfold roundC; split <;> omega
theorem roundC_of (s v : Int) (h : BoundC s v) : roundC s v = v := by
  unfold BoundC at h; unfold roundC; split <;> simp_all <;> omega
theorem Blk.four {w : World} {g : Nat} {T : TypeId} {a b c d : Value} (h : Blk w g T #[a, b, c, d]) : w.cell? ⟨g, 0, none⟩ = some a ∧ w.cell? ⟨g, 1, none⟩ = some b ∧ w.cell? ⟨g, 2, none⟩ = some c ∧ w.cell? ⟨g, 3, none⟩ = some d := ⟨h.cell rfl, h.cell rfl, h.cell rfl, h.cell rfl⟩
def RoundOk (s v y : Int) (w wr : World) (T : TypeId) (a b c d : Value) : Prop := roundC s y = roundC s v ∧ (-1099511627776 ≤ y ∧ y ≤ 1099511627776) ∧ Blk wr w.heap.size T #[a, b, c, d] ∧ Below w.heap.size w wr
set_option maxRecDepth 100000 in
set_option maxHeartbeats 4000000 in
theorem rRound_any (b h s d v : Int) (w : World) (hv : -1099511627776 ≤ v ∧ v ≤ 1099511627776) :
  Calls Try.prog 90 #[.agg #[.int .i64 b, .int .i64 h, .int .i64 s, .int .i64 d], .int .i64 v] w fun e w' => e = .returned (.int .i64 (roundC s v)) ∧ Below w.heap.size w w' := by
  have hblk0 := Blk.new w 23 #[.int .i64 b, .int .i64 h, .int .i64 s, .int .i64 d]
  have hRO : RoundOk s v v w (w.alloc (.cells #[.int .i64 b, .int .i64 h, .int .i64 s, .int .i64 d] 23)) 23 (.int .i64 b) (.int .i64 h) (.int .i64 s) (.int .i64 d) := ⟨rfl, hv, hblk0, below_alloc _ _⟩
  have HRO := Lib.hid hRO
  clear hRO hblk0 hv
  go_enter Try.func90, Try.ntmps90
  go_wp2
  go_loopw [1] (fun x wr => ∃ y : Int, x = .int .i64 y ∧ RoundOk s v y w wr 23 (.int .i64 b) (.int .i64 h) (.int .i64 s) (.int .i64 d)) (fun x _ => (intOf x).toNat)
  case atStart => exact ⟨v, rfl, HRO.out⟩
  case round =>
    obtain ⟨y, rfl, hrel⟩ := hrel
    obtain ⟨hy, hyr, hblk, hB⟩ := hrel
    obtain ⟨hc0, hc1, hc2, hc3⟩ := hblk.four
    go_wp2_with fail
    refine (rBound_any b h s d y wr (by unfold In64; omega)).mono ?_
    rintro e w1 ⟨rfl, hB1⟩
    have hB2 := hB.trans (hB1.mono hB.size)
    have hblk1 := hblk.below hB1
    clear hc0 hc1 hc2 hc3 hB1 hblk
    obtain ⟨hc0, hc1, hc2, hc3⟩ := hblk1.four
    by_cases hb : BoundC s y
    · have HRO2 : Hid (RoundOk s v y w w1 23 (.int .i64 b) (.int .i64 h) (.int .i64 s) (.int .i64 d) ∧ (y ≤ 0 ∨ BoundC s y)) := Lib.hid ⟨⟨hy, hyr, hblk1, hB2⟩, .inr hb⟩
      rw [decide_eq_true hb]
      clear hy hblk1 hB2 hb hB
      go_wp2
      go_loopw [1] (fun x wr => ∃ y : Int, x = .int .i64 y ∧ RoundOk s v y w wr 23 (.int .i64 b) (.int .i64 h) (.int .i64 s) (.int .i64 d) ∧ (y ≤ 0 ∨ BoundC s y)) (fun x _ => (4294967296 - intOf x).toNat)
      case atStart => exact ⟨y, rfl, HRO2.out⟩
      case round =>
        clear HRO2 hc0 hc1 hc2 hc3 hyr
        obtain ⟨z, rfl, hrel, hz⟩ := hrel
        obtain ⟨hy, hyr, hblk, hB⟩ := hrel
        obtain ⟨hc0, hc1, hc2, hc3⟩ := hblk.four
        have HZ := Lib.hid hz
        clear hz
        go_wp2_with fail
        refine (rBound_any b h s d z _ (by unfold In64; omega)).mono ?_
        rintro e w2 ⟨rfl, hB1⟩
        have hB2 := hB.trans (hB1.mono hB.size)
        have hblk1 := hblk.below hB1
        clear hc0 hc1 hc2 hc3 hB1 hblk
        by_cases hb : BoundC s z
        · have HF : Hid (roundC s v = z ∧ Below w.heap.size w w2) := Lib.hid ⟨by rw [← hy]; exact roundC_of s z hb, hB2⟩
          rw [decide_eq_true hb]
          clear hy hblk1 hB2 hb hB HZ
          go_wp2
          go_ret
          exact ⟨ret_int HF.out.1.symm, HF.out.2⟩
        · have hz0 : z < 0 := by
            rcases HZ.out with h | h
            · unfold BoundC at hb; split at hb <;> omega
            · exact (hb h).elim
          have hz1 : z + 4294967296 ≤ 0 ∨ BoundC s (z + 4294967296) := by
            unfold BoundC at hb ⊢; split at hb
            · rename_i h0; rw [if_pos h0]; omega
            · rename_i h0; rw [if_neg h0]; omega
          have HRO3 : Hid (RoundOk s v (z + 4294967296) w w2 23 (.int .i64 b) (.int .i64 h) (.int .i64 s) (.int .i64 d) ∧ (z + 4294967296 ≤ 0 ∨ BoundC s (z + 4294967296))) := Lib.hid ⟨⟨by rw [← hy]; exact (show z + 4294967296 = z + 1 * 4294967296 by omega) ▸ roundC_add s z 1, by omega, hblk1, hB2⟩, hz1⟩
          rw [decide_eq_false hb]
          clear hy hblk1 hB2 hb hB hz1 HZ
          go_wp2
          go_roundw
          case rel => exact ⟨_, rfl, HRO3.out⟩
          case measure => simp [intOf]; omega
    · rw [decide_eq_false hb]
      by_cases hpos : y > 0
      · have HRO2 : Hid (RoundOk s v (y - 4294967296) w w1 23 (.int .i64 b) (.int .i64 h) (.int .i64 s) (.int .i64 d)) := Lib.hid ⟨by rw [← hy]; exact (show y - 4294967296 = y + (-1) * 4294967296 by omega) ▸ roundC_add s y (-1), by omega, hblk1, hB2⟩
        clear hy hblk1 hB2 hb hB
        go_wp2
        go_roundw
        case rel => exact ⟨_, rfl, HRO2.out⟩
        case measure => simp [intOf]; omega
      · have HRO2 : Hid (RoundOk s v y w w1 23 (.int .i64 b) (.int .i64 h) (.int .i64 s) (.int .i64 d) ∧ (y ≤ 0 ∨ BoundC s y)) := Lib.hid ⟨⟨hy, hyr, hblk1, hB2⟩, .inl (by omega)⟩
        clear hy hblk1 hB2 hb hB
        go_wp2
        go_loopw [1] (fun x wr => ∃ y : Int, x = .int .i64 y ∧ RoundOk s v y w wr 23 (.int .i64 b) (.int .i64 h) (.int .i64 s) (.int .i64 d) ∧ (y ≤ 0 ∨ BoundC s y)) (fun x _ => (4294967296 - intOf x).toNat)
        case atStart => exact ⟨y, rfl, HRO2.out⟩
        case round =>
          clear HRO2 hc0 hc1 hc2 hc3 hyr
          obtain ⟨z, rfl, hrel, hz⟩ := hrel
          obtain ⟨hy, hyr, hblk, hB⟩ := hrel
          obtain ⟨hc0, hc1, hc2, hc3⟩ := hblk.four
          have HZ := Lib.hid hz
          clear hz
          go_wp2_with fail
          refine (rBound_any b h s d z _ (by unfold In64; omega)).mono ?_
          rintro e w2 ⟨rfl, hB1⟩
          have hB2 := hB.trans (hB1.mono hB.size)
          have hblk1 := hblk.below hB1
          clear hc0 hc1 hc2 hc3 hB1 hblk
          by_cases hb : BoundC s z
          · have HF : Hid (roundC s v = z ∧ Below w.heap.size w w2) := Lib.hid ⟨by rw [← hy]; exact roundC_of s z hb, hB2⟩
            rw [decide_eq_true hb]
            clear hy hblk1 hB2 hb hB HZ
            go_wp2
            go_ret
            exact ⟨ret_int HF.out.1.symm, HF.out.2⟩
          · have hz0 : z < 0 := by
              rcases HZ.out with h | h
              · unfold BoundC at hb; split at hb <;> omega
              · exact (hb h).elim
            have hz1 : z + 4294967296 ≤ 0 ∨ BoundC s (z + 4294967296) := by
              unfold BoundC at hb ⊢; split at hb
              · rename_i h0; rw [if_pos h0]; omega
              · rename_i h0; rw [if_neg h0]; omega
            have HRO3 : Hid (RoundOk s v (z + 4294967296) w w2 23 (.int .i64 b) (.int .i64 h) (.int .i64 s) (.int .i64 d) ∧ (z + 4294967296 ≤ 0 ∨ BoundC s (z + 4294967296))) := Lib.hid ⟨⟨by rw [← hy]; exact (show z + 4294967296 = z + 1 * 4294967296 by omega) ▸ roundC_add s z 1, by omega, hblk1, hB2⟩, hz1⟩
            rw [decide_eq_false hb]
            clear hy hblk1 hB2 hb hB hz1 HZ
            go_wp2
            go_roundw
            case rel => exact ⟨_, rfl, HRO3.out⟩
            case measure => simp [intOf]; omega
end Go.Proofs.Ytnmdgmjheopolaa
