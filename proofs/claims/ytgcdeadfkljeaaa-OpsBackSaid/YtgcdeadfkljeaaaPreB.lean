/- Words by lengths. -/
import Derived.Test.YtgcdeadfkljeaaaPreA
import Derived.Test.YtgcdeadfkljeaaaLib
import Derived.Test.YtgcdeadfkljeaaaOwn2
import Derived.StillTailTactics
namespace Go.Proofs.Ytgcdeadfkljeaaa
open Go.RowKit
set_option linter.unusedVariables false
set_option linter.unusedSimpArgs false

abbrev uE : Nat → Value := fun x => .int .u32 (x : Int)
theorem slU32 : SlT Try.prog 31 75 (.int .u32 0) 1 4 := ⟨Try.underlying31, by kernel_rfl, rfl⟩
/-- How many are k. -/
def cz (l : List Int) (k : Nat) : Nat := (l.filter fun x => decide (x = (k : Int))).length
def cn (l : List Int) (k : Nat) : Nat := if k = 0 then 0 else cz l k
def baseW (l : List Int) : Nat → Nat
  | 0 => 0
  | k + 1 => 2 * (baseW l k + cn l k)
/-- Sign i's word. -/
def wv (l : List Int) (i : Nat) : Nat := if 0 < l.getD i 0 then baseW l (l.getD i 0).toNat + cn (l.take i) (l.getD i 0).toNat else 0
def wsL (l : List Int) : List Nat := (List.range l.length).map (wv l)
theorem cz_snoc {l : List Int} {i : Nat} (h : i < l.length) (k : Nat) : cz (l.take (i + 1)) k = cz (l.take i) k + if l[i] = (k : Int) then 1 else 0 := by
  rw [List.take_succ_eq_append_getElem h]; unfold cz; rw [List.filter_append, List.length_append]; congr 1
  by_cases h0 : l[i] = (k : Int) <;> simp [h0]
theorem cn_snoc {l : List Int} {i : Nat} (h : i < l.length) (k : Nat) : cn (l.take (i + 1)) k = cn (l.take i) k + if k ≠ 0 ∧ l[i] = (k : Int) then 1 else 0 := by
  unfold cn
  by_cases h0 : k = 0
  · simp [h0]
  · simp only [if_neg h0, cz_snoc h]; simp [h0]
theorem cz_le (l : List Int) (k : Nat) : cz l k ≤ l.length := List.length_filter_le ..
theorem cn_le (l : List Int) (k : Nat) : cn l k ≤ l.length := by unfold cn; split; omega; exact cz_le l k
theorem baseW_le (l : List Int) : ∀ k, baseW l k + 2 * l.length ≤ 2 * l.length * 2 ^ k
  | 0 => by simp [baseW]
  | k + 1 => by
    have := baseW_le l k
    have := cn_le l k
    rw [baseW, Nat.pow_succ, ← Nat.mul_assoc]
    omega
theorem baseW_14 (l : List Int) (hl : l.length ≤ 60000) {k : Nat} (hk : k ≤ 14) : baseW l k + cn l k < 2147483648 := by
  have h1 := baseW_le l k
  have h2 := cn_le l k
  have h3 : 2 ^ k ≤ 16384 := Nat.le_trans (Nat.pow_le_pow_right (by omega) hk) (by decide)
  have h4 : 2 * l.length * 2 ^ k ≤ 2 * l.length * 16384 := Nat.mul_le_mul_left _ h3
  generalize 2 * l.length * 2 ^ k = X at *
  omega
theorem baseW_15 (l : List Int) (hl : l.length ≤ 60000) {k : Nat} (hk : k ≤ 15) : baseW l k + l.length < 4294967296 := by
  have h1 := baseW_le l k
  have h3 := pow_le15 k hk
  have h4 : 2 * l.length * 2 ^ k ≤ 2 * l.length * 32768 := Nat.mul_le_mul_left _ h3
  generalize 2 * l.length * 2 ^ k = X at *
  omega
theorem wsL_length (l : List Int) : (wsL l).length = l.length := by simp [wsL]
theorem cn_zero (l : List Int) : cn l 0 = 0 := rfl
theorem cn_pos (l : List Int) {k : Nat} (h : k ≠ 0) : cn l k = cz l k := if_neg h
/-- What the last loop has made. -/
def outL (l : List Int) (i : Nat) : List Nat := (List.range l.length).map fun j => if j < i then wv l j else 0
theorem outL_zero (l : List Int) : outL l 0 = List.replicate l.length 0 := by
  unfold outL
  apply List.ext_getElem
  · simp
  · intro k h1 h2; simp
theorem outL_full (l : List Int) {i : Nat} (h : l.length ≤ i) : outL l i = wsL l := by
  unfold outL wsL
  refine List.map_congr_left fun k hk => if_pos ?_
  have := List.mem_range.1 hk; omega
theorem outL_set (l : List Int) {i : Nat} (h : i < l.length) : (outL l i).set i (wv l i) = outL l (i + 1) := by
  unfold outL
  apply List.ext_getElem
  · simp
  · intro k h1 h2
    rw [List.getElem_set]
    simp only [List.getElem_map, List.getElem_range]
    by_cases hk : i = k
    · subst hk; simp
    · rw [if_neg hk]
      by_cases hki : k < i
      · rw [if_pos hki, if_pos (by omega)]
      · rw [if_neg hki, if_neg (by omega)]
theorem outL_same (l : List Int) {i : Nat} (h : i < l.length) (h0 : wv l i = 0) : outL l i = outL l (i + 1) := by
  unfold outL
  refine List.map_congr_left fun k hk => ?_
  by_cases hk : i = k
  · subst hk; simp [h0]
  · by_cases hki : k < i
    · rw [if_pos hki, if_pos (by omega)]
    · rw [if_neg hki, if_neg (by omega)]
theorem kindS_valid {l : List Int} (h : kindS l ≠ 0) : ∀ y ∈ l, 0 ≤ y ∧ y ≤ 15 := by
  intro y hy
  have : ¬ ∃ n ∈ l, kBad n := fun hb => h (by unfold kindS; rw [if_pos hb])
  have h1 : ¬ kBad y := fun hb => this ⟨y, hy, hb⟩
  unfold kBad at h1; omega
def WordsPost (w : World) (l : List Int) (n : Nat) (e : Ending) (w' : World) : Prop :=
  Below w.heap.size w w' ∧ ((kindS l = 0 ∧ e = .returned (.tuple #[.slice none 0 0, .int .i64 12])) ∨
    (kindS l ≠ 0 ∧ ∃ p, e = .returned (.tuple #[.slice p n n, .int .i64 0]) ∧ Own w' w.heap.size 75 uE p n n (wsL l)))
set_option maxRecDepth 100000 in
set_option maxHeartbeats 8000000 in
theorem words_any (a : Option Addr) (n c : Nat) (l : List Int) (w : World) (hl : l.length = n) (hn : n ≤ 60000) (hr : Rd w nE a l) :
  Calls Try.prog 99 #[.slice a n c] w (WordsPost w l n) := by
  have HR := Lib.hid (And.intro hl hr)
  clear hl hr
  go_enter Try.func99, Try.ntmps99
  go_wp2_with fail
  refine (kind_any a n c l w HR.out.1 (by omega) HR.out.2).mono ?_
  rintro e w1 ⟨rfl, rfl⟩
  by_cases hk : kindS l = 0
  · rw [hk]
    have HF : Hid (WordsPost w1 l n (.returned (.tuple #[.slice none 0 0, .int .i64 12])) w1) := Lib.hid ⟨Below.refl _ _, .inl ⟨hk, rfl⟩⟩
    clear hk
    go_wp2
    go_ret2
    exact HF.out
  · have g0 : (kindS l == 0) = false := by simpa using hk
    have HK := Lib.hid hk
    clear hk
    go_wp2_with fail
    have hv := Lib.hid (kindS_valid HK.out)
    generalize hW : (w1.alloc (.cells #[.int .u32 0, .int .u32 0, .int .u32 0, .int .u32 0, .int .u32 0, .int .u32 0, .int .u32 0, .int .u32 0, .int .u32 0, .int .u32 0, .int .u32 0, .int .u32 0, .int .u32 0, .int .u32 0, .int .u32 0, .int .u32 0, .int .u32 0] 154)).alloc (.cells #[.int .u32 0, .int .u32 0, .int .u32 0, .int .u32 0, .int .u32 0, .int .u32 0, .int .u32 0, .int .u32 0, .int .u32 0, .int .u32 0, .int .u32 0, .int .u32 0, .int .u32 0, .int .u32 0, .int .u32 0, .int .u32 0] 155) = W
    have hB0 : Below w1.heap.size w1 W := by rw [← hW]; exact ((Below.refl _ _).alloc (Nat.le_refl _) _).alloc (by simp) _
    have hN0 : Arr W w1.heap.size 154 17 (fun _ => .int .u32 0) := by rw [← hW]; exact (Blk.new _ _ _).alloc _
    have hC0 : Arr W (w1.heap.size + 1) 155 16 (fun k => uE (cz (l.take 0) k)) := by
      rw [← hW]
      have := Blk.new (w1.alloc (.cells #[.int .u32 0, .int .u32 0, .int .u32 0, .int .u32 0, .int .u32 0, .int .u32 0, .int .u32 0, .int .u32 0, .int .u32 0, .int .u32 0, .int .u32 0, .int .u32 0, .int .u32 0, .int .u32 0, .int .u32 0, .int .u32 0, .int .u32 0] 154)) 155 #[.int .u32 0, .int .u32 0, .int .u32 0, .int .u32 0, .int .u32 0, .int .u32 0, .int .u32 0, .int .u32 0, .int .u32 0, .int .u32 0, .int .u32 0, .int .u32 0, .int .u32 0, .int .u32 0, .int .u32 0, .int .u32 0]
      rw [heap_size_alloc] at this
      exact this
    have HB0 := Lib.hid hB0
    have HS : Hid (w1.heap.size ≤ W.heap.size) := Lib.hid hB0.size
    have H0 := Lib.hid (And.intro hN0 hC0)
    obtain ⟨g4, hg4⟩ : ∃ g4, g4 = w1.heap.size := ⟨_, rfl⟩
    have HG : Hid (w1.heap.size ≤ g4 ∧ w1.heap.size ≤ g4 + 1) := Lib.hid (by omega)
    rw [← hg4] at H0 ⊢
    clear hW hB0 hN0 hC0 hg4 g0
    go_loopw [17] (fun x17 wr => ∃ i : Nat, i ≤ n ∧ x17 = .int .i64 i ∧ Below w1.heap.size w1 wr ∧ Arr wr g4 154 17 (fun _ => .int .u32 0) ∧ Arr wr (g4 + 1) 155 16 (fun k => uE (cz (l.take i) k))) (fun x17 _ => n - (intOf x17).toNat)
    case atStart => exact ⟨0, Nat.zero_le _, rfl, HB0.out, H0.out.1, H0.out.2⟩
    case round =>
      clear H0 HB0
      obtain ⟨i, hi, rfl, hB, hN, hC⟩ := hrel
      by_cases him : i < n
      · have hil : i < l.length := by rw [HR.out.1]; exact him
        obtain ⟨b, off, rfl, _, hc⟩ := (HR.out.2.below hB).at hil
        replace hc : wr.cell? ⟨b, off + i, none⟩ = some (.int .i64 l[i]) := hc
        have hx := hv.out l[i] (List.getElem_mem hil)
        have HZ := Lib.hid (fun k => cz_snoc hil k)
        have hzr := fun k => cz_le (l.take i) k
        rw [List.length_take] at hzr
        generalize l[i] = x at *
        obtain ⟨m, rfl⟩ := Int.eq_ofNat_of_zero_le hx.1
        have hm : m < 16 := by omega
        have k1 := hC.cell hm
        have k2 := hC.frozen m
        have hzm := hzr m
        have HC := Lib.hid ((hC.set m (uE (cz (l.take i) m + 1))).congr (f' := fun k => uE (cz (l.take (i + 1)) k)) (fun k _ => by
          rw [HZ.out k]
          by_cases hk : k = m
          · subst hk; simp
          · have : ¬ (m : Int) = (k : Int) := by omega
            simp only [if_neg hk, if_neg this, Nat.add_zero]))
        have HN := Lib.hid (And.intro (hB.setCell (p := ⟨g4 + 1, m, none⟩) HG.out.2 (uE (cz (l.take i) m + 1))) (hN.other (p := ⟨g4 + 1, m, none⟩) (by simp) (uE (cz (l.take i) m + 1))))
        replace k1 : wr.cell? ⟨g4 + 1, m, none⟩ = some (.int .u32 ((cz (l.take i) m : Nat) : Int)) := k1
        clear hB hN hC HZ hzr
        generalize cz (l.take i) m = z at *
        go_wp2
        go_roundw
        case rel => exact ⟨i + 1, by omega, by go_num, HN.out.1, HN.out.2, HC.out⟩
        case measure => simp [intOf] <;> omega
      · have him' : i = n := by omega
        subst him'
        rw [List.take_of_length_le (by rw [HR.out.1]; exact Nat.le_refl _)] at hC
        have HC := Lib.hid ((hC.set 0 (uE 0)).congr (f' := fun k => uE (cn l k)) (fun k _ => by
          by_cases hk : k = 0
          · subst hk; simp [cn_zero]
          · simp only [if_neg hk, cn_pos l hk]))
        have k2 := hC.frozen 0
        have k1 := hC.cell (k := 0) (by omega)
        have HN := Lib.hid (And.intro (hB.setCell (p := ⟨g4 + 1, 0, none⟩) HG.out.2 (uE 0)) (hN.other (p := ⟨g4 + 1, 0, none⟩) (by simp) (uE 0)))
        clear hB hN hC
        go_wp2
        generalize hW2 : wr.setCell ⟨g4 + 1, 0, none⟩ (.int .u32 0) = W2
        replace HN : Hid (Below w1.heap.size w1 W2 ∧ Arr W2 g4 154 17 (fun _ => .int .u32 0)) := by rw [← hW2]; exact HN
        replace HC : Hid (Arr W2 (g4 + 1) 155 16 (fun k => uE (cn l k))) := by rw [← hW2]; exact HC
        clear hW2 k1 k2
        go_loopw [8] (fun x8 wr => ∃ j : Nat, j ≤ 15 ∧ x8 = .int .i64 ((j : Int) + 1) ∧ Below w1.heap.size w1 wr ∧ Arr wr g4 154 17 (fun q => if q < j + 1 then uE (baseW l q) else .int .u32 0) ∧ Arr wr (g4 + 1) 155 16 (fun k => uE (cn l k))) (fun x8 _ => 17 - (intOf x8).toNat)
        case atStart => exact ⟨0, by omega, rfl, HN.out.1, HN.out.2.congr (fun j _ => by
          by_cases hj : j < 1
          · have : j = 0 := by omega
            subst this; rfl
          · rw [if_neg hj]), HC.out⟩
        case round =>
          clear HN HC
          obtain ⟨j, hj, rfl, hB, hN, hC⟩ := hrel
          by_cases hk : j < 15
          · have k1 := hN.cell (k := j) (by omega)
            rw [if_pos (by omega)] at k1
            have k2 := hC.cell (k := j) (by omega)
            have k3 := hN.cell (k := j + 1) (by omega)
            rw [if_neg (by omega)] at k3
            have k4 := hN.frozen (j + 1)
            replace k1 : wr.cell? ⟨g4, j, none⟩ = some (.int .u32 ((baseW l j : Nat) : Int)) := k1
            replace k2 : wr.cell? ⟨g4 + 1, j, none⟩ = some (.int .u32 ((cn l j : Nat) : Int)) := k2
            have hb := baseW_14 l (by rw [HR.out.1]; exact hn) (k := j) (by omega)
            have HC := Lib.hid (hC.other (p := ⟨g4, j + 1, none⟩) (by simp) (uE (baseW l (j + 1))))
            have HN := Lib.hid (And.intro (hB.setCell (p := ⟨g4, j + 1, none⟩) HG.out.1 (uE (baseW l (j + 1)))) ((hN.set (j + 1) (uE (baseW l (j + 1)))).congr (f' := fun q => if q < j + 1 + 1 then uE (baseW l q) else .int .u32 0) (fun q _ => by
              by_cases hq : q = j + 1
              · subst hq; simp
              · simp only [if_neg hq]
                by_cases hq2 : q < j + 1
                · rw [if_pos hq2, if_pos (by omega)]
                · rw [if_neg hq2, if_neg (by omega)])))
            have HBE : Hid (baseW l (j + 1) = 2 * (baseW l j + cn l j)) := Lib.hid rfl
            clear hB hN hC
            generalize baseW l (j + 1) = bn at HC HN HBE
            generalize baseW l j = b0 at *
            generalize cn l j = c0 at *
            have hs1 : IntKind.i64.wrap (j : Int) = (j : Int) := by rw [IntKind.wrap_i64]; omega
            have hs2 : ((j : Int) + 1).toNat = j + 1 := by omega
            have HBI : Hid ((((b0 : Int) + (c0 : Int)) * 2) = (bn : Int)) := Lib.hid (by rw [HBE.out]; omega)
            go_wp2
            have f1 : (j : Int) < 17 := by omega
            have f2 : (j : Int) < 16 := by omega
            have f3 : (j : Int) + 1 < 17 := by omega
            have f4 : IntKind.u32.wrap ((b0 : Int) + (c0 : Int)) = (b0 : Int) + (c0 : Int) := by rw [IntKind.wrap_u32]; omega
            have f5 : IntKind.u32.wrap (((b0 : Int) + (c0 : Int)) * 2) = (bn : Int) := by rw [IntKind.wrap_u32, HBI.out]; have := HBE.out; omega
            have f6 : ¬ (j : Int) + 1 < 0 := by omega
            have f7 : 0 ≤ (j : Int) + 1 := by omega
            go_still_tail 12, (by kernel_rfl)
            show wpList _ _ _ _ _ wr.drew
            clear k1 k2 f4 f5 f7 f6 f2 f1 hs1
            go_wp2
            go_roundw
            case rel => exact ⟨j + 1, by omega, by go_num, HN.out.1.drew, HN.out.2, HC.out⟩
            case measure => simp [intOf] <;> omega
          · have hj15 : j = 15 := by omega
            subst hj15
            have HB := Lib.hid hB
            have HN := Lib.hid (hN.congr (f' := fun k => if k < 16 then uE (baseW l k + cn (l.take 0) k) else .int .u32 0) (fun k _ => by
              by_cases hk : k < 16
              · rw [if_pos (by omega), if_pos hk]
                have : cn (l.take 0) k = 0 := by unfold cn cz; simp
                rw [this, Nat.add_zero]
              · rw [if_neg (by omega), if_neg hk]))
            clear hB hN hC
            go_wp2_with (at_make; refine wpList_mk (E := uE) slU32 rfl rfl _ _ rfl i rfl rfl rfl rfl (0 : Nat) rfl (by omega) (by unfold maxLen; omega) (Nat.le_refl _) ?_; intro p1 w2 hown1 hg1)
            have HN2 := Lib.hid (And.intro (HN.out.grown hg1 (by simp)) (HB.out.grown hg1 HB.out.size (fun k hk => by cases hk)))
            have hlt4 := HN.out.lt
            have hne1 : ∀ q, p1 = some ⟨q, 0, none⟩ → q ≠ g4 := by
              rintro q rfl e
              rcases hown1.blk with ⟨h, _⟩ | ⟨q', h, h2, _⟩
              · cases h
              · simp only [Option.some.injEq, Addr.mk.injEq, and_true] at h
                omega
            have HNE := Lib.hid hne1
            have HO : Hid (Own w2 w1.heap.size 75 uE p1 i i (outL l 0)) := Lib.hid (by rw [outL_zero, HR.out.1]; exact hown1.mono HB.out.size)
            clear HB HN hown1 hg1 hne1 hlt4
            go_wp2
            go_loopw [49] (fun x49 wr => ∃ j : Nat, j ≤ i ∧ x49 = .int .i64 j ∧ Below w1.heap.size w1 wr ∧ Arr wr g4 154 17 (fun k => if k < 16 then uE (baseW l k + cn (l.take j) k) else .int .u32 0) ∧ Own wr w1.heap.size 75 uE p1 i i (outL l j)) (fun x49 _ => i - (intOf x49).toNat)
            case atStart => exact ⟨0, Nat.zero_le _, rfl, HN2.out.2, HN2.out.1, HO.out⟩
            case round =>
              clear HN2 HO
              obtain ⟨j, hj, rfl, hB, hN, hO⟩ := hrel
              by_cases hji : j < i
              · have hjl : j < l.length := by rw [HR.out.1]; exact hji
                obtain ⟨b, off, rfl, _, hc⟩ := (HR.out.2.below hB).at hjl
                replace hc : wr.cell? ⟨b, off + j, none⟩ = some (.int .i64 l[j]) := hc
                have hx := hv.out l[j] (List.getElem_mem hjl)
                have hwv : wv l j = if 0 < l[j] then baseW l (l[j]).toNat + cn (l.take j) (l[j]).toNat else 0 := by unfold wv; simp [List.getD_eq_getElem?_getD, hjl]
                have hcs := fun k => cn_snoc hjl k
                have hcl := fun k => cn_le (l.take j) k
                rw [List.length_take] at hcl
                have hbl : ∀ k, k ≤ 15 → baseW l k + l.length < 4294967296 := fun k hk => baseW_15 l (by rw [HR.out.1]; exact hn) hk
                generalize l[j] = x at *
                by_cases h0 : 0 < x
                · obtain ⟨m, rfl⟩ := Int.eq_ofNat_of_zero_le hx.1
                  rw [if_pos h0, Int.toNat_natCast] at hwv
                  have hm : m < 16 := by omega
                  have k1 := hN.cell (k := m) (by omega)
                  rw [if_pos hm, ← hwv] at k1
                  have k2 := hN.frozen m
                  replace k1 : wr.cell? ⟨g4, m, none⟩ = some (.int .u32 ((wv l j : Nat) : Int)) := k1
                  obtain ⟨q, y, rfl, hq1, hq2, hq3, k3, k4⟩ := hO.at hji
                  have hqn := HNE.out q rfl
                  have k5 : (wr.setCell ⟨q, j, none⟩ (uE (wv l j))).cell? ⟨g4, m, none⟩ = some (.int .u32 ((wv l j : Nat) : Int)) := (hN.other (p := ⟨q, j, none⟩) (fun e => hqn e.symm) (uE (wv l j))).cell (k := m) (by omega) |>.trans (by rw [if_pos hm, ← hwv])
                  have k6 := (hN.other (p := ⟨q, j, none⟩) (fun e => hqn e.symm) (uE (wv l j))).frozen m
                  have hwl : wv l j + 1 < 4294967296 := by have := hbl m (by omega); have := hcl m; have h9 := HR.out.1; omega
                  have HF := Lib.hid (And.intro ((hB.setCell (p := ⟨q, j, none⟩) hq1 (uE (wv l j))).setCell (p := ⟨g4, m, none⟩) HG.out.1 (uE (wv l j + 1)))
                    (And.intro (((hN.other (p := ⟨q, j, none⟩) (fun e => hqn e.symm) (uE (wv l j))).set m (uE (wv l j + 1))).congr (f' := fun k => if k < 16 then uE (baseW l k + cn (l.take (j + 1)) k) else .int .u32 0) (fun k _ => by
                      by_cases hk : k = m
                      · subst hk
                        rw [if_pos rfl, if_pos hm, hcs k, if_pos ⟨by omega, rfl⟩, hwv, Nat.add_assoc]
                      · have : ¬ ((m : Int) = (k : Int)) := by omega
                        simp only [if_neg hk, hcs k, this, and_false, if_false, Nat.add_zero]))
                      (((hO.set j hji (wv l j)).setCell_ne (p := ⟨g4, m, none⟩) (fun z hz => by simp only [Option.some.injEq, Addr.mk.injEq, and_true] at hz; rw [← hz]; exact hqn) (uE (wv l j + 1))))))
                  rw [outL_set l hjl] at HF
                  clear hB hN hO hcs hcl hbl hwv
                  generalize wv l j = v at *
                  go_wp2
                  go_roundw
                  case rel => exact ⟨j + 1, by omega, by go_num, HF.out.1, HF.out.2.1, HF.out.2.2⟩
                  case measure => simp [intOf] <;> omega
                · have hx0 : x = 0 := by omega
                  subst hx0
                  rw [if_neg (by omega)] at hwv
                  have HF := Lib.hid (And.intro hB (And.intro (hN.congr (f' := fun k => if k < 16 then uE (baseW l k + cn (l.take (j + 1)) k) else .int .u32 0) (fun k _ => by
                      by_cases hk : k < 16
                      · rw [if_pos hk, if_pos hk, hcs k, if_neg (by omega), Nat.add_zero]
                      · rw [if_neg hk, if_neg hk])) hO))
                  rw [outL_same l hjl hwv] at HF
                  clear hB hN hO hcs hcl hbl hwv
                  go_wp2
                  go_roundw
                  case rel => exact ⟨j + 1, by omega, by go_num, HF.out.1, HF.out.2.1, HF.out.2.2⟩
                  case measure => simp [intOf] <;> omega
              · have hji' : j = i := by omega
                subst hji'
                rw [outL_full l (by rw [HR.out.1]; exact Nat.le_refl _)] at hO
                have HF : Hid (WordsPost w1 l j (.returned (.tuple #[.slice p1 j j, .int .i64 0])) wr) := Lib.hid ⟨hB, .inr ⟨HK.out, p1, rfl, hO⟩⟩
                clear hB hN hO
                go_wp2
                go_ret2
                exact HF.out
end Go.Proofs.Ytgcdeadfkljeaaa
