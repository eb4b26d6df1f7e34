/- Plain laws of words: Kraft's sum; which signs bits tell. -/
import Derived.Test.YtgcdeadfkljeaaaPreG
import Derived.Test.YtgcdeadfkljeaaaPreH
namespace Go.Proofs.Ytgcdeadfkljeaaa
open Go.RowKit
set_option linter.unusedVariables false
set_option linter.unusedSimpArgs false

/-- The weight of words of up to n bits. -/
def krS (l : List Int) : Nat → Nat
  | 0 => 0
  | n + 1 => krS l n + cn l (n + 1) * 2 ^ (15 - (n + 1))
theorem krS_base (l : List Int) : ∀ n, n ≤ 15 → (baseW l n + cn l n) * 2 ^ (15 - n) = krS l n
  | 0, _ => by simp [baseW, cn, krS]
  | n + 1, h => by
    have ih := krS_base l n (by omega)
    rw [krS, ← ih, baseW, Nat.add_mul]
    congr 1
    rw [show 15 - n = (15 - (n + 1)) + 1 by omega, Nat.pow_succ, Nat.mul_comm 2, Nat.mul_assoc, Nat.mul_comm 2]
theorem cz_cons (x : Int) (r : List Int) (k : Nat) : cz (x :: r) k = cz r k + if x = (k : Int) then 1 else 0 := by
  unfold cz
  by_cases h : x = (k : Int)
  · rw [List.filter_cons_of_pos (by simpa using h), if_pos h]; rfl
  · rw [List.filter_cons_of_neg (by simpa using h), if_neg h]; rfl
theorem krS_cons (x : Nat) (r : List Int) : ∀ n, n ≤ 15 → krS ((x : Int) :: r) n = krS r n + if 1 ≤ x ∧ x ≤ n then 2 ^ (15 - x) else 0
  | 0, _ => by rw [krS, krS, if_neg (by omega)]
  | n + 1, h => by
    rw [krS, krS, krS_cons x r n (by omega), cn_pos _ (by omega), cn_pos _ (by omega), cz_cons]
    by_cases hx : x = n + 1
    · subst hx
      rw [if_neg (by omega), if_pos rfl, if_pos (by omega), Nat.add_mul]; omega
    · rw [if_neg (show ¬ (x : Int) = ((n + 1 : Nat) : Int) by omega)]
      by_cases h1 : 1 ≤ x ∧ x ≤ n
      · rw [if_pos h1, if_pos (by omega)]; simp only [Nat.add_zero]; omega
      · rw [if_neg h1, if_neg (by omega)]; simp only [Nat.add_zero]
theorem krS_kW : ∀ l : List Int, (∀ y ∈ l, 0 ≤ y ∧ y ≤ 15) → ((krS l 15 : Nat) : Int) = kW l
  | [], _ => by
    have : ∀ n, krS [] n = 0 := by
      intro n
      induction n with
      | zero => rfl
      | succ n ih => rw [krS, ih]; simp [cn, cz]
    rw [this]; rfl
  | y :: r, h => by
    have ih := krS_kW r fun z hz => h z (List.mem_cons_of_mem _ hz)
    have hy := h y (by simp)
    obtain ⟨x, rfl⟩ := Int.eq_ofNat_of_zero_le hy.1
    rw [krS_cons x r 15 (by omega)]
    have e : kW ((x : Int) :: r) = (if 0 < (x : Int) then 32768 / 2 ^ (x : Int).toNat else 0) + kW r := by simp [kW]
    rw [e, Int.toNat_natCast, ← ih]
    by_cases h1 : 1 ≤ x
    · rw [if_pos (by omega), if_pos (by omega), pow_pow x (by omega)]
      omega
    · rw [if_neg (by omega), if_neg (by omega)]; omega
theorem kW_kP (l : List Int) : kW l = ((kP l).map fun n => if 0 < n then (32768 : Int) / 2 ^ n.toNat else 0).sum := by
  induction l with
  | nil => rfl
  | cons x r ih =>
    have e : kW (x :: r) = (if 0 < x then 32768 / 2 ^ x.toNat else 0) + kW r := by simp [kW]
    rw [e, ih]
    unfold kP
    by_cases h : 0 < x
    · rw [List.filter_cons_of_pos (by simpa using h), if_pos h, List.map_cons, List.sum_cons, if_pos h]
    · rw [List.filter_cons_of_neg (by simpa using h), if_neg h, Int.zero_add]
theorem kindS_cases {l : List Int} (h : kindS l ≠ 0) : kP l = [] ∨ kP l = [1] ∨ kW l = 32768 := by
  have h1 : ¬ ∃ n ∈ l, kBad n := fun hb => h (by unfold kindS; rw [if_pos hb])
  unfold kindS at h
  rw [if_neg h1] at h
  by_cases h2 : kC l = 0
  · exact .inl (List.eq_nil_of_length_eq_zero h2)
  · rw [if_neg h2] at h
    by_cases h3 : kC l = 1 ∧ kO l = 1
    · refine .inr (.inl ?_)
      obtain ⟨x, hx⟩ := List.length_eq_one_iff.1 h3.1
      have h4 := h3.2
      rw [kO_kP, hx] at h4
      by_cases hx1 : x = 1
      · rw [hx, hx1]
      · simp [hx1] at h4
    · rw [if_neg h3] at h
      by_cases h4 : kW l = 32768
      · exact .inr (.inr h4)
      · rw [if_neg h4] at h; exact absurd rfl h
theorem krS_le {l : List Int} (h : kindS l ≠ 0) : krS l 15 ≤ 32768 := by
  have h1 := krS_kW l (kindS_valid h)
  rcases kindS_cases h with h2 | h2 | h2
  · rw [kW_kP, h2] at h1; simp at h1; omega
  · rw [kW_kP, h2] at h1
    have : (([1] : List Int).map fun n => if 0 < n then (32768 : Int) / 2 ^ n.toNat else 0).sum = 16384 := by decide
    rw [this] at h1; omega
  · rw [h2] at h1; omega
theorem krS_mono (l : List Int) {m n : Nat} (h : m ≤ n) : krS l m ≤ krS l n := by
  induction n with
  | zero => rw [show m = 0 by omega]; exact Nat.le_refl _
  | succ n ih =>
    by_cases hm : m = n + 1
    · rw [hm]; exact Nat.le_refl _
    · have := ih (by omega); rw [krS]; omega
/-- Words of n bits fit n bits. -/
theorem word_fits {l : List Int} (h : kindS l ≠ 0) {n : Nat} (hn : n ≤ 15) : baseW l n + cn l n ≤ 2 ^ n := by
  have h1 := krS_base l n hn
  have h2 := krS_mono l hn
  have h3 := krS_le h
  have h4 : 2 ^ n * 2 ^ (15 - n) = 32768 := by rw [← Nat.pow_add, show n + (15 - n) = 15 by omega]
  have h5 : (baseW l n + cn l n) * 2 ^ (15 - n) ≤ 2 ^ n * 2 ^ (15 - n) := by rw [h1, h4]; omega
  exact Nat.le_of_mul_le_mul_right h5 (Nat.pow_pos (by omega))
/-- A sign's word among the words of its length. -/
theorem wv_eq {l : List Int} {i n : Nat} (h : l.getD i 0 = (n : Int)) (hn : 0 < n) : wv l i = baseW l n + cn (l.take i) n := by
  unfold wv; rw [h, if_pos (by omega), Int.toNat_natCast]
theorem cz_take_lt {l : List Int} {i n : Nat} (hi : i < l.length) (h : l.getD i 0 = (n : Int)) : cz (l.take i) n < cz l n := by
  have hg : l[i] = (n : Int) := by rw [← h, List.getD_eq_getElem?_getD, List.getElem?_eq_getElem hi]; rfl
  have h1 := cz_snoc hi n
  rw [if_pos hg] at h1
  have h2 : cz (l.take (i + 1)) n ≤ cz l n := by
    conv => rhs; rw [← List.take_append_drop (i + 1) l]
    unfold cz; rw [List.filter_append, List.length_append]; omega
  omega
theorem wv_lt {l : List Int} {i n : Nat} (hi : i < l.length) (h : l.getD i 0 = (n : Int)) (hn : 0 < n) : baseW l n ≤ wv l i ∧ wv l i < baseW l n + cn l n := by
  rw [wv_eq h hn]
  have := cz_take_lt hi h
  rw [cn_pos _ (by omega), cn_pos _ (by omega)]; omega
/-- The sign at a place among those of its length. -/
theorem sg_at {l : List Int} {n r s : Nat} (h : (sg l n)[r]? = some s) : s < l.length ∧ l.getD s 0 = (n : Int) ∧ cz (l.take s) n = r := by
  have : ∀ i, i ≤ l.length → ∀ r s, (sgT l n i)[r]? = some s → s < l.length ∧ l.getD s 0 = (n : Int) ∧ cz (l.take s) n = r := by
    intro i
    induction i with
    | zero => intro _ r s h; simp [sgT] at h
    | succ i ih =>
      intro hi r s h
      have hil : i < l.length := by omega
      rw [sgT_snoc l n hil] at h
      by_cases hr : r < (sgT l n i).length
      · rw [List.getElem?_append_left hr] at h; exact ih (by omega) r s h
      · rw [List.getElem?_append_right (by omega)] at h
        by_cases hx : l[i] = (n : Int)
        · rw [if_pos hx] at h
          have h0 : r - (sgT l n i).length = 0 := by
            have := (List.getElem?_eq_some_iff.1 h).1
            simp at this; omega
          rw [h0] at h
          simp at h
          subst h
          refine ⟨hil, by rw [List.getD_eq_getElem?_getD, List.getElem?_eq_getElem hil]; exact hx, ?_⟩
          rw [← sgT_len l n i (by omega)]; omega
        · rw [if_neg hx] at h; simp at h
  exact this l.length (Nat.le_refl _) r s h
theorem sg_of {l : List Int} {n s : Nat} (hs : s < l.length) (h : l.getD s 0 = (n : Int)) : (sg l n)[cz (l.take s) n]? = some s := by
  have hg : l[s] = (n : Int) := by rw [← h, List.getD_eq_getElem?_getD, List.getElem?_eq_getElem hs]; rfl
  have : ∀ i, s < i → i ≤ l.length → (sgT l n i)[cz (l.take s) n]? = some s := by
    intro i
    induction i with
    | zero => intro h; omega
    | succ i ih =>
      intro h1 h2
      rw [sgT_snoc l n (by omega)]
      by_cases hi : s = i
      · subst hi
        rw [if_pos hg, ← sgT_len l n s (by omega), List.getElem?_append_right (by omega)]; simp
      · have h3 := ih (by omega) (by omega)
        rw [List.getElem?_append_left (List.getElem?_eq_some_iff.1 h3).1]; exact h3
  exact this l.length hs (Nat.le_refl _)
theorem lgF_ge {l : List Int} {n : Nat} (h : cn l n ≠ 0) : ∀ k, n ≤ k → n ≤ lgF l k
  | 0, hk => by omega
  | k + 1, hk => by
    unfold lgF
    by_cases hc : cn l (k + 1) = 0
    · rw [if_pos hc]
      by_cases hn : n = k + 1
      · subst hn; exact absurd hc h
      · exact lgF_ge h k (by omega)
    · rw [if_neg hc]; exact hk
theorem lgF_cn {l : List Int} : ∀ k, lgF l k ≠ 0 → cn l (lgF l k) ≠ 0
  | 0, h => absurd rfl h
  | k + 1, h => by
    unfold lgF at h ⊢
    by_cases hc : cn l (k + 1) = 0
    · rw [if_pos hc] at h ⊢; exact lgF_cn k h
    · rw [if_neg hc]; exact hc
/-- The number of bits, the first counting most. -/
def numW (l : List Bool) : Nat := l.foldl (fun a b => 2 * a + b.toNat) 0
theorem numW_snoc (l : List Bool) (b : Bool) : numW (l ++ [b]) = 2 * numW l + b.toNat := by simp [numW]
theorem numW_lt (l : List Bool) : numW l < 2 ^ l.length := by
  have : ∀ r : List Bool, numW r.reverse < 2 ^ r.length := by
    intro r
    induction r with
    | nil => decide
    | cons b r ih =>
      rw [List.reverse_cons, numW_snoc, List.length_cons, Nat.pow_succ]
      cases b <;> simp <;> omega
  have := this l.reverse
  simpa using this
theorem numW_wb (n v : Nat) : numW (wb n v) = v % 2 ^ n := by
  induction n generalizing v with
  | zero => simp [wb, bitsL, numW, Nat.mod_one]
  | succ n ih =>
    have e : wb (n + 1) v = wb n (v / 2) ++ [decide (v % 2 = 1)] := by
      unfold wb; rw [bitsL_consP, List.reverse_cons]
    rw [e, numW_snoc, ih, Nat.pow_succ, Nat.mul_comm (2 ^ n), Nat.mod_mul]
    have : (decide (v % 2 = 1)).toNat = v % 2 := by
      by_cases h : v % 2 = 1
      · rw [decide_eq_true h, h]; rfl
      · rw [decide_eq_false h, show v % 2 = 0 by omega]; rfl
    omega
theorem numW_inj {a b : List Bool} (hl : a.length = b.length) (h : numW a = numW b) : a = b := by
  have : ∀ (r s : List Bool), r.length = s.length → numW r.reverse = numW s.reverse → r = s := by
    intro r
    induction r with
    | nil => intro s hs _; exact (List.eq_nil_of_length_eq_zero (by simpa using hs.symm)).symm
    | cons x r ih =>
      intro s hs h
      cases s with
      | nil => simp at hs
      | cons y s =>
        rw [List.reverse_cons, List.reverse_cons, numW_snoc, numW_snoc] at h
        have hx : x = y := by cases x <;> cases y <;> simp at h ⊢ <;> omega
        subst hx
        rw [ih s (by simpa using hs) (by omega)]
  have h2 := this a.reverse b.reverse (by simpa using hl) (by simpa using h)
  simpa using congrArg List.reverse h2
theorem wb_take (n v m : Nat) (h : m ≤ n) : (wb n v).take m = wb m (v / 2 ^ (n - m)) := by
  apply numW_inj
  · rw [List.length_take, wb_len, wb_len]; omega
  · have : ∀ k, m + k = n → numW ((wb n v).take m) = numW (wb m (v / 2 ^ k)) := by
      intro k
      induction k generalizing n v with
      | zero => intro hk; rw [Nat.pow_zero, Nat.div_one, List.take_of_length_le (by rw [wb_len]; omega), show m = n by omega]
      | succ k ih =>
        intro hk
        obtain ⟨q, rfl⟩ : ∃ q, n = q + 1 := ⟨n - 1, by omega⟩
        have e : wb (q + 1) v = wb q (v / 2) ++ [decide (v % 2 = 1)] := by
          unfold wb; rw [bitsL_consP, List.reverse_cons]
        rw [e, List.take_append_of_le_length (by rw [wb_len]; omega), ih q (v / 2) (by omega) (by omega), Nat.div_div_eq_div_mul, Nat.pow_succ, Nat.mul_comm 2]
    exact this (n - m) (by omega)
end Go.Proofs.Ytgcdeadfkljeaaa
/- What is written is read; the document's Get reads the same. -/
namespace Go.Proofs.Ytgcdeadfkljeaaa
open Go.RowKit
set_option linter.unusedVariables false
set_option linter.unusedSimpArgs false

theorem base_mono (l : List Int) (m : Nat) : ∀ d, (baseW l m + cn l m) * 2 ^ (d + 1) ≤ baseW l (m + d + 1)
  | 0 => by rw [Nat.add_zero, baseW]; omega
  | d + 1 => by
    have := base_mono l m d
    rw [show m + (d + 1) + 1 = (m + d + 1) + 1 by omega, baseW, Nat.pow_succ, ← Nat.mul_assoc]
    omega
theorem take_succ_num (B : List Bool) {m : Nat} {b : Bool} (h : B[m]? = some b) : numW (B.take (m + 1)) = 2 * numW (B.take m) + b.toNat := by
  have hm := (List.getElem?_eq_some_iff.1 h).1
  have hb : B[m] = b := by rw [List.getElem?_eq_getElem hm] at h; simpa using h
  rw [List.take_succ_eq_append_getElem hm, numW_snoc, hb]
theorem take_num_lt (B : List Bool) (m : Nat) : numW (B.take m) < 2 ^ m := by
  have h1 := numW_lt (B.take m)
  have h2 : 2 ^ (B.take m).length ≤ 2 ^ m := Nat.pow_le_pow_right (by omega) (by rw [List.length_take]; omega)
  omega
theorem dec_word {l : List Int} (hk : kindS l ≠ 0) {s n : Nat} (hs : s < l.length) (hn : l.getD s 0 = (n : Int)) (h0 : 0 < n) (h15 : n ≤ 15) {B : List Bool} (hB : B.take n = wb n (wv l s)) : getS l B = ((s : Int), 0, n) := by
  have hv := wv_lt hs hn h0
  have hfit := word_fits hk h15
  have hlen : n ≤ B.length := by have := congrArg List.length hB; rw [List.length_take, wb_len] at this; omega
  have hc : cn l n ≠ 0 := by omega
  have hlg := lgF_ge hc 15 h15
  have hnum : ∀ m, m ≤ n → numW (B.take m) = wv l s / 2 ^ (n - m) := by
    intro m hm
    have h1 : B.take m = (B.take n).take m := by rw [List.take_take]; congr 1; omega
    rw [h1, hB, wb_take _ _ _ hm, numW_wb, Nat.mod_eq_of_lt]
    rw [Nat.div_lt_iff_lt_mul (Nat.pow_pos (by omega)), ← Nat.pow_add, show m + (n - m) = n by omega]
    omega
  have main : ∀ d m, m + d + 1 = n → decG l B (lgF l 15 - m) m (numW (B.take m)) = ((s : Int), 0, n) := by
    intro d
    induction d with
    | zero =>
      intro m hm
      have hbm : m < B.length := by omega
      rw [show lgF l 15 - m = (lgF l 15 - m - 1) + 1 by omega]
      unfold decG
      rw [List.getElem?_eq_getElem hbm]
      simp only
      have h1 := take_succ_num B (List.getElem?_eq_getElem hbm)
      rw [← h1, hnum (m + 1) (by omega), show m + 1 = n by omega, Nat.sub_self, Nat.pow_zero, Nat.div_one, if_pos hv.2]
      have h2 : (sg l n)[wv l s - baseW l n]? = some s := by
        have := sg_of hs hn
        rwa [show wv l s - baseW l n = cz (l.take s) n by rw [wv_eq hn h0, cn_pos _ (by omega)]; omega]
      rw [List.getD_eq_getElem?_getD, h2]; rfl
    | succ d ih =>
      intro m hm
      have hbm : m < B.length := by omega
      rw [show lgF l 15 - m = (lgF l 15 - (m + 1)) + 1 by omega]
      unfold decG
      rw [List.getElem?_eq_getElem hbm]
      simp only
      have h1 := take_succ_num B (List.getElem?_eq_getElem hbm)
      rw [← h1, if_neg]
      · exact ih (m + 1) (by omega)
      · rw [hnum (m + 1) (by omega), Nat.not_lt, Nat.le_div_iff_mul_le (Nat.pow_pos (by omega))]
        have h3 := base_mono l (m + 1) d
        rw [show n - (m + 1) = d + 1 by omega]
        rw [show m + 1 + d + 1 = n by omega] at h3
        omega
  have := main (n - 1) 0 (by omega)
  exact this
/-- A word of another length, or none. -/
theorem rwv_len {l : List Int} {i : Nat} : (rwv l i).length = (l.getD i 0).toNat := by
  unfold rwv
  by_cases h : 0 < l.getD i 0
  · rw [if_pos h, wb_len]
  · rw [if_neg h, List.length_nil]; omega
theorem rwv_eq {l : List Int} {i n : Nat} (h : l.getD i 0 = (n : Int)) (hn : 0 < n) : rwv l i = wb n (wv l i) := by
  unfold rwv; rw [h, if_pos (by omega), Int.toNat_natCast]
theorem rwsL_get {l : List Int} {i : Nat} (h : i < (rwsL l).length) : (rwsL l)[i] = rwv l i := by simp [rwsL]
theorem rwsL_length (l : List Int) : (rwsL l).length = l.length := by simp [rwsL]
theorem word_at {l : List Int} {k v : Nat} (hk : 0 < k) (h1 : baseW l k ≤ v) (h2 : v < baseW l k + cn l k) : ∃ s, (sg l k)[v - baseW l k]? = some s ∧ s < l.length ∧ l.getD s 0 = (k : Int) ∧ wv l s = v := by
  have hl : v - baseW l k < (sg l k).length := by rw [sg_len, ← cn_pos _ (by omega)]; omega
  obtain ⟨h3, h4, h5⟩ := sg_at (List.getElem?_eq_getElem hl)
  refine ⟨_, List.getElem?_eq_getElem hl, h3, h4, ?_⟩
  rw [wv_eq h4 hk, cn_pos _ (by omega), h5]; omega
theorem some_longer {l : List Int} (hk : kindS l ≠ 0) (B : List Bool) {m : Nat} (hm : m < lgF l 15) (hB : m ≤ B.length) (hw : baseW l m + cn l m ≤ numW (B.take m)) : (rwsL l).any (moreW (B.take m)) = true := by
  rw [List.any_eq_true]
  have htl : (B.take m).length = m := by rw [List.length_take]; omega
  have key : ∃ s k, m < k ∧ s < l.length ∧ l.getD s 0 = (k : Int) ∧ (rwv l s).take m = B.take m := by
    by_cases h0 : m = 0
    · subst h0
      have hne := lgF_cn (l := l) 15 (by omega)
      obtain ⟨s, _, h1, h2, _⟩ := word_at (l := l) (k := lgF l 15) (v := baseW l (lgF l 15)) hm (Nat.le_refl _) (by omega)
      exact ⟨s, _, hm, h1, h2, by simp⟩
    · have hwh : krS l 15 = 32768 := by
        have h1 := krS_kW l (kindS_valid hk)
        have hone : ∀ P : List Int, kP l = P → ∀ k, 1 ≤ k → cn l k = (P.filter fun x => decide (x = (k : Int))).length := by
          intro P hP k hk
          rw [cn_pos _ (by omega), ← hP]
          unfold cz kP
          rw [List.filter_filter]
          congr 1
          refine List.filter_congr fun x _ => ?_
          by_cases hx : x = (k : Int)
          · have : 0 < x := by omega
            simp [hx, this]; omega
          · simp [hx]
        rcases kindS_cases hk with h2 | h2 | h2
        · have := lgF_cn (l := l) 15 (by omega)
          rw [hone [] h2 _ (by omega)] at this
          simp at this
        · have := lgF_cn (l := l) 15 (by omega)
          rw [hone [1] h2 _ (by omega)] at this
          have h3 : ¬ (1 : Int) = ((lgF l 15 : Nat) : Int) := by omega
          simp [h3] at this
        · rw [h2] at h1; omega
      have hm15 : m ≤ 15 := by have := lgF_le l 15; omega
      have hlt := take_num_lt B m
      have hF15 : numW (B.take m) * 2 ^ (15 - m) < baseW l (m + (15 - m)) + cn l (m + (15 - m)) := by
        have h1 := krS_base l 15 (Nat.le_refl _)
        rw [hwh] at h1
        have h2 : 2 ^ m * 2 ^ (15 - m) = 32768 := by rw [← Nat.pow_add, show m + (15 - m) = 15 by omega]
        have h3 : numW (B.take m) * 2 ^ (15 - m) < 2 ^ m * 2 ^ (15 - m) := (Nat.mul_lt_mul_right (Nat.pow_pos (by omega))).2 hlt
        rw [show m + (15 - m) = 15 by omega]
        simp at h1
        omega
      have find : ∀ d, numW (B.take m) * 2 ^ d < baseW l (m + d) + cn l (m + d) → ∃ k, m < k ∧ baseW l k ≤ numW (B.take m) * 2 ^ (k - m) ∧ numW (B.take m) * 2 ^ (k - m) < baseW l k + cn l k := by
        intro d
        induction d with
        | zero => intro h; simp at h; omega
        | succ d ih =>
          intro h
          by_cases h2 : numW (B.take m) * 2 ^ d < baseW l (m + d) + cn l (m + d)
          · exact ih h2
          · refine ⟨m + (d + 1), by omega, ?_, by rw [show m + (d + 1) - m = d + 1 by omega]; exact h⟩
            rw [show m + (d + 1) - m = d + 1 by omega, show m + (d + 1) = (m + d) + 1 by omega, baseW, Nat.pow_succ, ← Nat.mul_assoc]
            omega
      obtain ⟨k, hkm, h1, h2⟩ := find (15 - m) hF15
      obtain ⟨s, _, h3, h4, h5⟩ := word_at (by omega) h1 h2
      refine ⟨s, k, hkm, h3, h4, ?_⟩
      rw [rwv_eq h4 (by omega), h5, wb_take _ _ _ (by omega), Nat.mul_div_cancel _ (Nat.pow_pos (by omega))]
      apply numW_inj
      · rw [wb_len, htl]
      · rw [numW_wb, Nat.mod_eq_of_lt hlt]
  obtain ⟨s, k, h1, h2, h3, h4⟩ := key
  refine ⟨rwv l s, ?_, ?_⟩
  · rw [← rwsL_get (by rw [rwsL_length]; exact h2)]; exact List.getElem_mem _
  · unfold moreW
    rw [htl, h4, rwv_len, h3, Int.toNat_natCast]
    simp [h1]
theorem none_longer {l : List Int} (hk : kindS l ≠ 0) (B : List Bool) {m : Nat} (hm : lgF l 15 ≤ m) (hB : m ≤ B.length) : (rwsL l).any (moreW (B.take m)) = false := by
  rw [List.any_eq_false]
  intro x hx hmore
  obtain ⟨i, hi, rfl⟩ := List.mem_iff_getElem.1 hx
  rw [rwsL_get hi] at hmore
  rw [rwsL_length] at hi
  unfold moreW at hmore
  have htl : (B.take m).length = m := by rw [List.length_take]; omega
  rw [htl, rwv_len] at hmore
  simp only [Bool.and_eq_true, decide_eq_true_eq] at hmore
  have hy := kindS_valid hk (l.getD i 0) (by rw [List.getD_eq_getElem?_getD, List.getElem?_eq_getElem hi]; exact List.getElem_mem _)
  obtain ⟨n, hn⟩ := Int.eq_ofNat_of_zero_le hy.1
  rw [hn, Int.toNat_natCast] at hmore
  have h1 := wv_lt hi hn (by omega)
  have := lgF_ge (l := l) (n := n) (by omega) 15 (by omega)
  omega
theorem find_none {l : List Int} (hk : kindS l ≠ 0) (B : List Bool) {m : Nat} (hB : m ≤ B.length) (hw : baseW l m + cn l m ≤ numW (B.take m)) : (rwsL l).findIdx? (isW (B.take m)) = none := by
  rw [List.findIdx?_eq_none_iff]
  intro x hx
  obtain ⟨i, hi, rfl⟩ := List.mem_iff_getElem.1 hx
  rw [rwsL_get hi]
  rw [rwsL_length] at hi
  refine Bool.eq_false_iff.2 fun h => ?_
  unfold isW at h
  simp only [Bool.and_eq_true, decide_eq_true_eq] at h
  obtain ⟨h1, h2⟩ := h
  have hl : (rwv l i).length = m := by rw [h2, List.length_take]; omega
  rw [rwv_len] at hl
  have h0 : m ≠ 0 := by rintro rfl; exact h1 (List.eq_nil_of_length_eq_zero (by rw [rwv_len]; exact hl))
  have hn : l.getD i 0 = (m : Int) := by omega
  have h3 := wv_lt hi hn (by omega)
  rw [rwv_eq hn (by omega)] at h2
  have h4 := congrArg numW h2
  rw [numW_wb] at h4
  have h5 := Nat.mod_le (wv l i) (2 ^ m)
  omega
theorem find_some {l : List Int} (hk : kindS l ≠ 0) (B : List Bool) {m : Nat} (hm : 0 < m) (h15 : m ≤ 15) (hB : m ≤ B.length) (h1 : baseW l m ≤ numW (B.take m)) (h2 : numW (B.take m) < baseW l m + cn l m) :
    (rwsL l).findIdx? (isW (B.take m)) = some ((sg l m).getD (numW (B.take m) - baseW l m) 0) := by
  obtain ⟨s, h3, h4, h5, h6⟩ := word_at hm h1 h2
  have htl : (B.take m).length = m := by rw [List.length_take]; omega
  have hfit := word_fits hk h15
  rw [List.getD_eq_getElem?_getD, h3]
  show _ = some s
  rw [List.findIdx?_eq_some_iff_getElem]
  have hw : ∀ j, j < l.length → (isW (B.take m) (rwv l j) = true ↔ l.getD j 0 = (m : Int) ∧ wv l j = numW (B.take m)) := by
    intro j hj
    unfold isW
    simp only [Bool.and_eq_true, decide_eq_true_eq]
    constructor
    · rintro ⟨h7, h8⟩
      have hl : (rwv l j).length = m := by rw [h8, htl]
      rw [rwv_len] at hl
      have hn : l.getD j 0 = (m : Int) := by omega
      refine ⟨hn, ?_⟩
      have h9 := wv_lt hj hn hm
      rw [rwv_eq hn hm] at h8
      have h10 := congrArg numW h8
      rw [numW_wb, Nat.mod_eq_of_lt (by omega)] at h10
      exact h10
    · rintro ⟨h7, h8⟩
      have h9 : rwv l j = B.take m := by
        rw [rwv_eq h7 hm, h8]
        apply numW_inj
        · rw [wb_len, htl]
        · rw [numW_wb, Nat.mod_eq_of_lt (take_num_lt B m)]
      refine ⟨?_, h9⟩
      rw [h9]; intro e; rw [e] at htl; simp at htl; omega
  refine ⟨by rw [rwsL_length]; exact h4, ?_, ?_⟩
  · rw [rwsL_get, (hw s h4)]; exact ⟨h5, h6⟩
  · intro j hj
    have hjl : j < l.length := by omega
    rw [rwsL_get]
    intro hc
    obtain ⟨h7, h8⟩ := (hw j hjl).1 hc
    have h9 := sg_of hjl h7
    have h10 := sg_of h4 h5
    have e1 : cz (l.take j) m = cz (l.take s) m := by
      have a1 := wv_eq h7 hm
      have a2 := wv_eq h5 hm
      rw [cn_pos _ (by omega)] at a1 a2
      omega
    rw [e1, h10] at h9
    simp at h9; omega
theorem ref_get {l : List Int} (hk : kindS l ≠ 0) (B : List Bool) : refS (rwsL l) B = getS l B := by
  have hlg := lgF_le l 15
  have main : ∀ d m, m + d = lgF l 15 → m ≤ B.length → baseW l m + cn l m ≤ numW (B.take m) → refG (rwsL l) B (B.length + 1 - m) m = decG l B d m (numW (B.take m)) := by
    intro d
    induction d with
    | zero =>
      intro m hm hB hw
      rw [show B.length + 1 - m = (B.length - m) + 1 by omega]
      unfold refG decG
      rw [find_none hk B hB hw, none_longer hk B (by omega) hB]
      simp
    | succ d ih =>
      intro m hm hB hw
      rw [show B.length + 1 - m = (B.length - m) + 1 by omega]
      conv => lhs; unfold refG
      conv => rhs; unfold decG
      rw [find_none hk B hB hw, some_longer hk B (by omega) hB hw]
      cases hb : B[m]? with
      | none => simp
      | some b =>
        have hbm := (List.getElem?_eq_some_iff.1 hb).1
        have h1 := take_succ_num B hb
        simp only [if_true]
        rw [← h1]
        have hbase : baseW l (m + 1) ≤ numW (B.take (m + 1)) := by rw [h1, baseW]; omega
        by_cases hlt : numW (B.take (m + 1)) < baseW l (m + 1) + cn l (m + 1)
        · rw [if_pos hlt, show B.length - m = (B.length - (m + 1)) + 1 by omega]
          unfold refG
          rw [find_some hk B (by omega) (by omega) (by omega) hbase hlt]
        · rw [if_neg hlt, show B.length - m = B.length + 1 - (m + 1) by omega]
          exact ih (m + 1) (by omega) (by omega) (by omega)
  have := main (lgF l 15) 0 (by omega) (Nat.zero_le _) (by simp [baseW, cn])
  exact this
/-- A word's number. -/
theorem word_num {l : List Int} (hk : kindS l ≠ 0) {i : Nat} (hi : i < l.length) : numM (rwv l i) = wv l i := by
  have hy := kindS_valid hk (l.getD i 0) (by rw [List.getD_eq_getElem?_getD, List.getElem?_eq_getElem hi]; exact List.getElem_mem _)
  obtain ⟨n, hn⟩ := Int.eq_ofNat_of_zero_le hy.1
  by_cases h0 : n = 0
  · subst h0
    have h1 : rwv l i = [] := by unfold rwv; rw [hn]; rfl
    have h2 : wv l i = 0 := by unfold wv; rw [hn]; rfl
    rw [h1, h2]; rfl
  · rw [rwv_eq hn (by omega), numM_numL]
    unfold wb
    rw [List.reverse_reverse, numL_numF _ (by rw [bitsL_length]; omega), numF_bitsL, Nat.mod_eq_of_lt]
    have h1 := wv_lt hi hn (by omega)
    have h2 := word_fits hk (n := n) (by omega)
    omega
end Go.Proofs.Ytgcdeadfkljeaaa
