/- Plain laws of words: Kraft's sum; which signs bits tell. -/
import Derived.Test.YtnmdgmjheopolaaPreG
import Derived.Test.YtnmdgmjheopolaaPreH
namespace Go.Proofs.Ytnmdgmjheopolaa
open Go.RowKit
set_option linter.unusedVariables false
set_option linter.unusedSimpArgs false

/-- The weight of words of up to n bits. -/
def krS (l : List Int) : Nat → Nat
  | 0 => 0
  | n + 1 => krS l n + cn l (n + 1) * 2 ^ (15 - (n + 1))
theorem krS_base (l : List Int) : ∀ n, n ≤ 15 → (baseW l n + cn l n) * 2 ^ (15 - n) = krS l n
  | 0, _ => by simp [baseW, cn, krS]
  | n + 1, h => by
    have ih := krS_base l n (by omega)
    rw [krS, ← ih, baseW, Nat.add_mul]
    congr 1
    rw [show 15 - n = (15 - (n + 1)) + 1 by omega, Nat.pow_succ, Nat.mul_comm 2, Nat.mul_assoc, Nat.mul_comm 2]
theorem cz_cons (x : Int) (r : List Int) (k : Nat) : cz (x :: r) k = cz r k + if x = (k : Int) then 1 else 0 := by
  unfold cz
  by_cases h : x = (k : Int)
  · rw [List.filter_cons_of_pos (by simpa using h), if_pos h]; rfl
  · rw [List.filter_cons_of_neg (by simpa using h), if_neg h]; rfl
theorem krS_cons (x : Nat) (r : List Int) : ∀ n, n ≤ 15 → krS ((x : Int) :: r) n = krS r n + if 1 ≤ x ∧ x ≤ n then 2 ^ (15 - x) else 0
  | 0, _ => by rw [krS, krS, if_neg (by omega)]
  | n + 1, h => by
    rw [krS, krS, krS_cons x r n (by omega), cn_pos _ (by omega), cn_pos _ (by omega), cz_cons]
    by_cases hx : x = n + 1
    · subst hx
      rw [if_neg (by omega), if_pos rfl, if_pos (by omega), Nat.add_mul]; omega
    · rw [if_neg (show ¬ (x : Int) = ((n + 1 : Nat) : Int) by omega)]
      by_cases h1 : 1 ≤ x ∧ x ≤ n
      · rw [if_pos h1, if_pos (by omega)]; simp only [Nat.add_zero]; omega
      · rw [if_neg h1, if_neg (by omega)]; simp only [Nat.add_zero]
theorem krS_kW : ∀ l : List Int, (∀ y ∈ l, 0 ≤ y ∧ y ≤ 15) → ((krS l 15 : Nat) : Int) = kW l
  | [], _ => by
    have : ∀ n, krS [] n = 0 := by
      intro n
      induction n with
      | zero => rfl
      | succ n ih => rw [krS, ih]; simp [cn, cz]
    rw [this]; rfl
  | y :: r, h => by
    have ih := krS_kW r fun z hz => h z (List.mem_cons_of_mem _ hz)
    have hy := h y (by simp)
    obtain ⟨x, rfl⟩ := Int.eq_ofNat_of_zero_le hy.1
    rw [krS_cons x r 15 (by omega)]
    have e : kW ((x : Int) :: r) = (if 0 < (x : Int) then 32768 / 2 ^ (x : Int).toNat else 0) + kW r := by simp [kW]
    rw [e, Int.toNat_natCast, ← ih]
    by_cases h1 : 1 ≤ x
    · rw [if_pos (by omega), if_pos (by omega), pow_pow x (by omega)]
      omega
    · rw [if_neg (by omega), if_neg (by omega)]; omega
theorem kW_kP (l : List Int) : kW l = ((kP l).map fun n => if 0 < n then (32768 : Int) / 2 ^ n.toNat else 0).sum := by
  induction l with
  | nil => rfl
  | cons x r ih =>
    have e : kW (x :: r) = (if 0 < x then 32768 / 2 ^ x.toNat else 0) + kW r := by simp [kW]
    rw [e, ih]
    unfold kP
    by_cases h : 0 < x
    · rw [List.filter_cons_of_pos (by simpa using h), if_pos h, List.map_cons, List.sum_cons, if_pos h]
    · rw [List.filter_cons_of_neg (by simpa using h), if_neg h, Int.zero_add]
theorem kindS_cases {l : List Int} (h : kindS l ≠ 0) : kP l = [] ∨ kP l = [1] ∨ kW l = 32768 := by
  have h1 : ¬ ∃ n ∈ l, kBad n := fun hb => h (by unfold kindS; rw [if_pos hb])
  unfold kindS at h
  rw [if_neg h1] at h
  by_cases h2 : kC l = 0
  · exact .inl (List.eq_nil_of_length_eq_zero h2)
  · rw [if_neg h2] at h
    by_cases h3 : kC l = 1 ∧ kO l = 1
    · refine .inr (.inl ?_)
      obtain ⟨x, hx⟩ := List.length_eq_one_iff.1 h3.1
      have h4 := h3.2
      rw [kO_kP, hx] at h4
      by_cases hx1 : x = 1
      · rw [hx, hx1]
      · simp [hx1] at h4
    · rw [if_neg h3] at h
      by_cases h4 : kW l = 32768
      · exact .inr (.inr h4)
      · rw [if_neg h4] at h; exact absurd rfl h
theorem krS_le {l : List Int} (h : kindS l ≠ 0) : krS l 15 ≤ 32768 := by
  have h1 := krS_kW l (kindS_valid h)
  rcases kindS_cases h with h2 | h2 | h2
  · rw [kW_kP, h2] at h1; simp at h1; omega
  · rw [kW_kP, h2] at h1
    have : (([1] : List Int).map fun n => if 0 < n then (32768 : Int) / 2 ^ n.toNat else 0).sum = 16384 := by decide
    rw [this] at h1; omega
  · rw [h2] at h1; omega
theorem krS_mono (l : List Int) {m n : Nat} (h : m ≤ n) : krS l m ≤ krS l n := by
  induction n with
  | zero => rw [show m = 0 by omega]; exact Nat.le_refl _
  | succ n ih =>
    by_cases hm : m = n + 1
    · rw [hm]; exact Nat.le_refl _
    · have := ih (by omega); rw [krS]; omega
/-- Words of n bits fit n bits. -/
theorem word_fits {l : List Int} (h : kindS l ≠ 0) {n : Nat} (hn : n ≤ 15) : baseW l n + cn l n ≤ 2 ^ n := by
  have h1 := krS_base l n hn
  have h2 := krS_mono l hn
  have h3 := krS_le h
  have h4 : 2 ^ n * 2 ^ (15 - n) = 32768 := by rw [← Nat.pow_add, show n + (15 - n) = 15 by omega]
  have h5 : (baseW l n + cn l n) * 2 ^ (15 - n) ≤ 2 ^ n * 2 ^ (15 - n) := by rw [h1, h4]; omega
  exact Nat.le_of_mul_le_mul_right h5 (Nat.pow_pos (by omega))
/-- A sign's word among the words of its length. -/
theorem wv_eq {l : List Int} {i n : Nat} (h : l.getD i 0 = (n : Int)) (hn : 0 < n) : wv l i = baseW l n + cn (l.take i) n := by
  unfold wv; rw [h, if_pos (by omega), Int.toNat_natCast]
theorem cz_take_lt {l : List Int} {i n : Nat} (hi : i < l.length) (h : l.getD i 0 = (n : Int)) : cz (l.take i) n < cz l n := by
  have hg : l[i] = (n : Int) := by rw [← h, List.getD_eq_getElem?_getD, List.getElem?_eq_getElem hi]; rfl
  have h1 := cz_snoc hi n
  rw [if_pos hg] at h1
  have h2 : cz (l.take (i + 1)) n ≤ cz l n := by
    conv => rhs; rw [← List.take_append_drop (i + 1) l]
    unfold cz; rw [List.filter_append, List.length_append]; omega
  omega
theorem wv_lt {l : List Int} {i n : Nat} (hi : i < l.length) (h : l.getD i 0 = (n : Int)) (hn : 0 < n) : baseW l n ≤ wv l i ∧ wv l i < baseW l n + cn l n := by
  rw [wv_eq h hn]
  have := cz_take_lt hi h
  rw [cn_pos _ (by omega), cn_pos _ (by omega)]; omega
/-- The sign at a place among those of its length. -/
theorem sg_at {l : List Int} {n r s : Nat} (h : (sg l n)[r]? = some s) : s < l.length ∧ l.getD s 0 = (n : Int) ∧ cz (l.take s) n = r := by
  have : ∀ i, i ≤ l.length → ∀ r s, (sgT l n i)[r]? = some s → s < l.length ∧ l.getD s 0 = (n : Int) ∧ cz (l.take s) n = r := by
    intro i
    induction i with
    | zero => intro _ r s h; simp [sgT] at h
    | succ i ih =>
      intro hi r s h
      have hil : i < l.length := by omega
      rw [sgT_snoc l n hil] at h
      by_cases hr : r < (sgT l n i).length
      · rw [List.getElem?_append_left hr] at h; exact ih (by omega) r s h
      · rw [List.getElem?_append_right (by omega)] at h
        by_cases hx : l[i] = (n : Int)
        · rw [if_pos hx] at h
          have h0 : r - (sgT l n i).length = 0 := by
            have := (List.getElem?_eq_some_iff.1 h).1
            simp at this; omega
          rw [h0] at h
          simp at h
          subst h
          refine ⟨hil, by rw [List.getD_eq_getElem?_getD, List.getElem?_eq_getElem hil]; exact hx, ?_⟩
          rw [← sgT_len l n i (by omega)]; omega
        · rw [if_neg hx] at h; simp at h
  exact this l.length (Nat.le_refl _) r s h
theorem sg_of {l : List Int} {n s : Nat} (hs : s < l.length) (h : l.getD s 0 = (n : Int)) : (sg l n)[cz (l.take s) n]? = some s := by
  have hg : l[s] = (n : Int) := by rw [← h, List.getD_eq_getElem?_getD, List.getElem?_eq_getElem hs]; rfl
  have : ∀ i, s < i → i ≤ l.length → (sgT l n i)[cz (l.take s) n]? = some s := by
    intro i
    induction i with
    | zero => intro h; omega
    | succ i ih =>
      intro h1 h2
      rw [sgT_snoc l n (by omega)]
      by_cases hi : s = i
      · subst hi
        rw [if_pos hg, ← sgT_len l n s (by omega), List.getElem?_append_right (by omega)]; simp
      · have h3 := ih (by omega) (by omega)
        rw [List.getElem?_append_left (List.getElem?_eq_some_iff.1 h3).1]; exact h3
  exact this l.length hs (Nat.le_refl _)
theorem lgF_ge {l : List Int} {n : Nat} (h : cn l n ≠ 0) : ∀ k, n ≤ k → n ≤ lgF l k
  | 0, hk => by omega
  | k + 1, hk => by
    unfold lgF
    by_cases hc : cn l (k + 1) = 0
    · rw [if_pos hc]
      by_cases hn : n = k + 1
      · subst hn; exact absurd hc h
      · exact lgF_ge h k (by omega)
    · rw [if_neg hc]; exact hk
theorem lgF_cn {l : List Int} : ∀ k, lgF l k ≠ 0 → cn l (lgF l k) ≠ 0
  | 0, h => absurd rfl h
  | k + 1, h => by
    unfold lgF at h ⊢
    by_cases hc : cn l (k + 1) = 0
    · rw [if_pos hc] at h ⊢; exact lgF_cn k h
    · rw [if_neg hc]; exact hc
/-- The number of bits, the first counting most. -/
def numW (l : List Bool) : Nat := l.foldl (fun a b => 2 * a + b.toNat) 0
theorem numW_snoc (l : List Bool) (b : Bool) : numW (l ++ [b]) = 2 * numW l + b.toNat := by simp [numW]
theorem numW_lt (l : List Bool) : numW l < 2 ^ l.length := by
  have : ∀ r : List Bool, numW r.reverse < 2 ^ r.length := by
    intro r
    induction r with
    | nil => decide
    | cons b r ih =>
      rw [List.reverse_cons, numW_snoc, List.length_cons, Nat.pow_succ]
      cases b <;> simp <;> omega
  have := this l.reverse
  simpa using this
theorem numW_wb (n v : Nat) : numW (wb n v) = v % 2 ^ n := by
  induction n generalizing v with
  | zero => simp [wb, bitsL, numW, Nat.mod_one]
  | succ n ih =>
    have e : wb (n + 1) v = wb n (v / 2) ++ [decide (v % 2 = 1)] := by
      unfold wb; rw [bitsL_consP, List.reverse_cons]
    rw [e, numW_snoc, ih, Nat.pow_succ, Nat.mul_comm (2 ^ n), Nat.mod_mul]
    have : (decide (v % 2 = 1)).toNat = v % 2 := by
      by_cases h : v % 2 = 1
      · rw [decide_eq_true h, h]; rfl
      · rw [decide_eq_false h, show v % 2 = 0 by omega]; rfl
    omega
theorem numW_inj {a b : List Bool} (hl : a.length = b.length) (h : numW a = numW b) : a = b := by
  have : ∀ (r s : List Bool), r.length = s.length → numW r.reverse = numW s.reverse → r = s := by
    intro r
    induction r with
    | nil => intro s hs _; exact (List.eq_nil_of_length_eq_zero (by simpa using hs.symm)).symm
    | cons x r ih =>
      intro s hs h
      cases s with
      | nil => simp at hs
      | cons y s =>
        rw [List.reverse_cons, List.reverse_cons, numW_snoc, numW_snoc] at h
        have hx : x = y := by cases x <;> cases y <;> simp at h ⊢ <;> omega
        subst hx
        rw [ih s (by simpa using hs) (by omega)]
  have h2 := this a.reverse b.reverse (by simpa using hl) (by simpa using h)
  simpa using congrArg List.reverse h2
theorem wb_take (n v m : Nat) (h : m ≤ n) : (wb n v).take m = wb m (v / 2 ^ (n - m)) := by
  apply numW_inj
  · rw [List.length_take, wb_len, wb_len]; omega
  · have : ∀ k, m + k = n → numW ((wb n v).take m) = numW (wb m (v / 2 ^ k)) := by
      intro k
      induction k generalizing n v with
      | zero => intro hk; rw [Nat.pow_zero, Nat.div_one, List.take_of_length_le (by rw [wb_len]; omega), show m = n by omega]
      | succ k ih =>
        intro hk
        obtain ⟨q, rfl⟩ : ∃ q, n = q + 1 := ⟨n - 1, by omega⟩
        have e : wb (q + 1) v = wb q (v / 2) ++ [decide (v % 2 = 1)] := by
          unfold wb; rw [bitsL_consP, List.reverse_cons]
        rw [e, List.take_append_of_le_length (by rw [wb_len]; omega), ih q (v / 2) (by omega) (by omega), Nat.div_div_eq_div_mul, Nat.pow_succ, Nat.mul_comm 2]
    exact this (n - m) (by omega)
end Go.Proofs.Ytnmdgmjheopolaa
