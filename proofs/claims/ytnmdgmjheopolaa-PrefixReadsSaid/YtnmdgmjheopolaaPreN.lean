/- What is written is read; the document's Get reads the same. -/
import Derived.Test.YtnmdgmjheopolaaPreM
namespace Go.Proofs.Ytnmdgmjheopolaa
open Go.RowKit
set_option linter.unusedVariables false
set_option linter.unusedSimpArgs false

theorem base_mono (l : List Int) (m : Nat) : ∀ d, (baseW l m + cn l m) * 2 ^ (d + 1) ≤ baseW l (m + d + 1)
  | 0 => by rw [Nat.add_zero, baseW]; omega
  | d + 1 => by
    have := base_mono l m d
    rw [show m + (d + 1) + 1 = (m + d + 1) + 1 by omega, baseW, Nat.pow_succ, ← Nat.mul_assoc]
    omega
theorem take_succ_num (B : List Bool) {m : Nat} {b : Bool} (h : B[m]? = some b) : numW (B.take (m + 1)) = 2 * numW (B.take m) + b.toNat := by
  have hm := (List.getElem?_eq_some_iff.1 h).1
  have hb : B[m] = b := by rw [List.getElem?_eq_getElem hm] at h; simpa using h
  rw [List.take_succ_eq_append_getElem hm, numW_snoc, hb]
theorem take_num_lt (B : List Bool) (m : Nat) : numW (B.take m) < 2 ^ m := by
  have h1 := numW_lt (B.take m)
  have h2 : 2 ^ (B.take m).length ≤ 2 ^ m := Nat.pow_le_pow_right (by omega) (by rw [List.length_take]; omega)
  omega
theorem dec_word {l : List Int} (hk : kindS l ≠ 0) {s n : Nat} (hs : s < l.length) (hn : l.getD s 0 = (n : Int)) (h0 : 0 < n) (h15 : n ≤ 15) {B : List Bool} (hB : B.take n = wb n (wv l s)) : getS l B = ((s : Int), 0, n) := by
  have hv := wv_lt hs hn h0
  have hfit := word_fits hk h15
  have hlen : n ≤ B.length := by have := congrArg List.length hB; rw [List.length_take, wb_len] at this; omega
  have hc : cn l n ≠ 0 := by omega
  have hlg := lgF_ge hc 15 h15
  have hnum : ∀ m, m ≤ n → numW (B.take m) = wv l s / 2 ^ (n - m) := by
    intro m hm
    have h1 : B.take m = (B.take n).take m := by rw [List.take_take]; congr 1; omega
    rw [h1, hB, wb_take _ _ _ hm, numW_wb, Nat.mod_eq_of_lt]
    rw [Nat.div_lt_iff_lt_mul (Nat.pow_pos (by omega)), ← Nat.pow_add, show m + (n - m) = n by omega]
    omega
  have main : ∀ d m, m + d + 1 = n → decG l B (lgF l 15 - m) m (numW (B.take m)) = ((s : Int), 0, n) := by
    intro d
    induction d with
    | zero =>
      intro m hm
      have hbm : m < B.length := by omega
      rw [show lgF l 15 - m = (lgF l 15 - m - 1) + 1 by omega]
      unfold decG
      rw [List.getElem?_eq_getElem hbm]
      simp only
      have h1 := take_succ_num B (List.getElem?_eq_getElem hbm)
      rw [← h1, hnum (m + 1) (by omega), show m + 1 = n by omega, Nat.sub_self, Nat.pow_zero, Nat.div_one, if_pos hv.2]
      have h2 : (sg l n)[wv l s - baseW l n]? = some s := by
        have := sg_of hs hn
        rwa [show wv l s - baseW l n = cz (l.take s) n by rw [wv_eq hn h0, cn_pos _ (by omega)]; omega]
      rw [List.getD_eq_getElem?_getD, h2]; rfl
    | succ d ih =>
      intro m hm
      have hbm : m < B.length := by omega
      rw [show lgF l 15 - m = (lgF l 15 - (m + 1)) + 1 by omega]
      unfold decG
      rw [List.getElem?_eq_getElem hbm]
      simp only
      have h1 := take_succ_num B (List.getElem?_eq_getElem hbm)
      rw [← h1, if_neg]
      · exact ih (m + 1) (by omega)
      · rw [hnum (m + 1) (by omega), Nat.not_lt, Nat.le_div_iff_mul_le (Nat.pow_pos (by omega))]
        have h3 := base_mono l (m + 1) d
        rw [show n - (m + 1) = d + 1 by omega]
        rw [show m + 1 + d + 1 = n by omega] at h3
        omega
  have := main (n - 1) 0 (by omega)
  exact this
/-- A word of another length, or none. -/
theorem rwv_len {l : List Int} {i : Nat} : (rwv l i).length = (l.getD i 0).toNat := by
  unfold rwv
  by_cases h : 0 < l.getD i 0
  · rw [if_pos h, wb_len]
  · rw [if_neg h, List.length_nil]; omega
theorem rwv_eq {l : List Int} {i n : Nat} (h : l.getD i 0 = (n : Int)) (hn : 0 < n) : rwv l i = wb n (wv l i) := by
  unfold rwv; rw [h, if_pos (by omega), Int.toNat_natCast]
theorem rwsL_get {l : List Int} {i : Nat} (h : i < (rwsL l).length) : (rwsL l)[i] = rwv l i := by simp [rwsL]
theorem rwsL_length (l : List Int) : (rwsL l).length = l.length := by simp [rwsL]
theorem word_at {l : List Int} {k v : Nat} (hk : 0 < k) (h1 : baseW l k ≤ v) (h2 : v < baseW l k + cn l k) : ∃ s, (sg l k)[v - baseW l k]? = some s ∧ s < l.length ∧ l.getD s 0 = (k : Int) ∧ wv l s = v := by
  have hl : v - baseW l k < (sg l k).length := by rw [sg_len, ← cn_pos _ (by omega)]; omega
  obtain ⟨h3, h4, h5⟩ := sg_at (List.getElem?_eq_getElem hl)
  refine ⟨_, List.getElem?_eq_getElem hl, h3, h4, ?_⟩
  rw [wv_eq h4 hk, cn_pos _ (by omega), h5]; omega
theorem some_longer {l : List Int} (hk : kindS l ≠ 0) (B : List Bool) {m : Nat} (hm : m < lgF l 15) (hB : m ≤ B.length) (hw : baseW l m + cn l m ≤ numW (B.take m)) : (rwsL l).any (moreW (B.take m)) = true := by
  rw [List.any_eq_true]
  have htl : (B.take m).length = m := by rw [List.length_take]; omega
  have key : ∃ s k, m < k ∧ s < l.length ∧ l.getD s 0 = (k : Int) ∧ (rwv l s).take m = B.take m := by
    by_cases h0 : m = 0
    · subst h0
      have hne := lgF_cn (l := l) 15 (by omega)
      obtain ⟨s, _, h1, h2, _⟩ := word_at (l := l) (k := lgF l 15) (v := baseW l (lgF l 15)) hm (Nat.le_refl _) (by omega)
      exact ⟨s, _, hm, h1, h2, by simp⟩
    · have hwh : krS l 15 = 32768 := by
        have h1 := krS_kW l (kindS_valid hk)
        have hone : ∀ P : List Int, kP l = P → ∀ k, 1 ≤ k → cn l k = (P.filter fun x => decide (x = (k : Int))).length := by
          intro P hP k hk
          rw [cn_pos _ (by omega), ← hP]
          unfold cz kP
          rw [List.filter_filter]
          congr 1
          refine List.filter_congr fun x _ => ?_
          by_cases hx : x = (k : Int)
          · have : 0 < x := by omega
            simp [hx, this]; omega
          · simp [hx]
        rcases kindS_cases hk with h2 | h2 | h2
        · have := lgF_cn (l := l) 15 (by omega)
          rw [hone [] h2 _ (by omega)] at this
          simp at this
        · have := lgF_cn (l := l) 15 (by omega)
          rw [hone [1] h2 _ (by omega)] at this
          have h3 : ¬ (1 : Int) = ((lgF l 15 : Nat) : Int) := by omega
          simp [h3] at this
        · rw [h2] at h1; omega
      have hm15 : m ≤ 15 := by have := lgF_le l 15; omega
      have hlt := take_num_lt B m
      have hF15 : numW (B.take m) * 2 ^ (15 - m) < baseW l (m + (15 - m)) + cn l (m + (15 - m)) := by
        have h1 := krS_base l 15 (Nat.le_refl _)
        rw [hwh] at h1
        have h2 : 2 ^ m * 2 ^ (15 - m) = 32768 := by rw [← Nat.pow_add, show m + (15 - m) = 15 by omega]
        have h3 : numW (B.take m) * 2 ^ (15 - m) < 2 ^ m * 2 ^ (15 - m) := (Nat.mul_lt_mul_right (Nat.pow_pos (by omega))).2 hlt
        rw [show m + (15 - m) = 15 by omega]
        simp at h1
        omega
      have find : ∀ d, numW (B.take m) * 2 ^ d < baseW l (m + d) + cn l (m + d) → ∃ k, m < k ∧ baseW l k ≤ numW (B.take m) * 2 ^ (k - m) ∧ numW (B.take m) * 2 ^ (k - m) < baseW l k + cn l k := by
        intro d
        induction d with
        | zero => intro h; simp at h; omega
        | succ d ih =>
          intro h
          by_cases h2 : numW (B.take m) * 2 ^ d < baseW l (m + d) + cn l (m + d)
          · exact ih h2
          · refine ⟨m + (d + 1), by omega, ?_, by rw [show m + (d + 1) - m = d + 1 by omega]; exact h⟩
            rw [show m + (d + 1) - m = d + 1 by omega, show m + (d + 1) = (m + d) + 1 by omega, baseW, Nat.pow_succ, ← Nat.mul_assoc]
            omega
      obtain ⟨k, hkm, h1, h2⟩ := find (15 - m) hF15
      obtain ⟨s, _, h3, h4, h5⟩ := word_at (by omega) h1 h2
      refine ⟨s, k, hkm, h3, h4, ?_⟩
      rw [rwv_eq h4 (by omega), h5, wb_take _ _ _ (by omega), Nat.mul_div_cancel _ (Nat.pow_pos (by omega))]
      apply numW_inj
      · rw [wb_len, htl]
      · rw [numW_wb, Nat.mod_eq_of_lt hlt]
  obtain ⟨s, k, h1, h2, h3, h4⟩ := key
  refine ⟨rwv l s, ?_, ?_⟩
  · rw [← rwsL_get (by rw [rwsL_length]; exact h2)]; exact List.getElem_mem _
  · unfold moreW
    rw [htl, h4, rwv_len, h3, Int.toNat_natCast]
    simp [h1]
theorem none_longer {l : List Int} (hk : kindS l ≠ 0) (B : List Bool) {m : Nat} (hm : lgF l 15 ≤ m) (hB : m ≤ B.length) : (rwsL l).any (moreW (B.take m)) = false := by
  rw [List.any_eq_false]
  intro x hx hmore
  obtain ⟨i, hi, rfl⟩ := List.mem_iff_getElem.1 hx
  rw [rwsL_get hi] at hmore
  rw [rwsL_length] at hi
  unfold moreW at hmore
  have htl : (B.take m).length = m := by rw [List.length_take]; omega
  rw [htl, rwv_len] at hmore
  simp only [Bool.and_eq_true, decide_eq_true_eq] at hmore
  have hy := kindS_valid hk (l.getD i 0) (by rw [List.getD_eq_getElem?_getD, List.getElem?_eq_getElem hi]; exact List.getElem_mem _)
  obtain ⟨n, hn⟩ := Int.eq_ofNat_of_zero_le hy.1
  rw [hn, Int.toNat_natCast] at hmore
  have h1 := wv_lt hi hn (by omega)
  have := lgF_ge (l := l) (n := n) (by omega) 15 (by omega)
  omega
theorem find_none {l : List Int} (hk : kindS l ≠ 0) (B : List Bool) {m : Nat} (hB : m ≤ B.length) (hw : baseW l m + cn l m ≤ numW (B.take m)) : (rwsL l).findIdx? (isW (B.take m)) = none := by
  rw [List.findIdx?_eq_none_iff]
  intro x hx
  obtain ⟨i, hi, rfl⟩ := List.mem_iff_getElem.1 hx
  rw [rwsL_get hi]
  rw [rwsL_length] at hi
  refine Bool.eq_false_iff.2 fun h => ?_
  unfold isW at h
  simp only [Bool.and_eq_true, decide_eq_true_eq] at h
  obtain ⟨h1, h2⟩ := h
  have hl : (rwv l i).length = m := by rw [h2, List.length_take]; omega
  rw [rwv_len] at hl
  have h0 : m ≠ 0 := by rintro rfl; exact h1 (List.eq_nil_of_length_eq_zero (by rw [rwv_len]; exact hl))
  have hn : l.getD i 0 = (m : Int) := by omega
  have h3 := wv_lt hi hn (by omega)
  rw [rwv_eq hn (by omega)] at h2
  have h4 := congrArg numW h2
  rw [numW_wb] at h4
  have h5 := Nat.mod_le (wv l i) (2 ^ m)
  omega
theorem find_some {l : List Int} (hk : kindS l ≠ 0) (B : List Bool) {m : Nat} (hm : 0 < m) (h15 : m ≤ 15) (hB : m ≤ B.length) (h1 : baseW l m ≤ numW (B.take m)) (h2 : numW (B.take m) < baseW l m + cn l m) :
    (rwsL l).findIdx? (isW (B.take m)) = some ((sg l m).getD (numW (B.take m) - baseW l m) 0) := by
  obtain ⟨s, h3, h4, h5, h6⟩ := word_at hm h1 h2
  have htl : (B.take m).length = m := by rw [List.length_take]; omega
  have hfit := word_fits hk h15
  rw [List.getD_eq_getElem?_getD, h3]
  show _ = some s
  rw [List.findIdx?_eq_some_iff_getElem]
  have hw : ∀ j, j < l.length → (isW (B.take m) (rwv l j) = true ↔ l.getD j 0 = (m : Int) ∧ wv l j = numW (B.take m)) := by
    intro j hj
    unfold isW
    simp only [Bool.and_eq_true, decide_eq_true_eq]
    constructor
    · rintro ⟨h7, h8⟩
      have hl : (rwv l j).length = m := by rw [h8, htl]
      rw [rwv_len] at hl
      have hn : l.getD j 0 = (m : Int) := by omega
      refine ⟨hn, ?_⟩
      have h9 := wv_lt hj hn hm
      rw [rwv_eq hn hm] at h8
      have h10 := congrArg numW h8
      rw [numW_wb, Nat.mod_eq_of_lt (by omega)] at h10
      exact h10
    · rintro ⟨h7, h8⟩
      have h9 : rwv l j = B.take m := by
        rw [rwv_eq h7 hm, h8]
        apply numW_inj
        · rw [wb_len, htl]
        · rw [numW_wb, Nat.mod_eq_of_lt (take_num_lt B m)]
      refine ⟨?_, h9⟩
      rw [h9]; intro e; rw [e] at htl; simp at htl; omega
  refine ⟨by rw [rwsL_length]; exact h4, ?_, ?_⟩
  · rw [rwsL_get, (hw s h4)]; exact ⟨h5, h6⟩
  · intro j hj
    have hjl : j < l.length := by omega
    rw [rwsL_get]
    intro hc
    obtain ⟨h7, h8⟩ := (hw j hjl).1 hc
    have h9 := sg_of hjl h7
    have h10 := sg_of h4 h5
    have e1 : cz (l.take j) m = cz (l.take s) m := by
      have a1 := wv_eq h7 hm
      have a2 := wv_eq h5 hm
      rw [cn_pos _ (by omega)] at a1 a2
      omega
    rw [e1, h10] at h9
    simp at h9; omega
theorem ref_get {l : List Int} (hk : kindS l ≠ 0) (B : List Bool) : refS (rwsL l) B = getS l B := by
  have hlg := lgF_le l 15
  have main : ∀ d m, m + d = lgF l 15 → m ≤ B.length → baseW l m + cn l m ≤ numW (B.take m) → refG (rwsL l) B (B.length + 1 - m) m = decG l B d m (numW (B.take m)) := by
    intro d
    induction d with
    | zero =>
      intro m hm hB hw
      rw [show B.length + 1 - m = (B.length - m) + 1 by omega]
      unfold refG decG
      rw [find_none hk B hB hw, none_longer hk B (by omega) hB]
      simp
    | succ d ih =>
      intro m hm hB hw
      rw [show B.length + 1 - m = (B.length - m) + 1 by omega]
      conv => lhs; unfold refG
      conv => rhs; unfold decG
      rw [find_none hk B hB hw, some_longer hk B (by omega) hB hw]
      cases hb : B[m]? with
      | none => simp
      | some b =>
        have hbm := (List.getElem?_eq_some_iff.1 hb).1
        have h1 := take_succ_num B hb
        simp only [if_true]
        rw [← h1]
        have hbase : baseW l (m + 1) ≤ numW (B.take (m + 1)) := by rw [h1, baseW]; omega
        by_cases hlt : numW (B.take (m + 1)) < baseW l (m + 1) + cn l (m + 1)
        · rw [if_pos hlt, show B.length - m = (B.length - (m + 1)) + 1 by omega]
          unfold refG
          rw [find_some hk B (by omega) (by omega) (by omega) hbase hlt]
        · rw [if_neg hlt, show B.length - m = B.length + 1 - (m + 1) by omega]
          exact ih (m + 1) (by omega) (by omega) (by omega)
  have := main (lgF l 15) 0 (by omega) (Nat.zero_le _) (by simp [baseW, cn])
  exact this
/-- A word's number. -/
theorem word_num {l : List Int} (hk : kindS l ≠ 0) {i : Nat} (hi : i < l.length) : numM (rwv l i) = wv l i := by
  have hy := kindS_valid hk (l.getD i 0) (by rw [List.getD_eq_getElem?_getD, List.getElem?_eq_getElem hi]; exact List.getElem_mem _)
  obtain ⟨n, hn⟩ := Int.eq_ofNat_of_zero_le hy.1
  by_cases h0 : n = 0
  · subst h0
    have h1 : rwv l i = [] := by unfold rwv; rw [hn]; rfl
    have h2 : wv l i = 0 := by unfold wv; rw [hn]; rfl
    rw [h1, h2]; rfl
  · rw [rwv_eq hn (by omega), numM_numL]
    unfold wb
    rw [List.reverse_reverse, numL_numF _ (by rw [bitsL_length]; omega), numF_bitsL, Nat.mod_eq_of_lt]
    have h1 := wv_lt hi hn (by omega)
    have h2 := word_fits hk (n := n) (by omega)
    omega
end Go.Proofs.Ytnmdgmjheopolaa
