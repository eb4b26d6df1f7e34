/- Plain laws of what lengths.Best lays: rows by rounds, which coins a row's head holds, and that nothing costs less. -/
import Derived.Test.YtbknkahakmfhkaaLenM
namespace Go.Proofs.Ytbknkahakmfhkaa
set_option linter.unusedVariables false
set_option linter.unusedSimpArgs false

/-- Each two neighbours, as one. -/
def duoK : List KK → List KK
  | a :: b :: r => (a.1 + b.1, a.2 ++ b.2) :: duoK r
  | _ => []
def rowS (c : List KK) : Nat → List KK
  | 0 => c
  | t + 1 => srt (c ++ duoK (rowS c t))
def flatS (l : List KK) : List Nat := l.flatMap (·.2)
theorem duoK_len : ∀ l : List KK, (duoK l).length = l.length / 2
  | [] => rfl
  | [_] => by simp [duoK]
  | _ :: _ :: r => by
    show (duoK r).length + 1 = (r.length + 2) / 2
    rw [duoK_len r]; omega
theorem duoK_ge : ∀ (r : List KK) (m : Int), (∀ v ∈ r, m ≤ v.1) → ∀ x ∈ duoK r, m + m ≤ x.1
  | [], _, _ => fun x hx => by simp [duoK] at hx
  | [_], _, _ => fun x hx => by simp [duoK] at hx
  | a :: b :: r, m, h => fun x hx => by
    rcases List.mem_cons.1 (show x ∈ (a.1 + b.1, a.2 ++ b.2) :: duoK r from hx) with rfl | hx
    · have h1 := h a (by simp)
      have h2 := h b (by simp)
      show m + m ≤ a.1 + b.1
      omega
    · exact duoK_ge r m (fun v hv => h v (List.mem_cons_of_mem _ (List.mem_cons_of_mem _ hv))) x hx
theorem duoK_sorted : ∀ r : List KK, Sorted r → Sorted (duoK r)
  | [], _ => List.Pairwise.nil
  | [_], _ => List.Pairwise.nil
  | a :: b :: r, h => by
    refine List.Pairwise.cons ?_ (duoK_sorted r h.tail.tail)
    intro x hx
    have h1 := duoK_ge r b.1 (fun v hv => by
      have := List.rel_of_pairwise_cons h.tail hv
      simpa [leK] using this) x hx
    have h2 := List.rel_of_pairwise_cons h (show b ∈ b :: r by simp)
    have h2 : a.1 ≤ b.1 := by simpa [leK] using h2
    simp only [leK, decide_eq_true_eq]
    omega
theorem duoK_take : ∀ (r : List KK) (b : Nat), (duoK r).take b = duoK (r.take (2 * b))
  | r, 0 => by simp [duoK]
  | [], b + 1 => by simp [duoK]
  | [x], b + 1 => by simp [duoK, show 2 * (b + 1) = 2 * b + 1 + 1 by omega]
  | a :: c :: r, b + 1 => by
    rw [show 2 * (b + 1) = 2 * b + 1 + 1 by omega, List.take_succ_cons, List.take_succ_cons]
    show ((a.1 + c.1, a.2 ++ c.2) :: duoK r).take (b + 1) = (a.1 + c.1, a.2 ++ c.2) :: duoK (r.take (2 * b))
    rw [List.take_succ_cons, duoK_take r b]
theorem duoK_sum : ∀ (b : Nat) (r : List KK), r.length = 2 * b → sumK (duoK r) = sumK r ∧ flatS (duoK r) = flatS r
  | 0, r, h => by
    have : r = [] := List.eq_nil_of_length_eq_zero h
    subst this
    exact ⟨rfl, rfl⟩
  | b + 1, [], h => by simp at h
  | b + 1, [x], h => by simp at h; omega
  | b + 1, x :: y :: r, h => by
    obtain ⟨h1, h2⟩ := duoK_sum b r (by simp at h; omega)
    show sumK ((x.1 + y.1, x.2 ++ y.2) :: duoK r) = _ ∧ flatS ((x.1 + y.1, x.2 ++ y.2) :: duoK r) = _
    refine ⟨?_, ?_⟩
    · rw [sumK_cons, sumK_cons, sumK_cons, h1]; show x.1 + y.1 + sumK r = _; omega
    · unfold flatS at h2 ⊢
      rw [List.flatMap_cons, List.flatMap_cons, List.flatMap_cons, h2, List.append_assoc]
theorem duoK_get : ∀ (r : List KK) (j : Nat), j < (duoK r).length → ∃ u u' v, r[2 * j]? = some u ∧ r[2 * j + 1]? = some u' ∧ (duoK r)[j]? = some v ∧ v.1 = u.1 + u'.1
  | [], j, h => by simp [duoK] at h
  | [_], j, h => by simp [duoK] at h
  | a :: b :: r, 0, h => ⟨a, b, (a.1 + b.1, a.2 ++ b.2), rfl, rfl, rfl, rfl⟩
  | a :: b :: r, j + 1, h => by
    have h : j + 1 < (duoK r).length + 1 := h
    obtain ⟨u, u', v, h1, h2, h3, h4⟩ := duoK_get r j (by omega)
    refine ⟨u, u', v, ?_, ?_, ?_, h4⟩
    · rw [show 2 * (j + 1) = 2 * j + 1 + 1 by omega, List.getElem?_cons_succ, List.getElem?_cons_succ]; exact h1
    · rw [show 2 * (j + 1) + 1 = 2 * j + 1 + 1 + 1 by omega, List.getElem?_cons_succ, List.getElem?_cons_succ]; exact h2
    · show ((a.1 + b.1, a.2 ++ b.2) :: duoK r)[j + 1]? = some v
      rw [List.getElem?_cons_succ]; exact h3
theorem rowS_sorted {c : List KK} (h : Sorted c) : ∀ t, Sorted (rowS c t)
  | 0 => h
  | t + 1 => sorted_srt _
theorem rowS_merge {c : List KK} (h : Sorted c) (t : Nat) : rowS c (t + 1) = c.merge (duoK (rowS c t)) leK := srt_append c _ h (duoK_sorted _ (rowS_sorted h t))
theorem rowS_len (c : List KK) (t : Nat) : (rowS c (t + 1)).length = c.length + (rowS c t).length / 2 := by
  show (srt (c ++ duoK (rowS c t))).length = _
  rw [(srt_perm _).length_eq, List.length_append, duoK_len]
theorem rowS_nonneg {c : List KK} (h : ∀ x ∈ c, 0 ≤ x.1) : ∀ t, ∀ x ∈ rowS c t, 0 ≤ x.1
  | 0 => h
  | t + 1 => fun x hx => by
    have hx := (srt_perm _).mem_iff.1 (show x ∈ srt (c ++ duoK (rowS c t)) from hx)
    rcases List.mem_append.1 hx with hx | hx
    · exact h x hx
    · have := duoK_ge _ 0 (rowS_nonneg h t) x hx
      omega
theorem rowS_room (c : List KK) (t : Nat) : ∀ k, k * 2 ^ t + c.length ≤ 2 * c.length * 2 ^ t → k ≤ (rowS c t).length := by
  induction t with
  | zero => intro k h; simp at h; show k ≤ c.length; omega
  | succ t ih =>
    intro k h
    rw [rowS_len]
    by_cases hk : k ≤ c.length
    · omega
    · have := ih (2 * (k - c.length)) (by
        rw [Nat.pow_succ] at h
        obtain ⟨d, rfl⟩ : ∃ d, k = c.length + d := ⟨k - c.length, by omega⟩
        rw [show c.length + d - c.length = d by omega]
        have e1 : (c.length + d) * (2 ^ t * 2) = 2 * c.length * 2 ^ t + 2 * d * 2 ^ t := by
          rw [show 2 ^ t * 2 = 2 * 2 ^ t by omega, ← Nat.mul_assoc, ← Nat.add_mul]; congr 1; omega
        have e2 : 2 * c.length * (2 ^ t * 2) = 2 * c.length * 2 ^ t + 2 * c.length * 2 ^ t := by
          rw [← Nat.mul_assoc]; omega
        omega)
      omega

/-- What levels (the top first) are worth. -/
def val : List Nat → Nat
  | [] => 0
  | a :: l => a * 2 ^ l.length + val l
theorem rows_levels {c : List KK} (hs : Sorted c) (h0 : ∀ x ∈ c, 0 ≤ x.1) : ∀ t k, k ≤ (rowS c t).length → ∃ a l, l.length = t ∧ (∀ x ∈ a :: l, x ≤ c.length) ∧ (a :: l).Pairwise (fun x y => y ≤ x) ∧ k * 2 ^ t = val (a :: l) ∧ (flatS ((rowS c t).take k)).Perm ((a :: l).flatMap (fun a => flatS (c.take a))) ∧ sumK ((rowS c t).take k) = ((a :: l).map (fun a => sumK (c.take a))).sum ∧ (∀ (i : Nat) (u : KK), i < a → c[i]? = some u → u ∈ (rowS c t).take k)
  | 0, k, hk => by
    refine ⟨k, [], rfl, ?_, by simp, by simp [val], by simp [rowS], by simp [rowS], ?_⟩
    · intro x hx
      rw [List.mem_singleton.1 hx]; exact hk
    · intro i u hi hu
      refine List.mem_of_getElem? (i := i) ?_
      show (c.take k)[i]? = some u
      rw [List.getElem?_take, if_pos hi]; exact hu
  | t + 1, k, hk => by
    have hm := rowS_merge hs t
    have hR := rowS_nonneg h0 t
    rw [rowS_len] at hk
    obtain ⟨a, b, h1, h2, h3, h4, h5⟩ := merge_take _ c (duoK (rowS c t)) (Nat.le_refl _) hs k (by rw [duoK_len]; exact hk)
    rw [duoK_len] at h3
    obtain ⟨a', l', e1, e2, e3, e4, e5, e6, e7⟩ := rows_levels hs h0 t (2 * b) (by omega)
    have hlen : ((rowS c t).take (2 * b)).length = 2 * b := by rw [List.length_take]; omega
    have hle : a' ≤ a := by
      refine Nat.le_of_not_lt fun hlt => ?_
      have hac : a < c.length := by have := e2 a' (by simp); omega
      have hmem := e7 a c[a] hlt (List.getElem?_eq_getElem hac)
      obtain ⟨q, hq, hqe⟩ := List.getElem_of_mem hmem
      rw [hlen] at hq
      have hj : q / 2 < (duoK (rowS c t)).length := by rw [duoK_len]; omega
      obtain ⟨u, u', v, g1, g2, g3, g4⟩ := duoK_get _ _ hj
      have hq2 : (rowS c t)[q]? = some c[a] := by
        rw [← hqe, List.getElem_take, List.getElem?_eq_getElem]
      have hu := hR u (List.mem_of_getElem? g1)
      have hu' := hR u' (List.mem_of_getElem? g2)
      have hle : c[a].1 ≤ v.1 := by
        have : q = 2 * (q / 2) ∨ q = 2 * (q / 2) + 1 := by omega
        rcases this with h | h
        · rw [h, g1] at hq2
          have : u = c[a] := by simpa using hq2
          rw [← this]; omega
        · rw [h, g2] at hq2
          have : u' = c[a] := by simpa using hq2
          rw [← this]; omega
      have := h5 a (q / 2) c[a] v (List.getElem?_eq_getElem hac) g3 (by omega) hle
      omega
    refine ⟨a, a' :: l', by rw [List.length_cons, e1], ?_, ?_, ?_, ?_, ?_, ?_⟩
    · intro x hx
      rcases List.mem_cons.1 hx with rfl | hx
      · exact h2
      · exact e2 x hx
    · refine List.Pairwise.cons ?_ e3
      intro x hx
      rcases List.mem_cons.1 hx with rfl | hx
      · exact hle
      · have : x ≤ a' := List.rel_of_pairwise_cons e3 hx
        omega
    · show _ = a * 2 ^ (a' :: l').length + val (a' :: l')
      rw [← e4, List.length_cons, e1, ← h1, Nat.pow_succ, Nat.add_mul, ← Nat.mul_assoc b, Nat.mul_comm 2 b, Nat.mul_assoc b 2, Nat.mul_comm 2, ← Nat.mul_assoc b]
    · rw [hm]
      unfold flatS at e5 ⊢
      refine (List.Perm.flatMap_right _ h4).trans ?_
      rw [List.flatMap_append, List.flatMap_cons, duoK_take]
      refine List.Perm.append_left _ ?_
      have := (duoK_sum b _ hlen).2
      unfold flatS at this
      rw [this]
      exact e5
    · rw [hm, sumK_perm h4, sumK_append, duoK_take, (duoK_sum b _ hlen).1, e6, List.map_cons, List.map_cons, List.map_cons, List.sum_cons, List.sum_cons, List.sum_cons]
    · intro i u hi hu
      rw [hm]
      refine h4.mem_iff.2 (List.mem_append.2 (.inl ?_))
      refine List.mem_of_getElem? (i := i) ?_
      rw [List.getElem?_take, if_pos hi]; exact hu
/-- Nothing that is worth as much costs less. -/
theorem rows_least {c : List KK} (hs : Sorted c) : ∀ (t : Nat) (lv : List Nat), lv.length = t + 1 → (∀ x ∈ lv, x ≤ c.length) → ∀ k, val lv = k * 2 ^ t → k ≤ (rowS c t).length ∧ sumK ((rowS c t).take k) ≤ (lv.map (fun a => sumK (c.take a))).sum
  | _, [], h, _, _, _ => by simp at h
  | 0, [a], _, hx, k, hv => by
    have : a = k := by simpa [val] using hv
    subst this
    exact ⟨hx a (by simp), by simp [rowS]⟩
  | 0, a :: b :: l, h, _, _, _ => by simp at h
  | t + 1, a :: l, h, hx, k, hv => by
    have hl : l.length = t + 1 := by simpa using h
    have hv : a * 2 ^ l.length + val l = k * 2 ^ (t + 1) := hv
    rw [hl] at hv
    have hak : a ≤ k := by
      refine Nat.le_of_mul_le_mul_right (c := 2 ^ (t + 1)) (by omega) (Nat.two_pow_pos _)
    obtain ⟨b, rfl⟩ : ∃ b, k = a + b := ⟨k - a, by omega⟩
    rw [Nat.add_mul] at hv
    obtain ⟨i1, i2⟩ := rows_least hs t l hl (fun x h => hx x (List.mem_cons_of_mem _ h)) (2 * b) (by
      have : b * 2 ^ (t + 1) = 2 * b * 2 ^ t := by rw [Nat.pow_succ, Nat.mul_comm 2 b, Nat.mul_assoc b 2, Nat.mul_comm 2]
      omega)
    have hlen : ((rowS c t).take (2 * b)).length = 2 * b := by rw [List.length_take]; omega
    have ha := hx a (by simp)
    refine ⟨by rw [rowS_len]; omega, ?_⟩
    rw [rowS_merge hs]
    have h1 := merge_least _ c (duoK (rowS c t)) (Nat.le_refl _) hs (duoK_sorted _ (rowS_sorted hs t)) a b ha (by rw [duoK_len]; omega)
    rw [duoK_take, (duoK_sum b _ hlen).1] at h1
    rw [List.map_cons, List.sum_cons]
    omega
end Go.Proofs.Ytbknkahakmfhkaa
