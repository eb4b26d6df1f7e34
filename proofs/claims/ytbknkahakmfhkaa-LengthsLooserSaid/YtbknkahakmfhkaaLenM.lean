/- Plain laws of rows that are sorted so that like ones stay in their order. -/
namespace Go.Proofs.Ytbknkahakmfhkaa
set_option linter.unusedVariables false
set_option linter.unusedSimpArgs false

abbrev KK : Type := Int × List Nat
def leK (x y : KK) : Bool := decide (x.1 ≤ y.1)
def srt (l : List KK) : List KK := l.mergeSort leK
theorem leK_trans (a b c : KK) : leK a b = true → leK b c = true → leK a c = true := by
  simp only [leK, decide_eq_true_eq]; omega
theorem leK_total (a b : KK) : (leK a b || leK b a) = true := by
  simp only [leK, Bool.or_eq_true, decide_eq_true_eq]; omega
abbrev Sorted (l : List KK) : Prop := l.Pairwise (fun a b => leK a b = true)
/-- Rows with places, sorted by key and place. -/
abbrev LexS (t : List (KK × Nat)) : Prop := t.Pairwise (fun a b => List.zipIdxLE leK a b = true)

theorem lexS_zip : ∀ (l : List KK) (i : Nat), Sorted l → LexS (l.zipIdx i)
  | [], _, _ => by simp
  | x :: r, i, h => by
    rw [List.zipIdx_cons]
    refine List.Pairwise.cons ?_ (lexS_zip r (i + 1) h.tail)
    rintro ⟨y, j⟩ hy
    have h1 := List.rel_of_pairwise_cons h (List.fst_mem_of_mem_zipIdx hy)
    have h2 := List.le_snd_of_mem_zipIdx hy
    have h2 : i + 1 ≤ j := h2
    unfold List.zipIdxLE
    rw [if_pos h1]
    split
    · exact decide_eq_true (by show i ≤ j; omega)
    · rfl
theorem stab_uniq (l : List KK) (t : List (KK × Nat)) (h : LexS t) (hp : t.Perm l.zipIdx) : t.map (·.1) = srt l := by
  unfold srt
  rw [← List.mergeSort_zipIdx]
  congr 1
  apply List.Perm.eq_of_pairwise (le := fun a b => List.zipIdxLE leK a b = true) _ h (List.pairwise_mergeSort (List.zipIdxLE_trans leK_trans) (List.zipIdxLE_total leK_total) _) (hp.trans (List.mergeSort_perm _ _).symm)
  rintro ⟨a, i⟩ ⟨b, j⟩ ha hb
  have ha := hp.mem_iff.1 ha
  have hb := List.mem_mergeSort.1 hb
  intro h1 h2
  unfold List.zipIdxLE at h1 h2
  have e : i = j := by
    by_cases hab : leK a b = true <;> by_cases hba : leK b a = true <;> simp [hab, hba] at h1 h2
    omega
  subst e
  have h3 := List.mem_zipIdx ha
  have h4 := List.mem_zipIdx hb
  rw [h3.2.2, h4.2.2]
theorem srt_append (c p : List KK) (hc : Sorted c) (hp : Sorted p) : srt (c ++ p) = c.merge p leK := by
  rw [← stab_uniq (c ++ p) ((c.zipIdx 0).merge (p.zipIdx c.length) (List.zipIdxLE leK)) ?_ ?_]
  · rw [List.merge_stable, List.zipIdx_map_fst, List.zipIdx_map_fst]
    rintro ⟨x, i⟩ ⟨y, j⟩ hx hy
    have h1 := List.snd_lt_add_of_mem_zipIdx hx
    have h2 := List.le_snd_of_mem_zipIdx hy
    show i ≤ j
    have h1 : i < 0 + c.length := by simpa [Nat.add_comm] using h1
    have h2 : c.length ≤ j := h2
    omega
  · exact List.pairwise_merge (List.zipIdxLE_trans leK_trans) (List.zipIdxLE_total leK_total) _ _ (lexS_zip c 0 hc) (lexS_zip p _ hp)
  · rw [List.zipIdx_append]
    refine (List.merge_perm_append _).trans ?_
    simp
theorem sorted_srt (l : List KK) : Sorted (srt l) := List.pairwise_mergeSort leK_trans leK_total l
theorem srt_perm (l : List KK) : (srt l).Perm l := List.mergeSort_perm _ _

/-- The sum of keys. -/
def sumK (l : List KK) : Int := (l.map (·.1)).sum
theorem sumK_cons (x : KK) (l : List KK) : sumK (x :: l) = x.1 + sumK l := by simp [sumK]
theorem sumK_nil : sumK [] = 0 := rfl
theorem sumK_append (x y : List KK) : sumK (x ++ y) = sumK x + sumK y := by simp [sumK]
theorem sumK_perm {x y : List KK} (h : x.Perm y) : sumK x = sumK y := by
  induction h with
  | nil => rfl
  | cons a _ ih => rw [sumK_cons, sumK_cons, ih]
  | swap a b l => simp only [sumK_cons]; omega
  | trans _ _ h1 h2 => rw [h1, h2]

theorem merge_take : ∀ (n : Nat) (x y : List KK), x.length + y.length ≤ n → Sorted x → ∀ k, k ≤ x.length + y.length → ∃ a b, a + b = k ∧ a ≤ x.length ∧ b ≤ y.length ∧ ((x.merge y leK).take k).Perm (x.take a ++ y.take b) ∧ (∀ (i j : Nat) (u v : KK), x[i]? = some u → y[j]? = some v → j < b → u.1 ≤ v.1 → i < a)
  | _, x, y, _, _, 0, _ => ⟨0, 0, rfl, Nat.zero_le _, Nat.zero_le _, by simp, fun i j u v _ _ h => absurd h (by omega)⟩
  | 0, x, y, hn, _, k + 1, hk => absurd hk (by omega)
  | n + 1, [], y, hn, _, k + 1, hk => ⟨0, k + 1, by omega, Nat.le_refl _, by simpa using hk, by simp, fun i j u v h => by simp at h⟩
  | n + 1, x, [], hn, _, k + 1, hk => ⟨k + 1, 0, by omega, by simpa using hk, Nat.le_refl _, by simp, fun i j u v _ _ h => absurd h (by omega)⟩
  | n + 1, c :: x, p :: y, hn, hs, k + 1, hk => by
    rw [List.cons_merge_cons]
    simp only [List.length_cons] at hn hk
    by_cases h : leK c p = true
    · rw [if_pos h]
      obtain ⟨a, b, h1, h2, h3, h4, h5⟩ := merge_take n x (p :: y) (by rw [List.length_cons]; omega) hs.tail k (by rw [List.length_cons]; omega)
      refine ⟨a + 1, b, by omega, by rw [List.length_cons]; omega, h3, ?_, ?_⟩
      · rw [List.take_succ_cons, List.take_succ_cons, List.cons_append]
        exact h4.cons c
      · intro i j u v hu hv hj hle
        cases i with
        | zero => omega
        | succ i =>
          rw [List.getElem?_cons_succ] at hu
          have := h5 i j u v hu hv hj hle
          omega
    · rw [if_neg h]
      obtain ⟨a, b, h1, h2, h3, h4, h5⟩ := merge_take n (c :: x) y (by rw [List.length_cons]; omega) hs k (by rw [List.length_cons]; omega)
      refine ⟨a, b + 1, by omega, h2, by rw [List.length_cons]; omega, ?_, ?_⟩
      · rw [List.take_succ_cons, List.take_succ_cons]
        exact (h4.cons p).trans List.perm_middle.symm
      · intro i j u v hu hv hj hle
        cases j with
        | zero =>
          exfalso
          rw [List.getElem?_cons_zero] at hv
          have hv : p = v := by simpa using hv
          subst hv
          have hc : c.1 ≤ u.1 := by
            cases i with
            | zero =>
              rw [List.getElem?_cons_zero] at hu
              have hu : c = u := by simpa using hu
              rw [hu]; exact Int.le_refl _
            | succ i =>
              rw [List.getElem?_cons_succ] at hu
              have := List.rel_of_pairwise_cons hs (List.mem_of_getElem? hu)
              simpa [leK] using this
          apply h
          simp only [leK, decide_eq_true_eq]
          omega
        | succ j =>
          rw [List.getElem?_cons_succ] at hv
          exact h5 i j u v hu hv (by omega) hle
theorem sumK_last : ∀ (y : List KK) (b : Nat) (c : Int), Sorted y → b + 1 ≤ y.length → (∀ v ∈ y, c ≤ v.1) → c + sumK (y.take b) ≤ sumK (y.take (b + 1))
  | y, b, c, hs, hb, h => by
    rw [List.take_succ_eq_append_getElem (by omega), sumK_append, sumK_cons, sumK_nil]
    have := h y[b] (List.getElem_mem _)
    omega
theorem merge_least : ∀ (n : Nat) (x y : List KK), x.length + y.length ≤ n → Sorted x → Sorted y → ∀ a b, a ≤ x.length → b ≤ y.length → sumK ((x.merge y leK).take (a + b)) ≤ sumK (x.take a) + sumK (y.take b)
  | n, [], y, hn, hx, hy, a, b, ha, hb => by
    have : a = 0 := by simpa using ha
    subst this
    simp [sumK_nil]
  | n, x, [], hn, hx, hy, a, b, ha, hb => by
    have : b = 0 := by simpa using hb
    subst this
    simp [sumK_nil]
  | 0, c :: x, p :: y, hn, hx, hy, a, b, ha, hb => by simp at hn
  | n + 1, c :: x, p :: y, hn, hx, hy, a, b, ha, hb => by
    rw [List.cons_merge_cons]
    simp only [List.length_cons] at hn ha hb
    by_cases h : leK c p = true
    · rw [if_pos h]
      cases a with
      | zero =>
        cases b with
        | zero => simp [sumK_nil]
        | succ b =>
          have h1 := merge_least n x (p :: y) (by rw [List.length_cons]; omega) hx.tail hy 0 b (Nat.zero_le _) (by rw [List.length_cons]; omega)
          have h2 := sumK_last (p :: y) b c.1 hy (by rw [List.length_cons]; omega) (by
            have h0 : c.1 ≤ p.1 := by simpa [leK] using h
            intro v hv
            rcases List.mem_cons.1 hv with rfl | hv
            · exact h0
            · have := List.rel_of_pairwise_cons hy hv
              have : p.1 ≤ v.1 := by simpa [leK] using this
              omega)
          rw [show 0 + (b + 1) = b + 1 by omega, List.take_succ_cons, sumK_cons]
          rw [show 0 + b = b by omega] at h1
          simp only [List.take_zero, sumK_nil] at h1 ⊢
          omega
      | succ a =>
        have h1 := merge_least n x (p :: y) (by rw [List.length_cons]; omega) hx.tail hy a b (by omega) (by rw [List.length_cons]; omega)
        rw [show a + 1 + b = (a + b) + 1 by omega, List.take_succ_cons, List.take_succ_cons, sumK_cons, sumK_cons]
        omega
    · rw [if_neg h]
      have h0 : p.1 < c.1 := by simp only [leK, decide_eq_true_eq] at h; omega
      cases b with
      | zero =>
        cases a with
        | zero => simp [sumK_nil]
        | succ a =>
          have h1 := merge_least n (c :: x) y (by rw [List.length_cons]; omega) hx hy.tail a 0 (by rw [List.length_cons]; omega) (Nat.zero_le _)
          have h2 := sumK_last (c :: x) a p.1 hx (by rw [List.length_cons]; omega) (by
            intro v hv
            rcases List.mem_cons.1 hv with rfl | hv
            · omega
            · have := List.rel_of_pairwise_cons hx hv
              have : c.1 ≤ v.1 := by simpa [leK] using this
              omega)
          rw [show a + 1 + 0 = a + 1 by omega, List.take_succ_cons, sumK_cons]
          rw [show a + 0 = a by omega] at h1
          simp only [List.take_zero, sumK_nil] at h1 ⊢
          omega
      | succ b =>
        have h1 := merge_least n (c :: x) y (by rw [List.length_cons]; omega) hx hy.tail a b (by rw [List.length_cons]; omega) (by omega)
        rw [show a + (b + 1) = (a + b) + 1 by omega, List.take_succ_cons, List.take_succ_cons, sumK_cons, sumK_cons]
        omega
end Go.Proofs.Ytbknkahakmfhkaa
