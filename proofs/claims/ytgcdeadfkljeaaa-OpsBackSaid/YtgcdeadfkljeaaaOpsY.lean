/- What a switch that is read without an error tells. -/
import Derived.Test.YtgcdeadfkljeaaaOpsW
namespace Go.Proofs.Ytgcdeadfkljeaaa
open Go.RowKit
set_option linter.unusedVariables false
set_option linter.unusedSimpArgs false

theorem pad_good (L : List UInt8) : ∀ (f : Nat) (s : CS), (padK L f s).e = 0 → (4 - s.p % 4) % 4 ≤ f → s.p ≤ L.length →
    s.e = 0 ∧ padK L f s = ⟨s.p + (4 - s.p % 4) % 4, 0⟩ ∧ At L s.p (List.replicate ((4 - s.p % 4) % 4) 0) ∧ s.p + (4 - s.p % 4) % 4 ≤ L.length := by
  intro f
  induction f with
  | zero =>
    intro s h hf hl
    have e : (4 - s.p % 4) % 4 = 0 := by omega
    have h1 : s.e = 0 := h
    rw [e]
    refine ⟨h1, ?_, At.nil hl, hl⟩
    show s = _
    rw [← h1]; rfl
  | succ f ih =>
    intro s h hf hl
    rw [padK] at h ⊢
    by_cases hc : s.p % 4 ≠ 0 ∧ s.e = 0
    · rw [if_pos hc] at h ⊢
      have hs := isC_p ((bigK L 1 s).1 == 0) (bigK L 1 s).2
      have key : (isC ((bigK L 1 s).1 == 0) (bigK L 1 s).2).e = 0 := by
        by_cases he : (isC ((bigK L 1 s).1 == 0) (bigK L 1 s).2).e = 0
        · exact he
        · exfalso
          generalize (isC ((bigK L 1 s).1 == 0) (bigK L 1 s).2) = s2 at *
          cases f with
          | zero => exact he h
          | succ f => rw [padK, if_neg (fun hx => he hx.2)] at h; exact he h
      obtain ⟨h1, h2⟩ := isC_ok key
      rw [h2] at h key ⊢
      obtain ⟨h3, h4, h5, h6⟩ := big_put (.inl rfl) key
      rw [h4] at h ⊢
      have hv : (bigK L 1 s).1 = 0 := by simpa using h1
      rw [hv] at h5
      have e1 : (1 : Int).toNat = 1 := rfl
      rw [e1] at h h6 ⊢
      obtain ⟨i1, i2, i3, i4⟩ := ih ⟨s.p + 1, 0⟩ h (by simp only; omega) h6
      simp only at i2 i3 i4
      have e2 : (4 - s.p % 4) % 4 = 1 + (4 - (s.p + 1) % 4) % 4 := by omega
      refine ⟨h3, by rw [i2, e2, Nat.add_assoc], ?_, by omega⟩
      rw [e2, ← List.replicate_append_replicate]
      exact At.cat h5 i3
    · rw [if_neg hc] at h ⊢
      have e : (4 - s.p % 4) % 4 = 0 := by omega
      rw [e]
      refine ⟨h, ?_, At.nil hl, hl⟩
      show s = _
      rw [← h]; rfl
theorem rowsL_cons (f : Nat) (at' k t : Int) (ks ts : List Int) : rowsL f at' (k :: ks) (t :: ts) = ((if f = 108 then p4 k else []) ++ p4 (t - at')) ++ rowsL f at' ks ts := by simp [rowsL]
/-- Neighbouring keys. -/
def krL : Nat → Int → List Int
  | 0, _ => []
  | m + 1, k => k :: krL m (k + 1)
theorem krL_len : ∀ (m : Nat) (k : Int), (krL m k).length = m
  | 0, _ => rfl
  | m + 1, k => by rw [krL, List.length_cons, krL_len]
theorem krL_mem : ∀ (m : Nat) (k x : Int), x ∈ krL m k → k ≤ x ∧ x < k + m
  | 0, _, _, h => by cases h
  | m + 1, k, x, h => by
    rw [krL, List.mem_cons] at h
    rcases h with rfl | h
    · omega
    · have := krL_mem m (k + 1) x h; omega
theorem krL_last : ∀ (m : Nat) (k : Int), (krL (m + 1) k).getLastD 0 = k + m
  | 0, k => by simp [krL]
  | m + 1, k => by
    have h := krL_last m (k + 1)
    have e : krL (m + 1 + 1) k = k :: krL (m + 1) (k + 1) := rfl
    have hne : krL (m + 1) (k + 1) ≠ [] := by simp [krL]
    rw [e]
    rw [List.getLastD_cons] at *
    obtain ⟨a, r, he⟩ := List.exists_cons_of_ne_nil hne
    rw [he] at h ⊢
    rw [List.getLastD_cons] at h ⊢
    rw [h]; push_cast; omega
theorem krL_chain : ∀ (m : Nat) (k : Int), chainK true (krL m k) = true
  | 0, _ => rfl
  | 1, _ => rfl
  | m + 2, k => by
    have h := krL_chain (m + 1) (k + 1)
    have e : krL (m + 2) k = k :: (k + 1) :: krL m (k + 1 + 1) := rfl
    have e2 : krL (m + 1) (k + 1) = (k + 1) :: krL m (k + 1 + 1) := rfl
    rw [e2] at h
    rw [e, chainK, h]
    simp; omega
theorem sgn_e {L : List UInt8} {m : Int} {s : CS} (he : s.e ≠ 0) : (sgnK L m s).2.e ≠ 0 := by
  show nextEr L.length s.p s.e m (sizedB m) ≠ 0
  unfold nextEr
  rw [if_pos he]; exact he
theorem tabK_e {L : List UInt8} {at' hi : Int} : ∀ {f : Nat} {k : Int} {ks ts : List Int} {s : CS}, s.e ≠ 0 → (tabK L at' hi f k ks ts s).2.e ≠ 0
  | 0, _, _, _, _, h => h
  | f + 1, _, _, _, s, h => by rw [tabK, if_neg (fun hx => h hx.2)]; exact h
theorem lokK_e {L : List UInt8} {at' n : Int} : ∀ {f i : Nat} {ks ts : List Int} {s : CS}, s.e ≠ 0 → (lokK L at' n f i ks ts s).2.e ≠ 0
  | 0, _, _, _, _, h => h
  | f + 1, _, _, _, s, h => by rw [lokK, if_neg (fun hx => h hx.2)]; exact h
theorem sgn_far {L : List UInt8} {s : CS} : -2147483648 ≤ (sgnK L 4 s).1 ∧ (sgnK L 4 s).1 ≤ 2147483647 := sgnK_rng L 4 s (.inr (.inr rfl))
theorem add_back (a v : Int) : a + v - a = v := by omega
theorem tab_good (L : List UInt8) (at' hi : Int) : ∀ (f : Nat) (k : Int) (ks ts : List Int) (s : CS), (tabK L at' hi f k ks ts s).2.e = 0 → L.length < s.p + f → s.p ≤ L.length →
    s.e = 0 ∧ ∃ m ts', ts'.length = m ∧ (tabK L at' hi f k ks ts s).1 = (ks ++ krL m k, ts ++ ts') ∧ (k ≤ hi + 1 → k + m = hi + 1) ∧ (tabK L at' hi f k ks ts s).2 = ⟨s.p + (rowsL 116 at' (krL m k) ts').length, 0⟩ ∧ At L s.p (rowsL 116 at' (krL m k) ts') ∧
      (∀ t ∈ ts', at' - 2147483648 ≤ t ∧ t ≤ at' + 2147483647) ∧ s.p + 4 * m ≤ L.length := by
  intro f
  induction f with
  | zero => intro k ks ts s h hf hl; omega
  | succ f ih =>
    intro k ks ts s h hf hl
    rw [tabK] at h ⊢
    by_cases hc : k ≤ hi ∧ s.e = 0
    · rw [if_pos hc] at h ⊢
      have he : (sgnK L 4 s).2.e = 0 := by
        by_cases he : (sgnK L 4 s).2.e = 0
        · exact he
        · exact absurd h (tabK_e he)
      obtain ⟨h3, h4, h5, h6⟩ := sgn_put (.inr (.inr rfl)) he
      have hr := sgn_far (L := L) (s := s)
      have e4 : (4 : Int).toNat = 4 := rfl
      rw [e4] at h4 h6
      rw [h4] at h ⊢
      generalize (sgnK L 4 s).1 = v at *
      obtain ⟨i1, m, ts', i2, i3, i4, i5, i6, i7, i8⟩ := ih (k + 1) (ks ++ [k]) (ts ++ [at' + v]) ⟨s.p + 4, 0⟩ h (by simp only; omega) h6
      simp only at i5 i6 i8
      have e1 : rowsL 116 at' (krL (m + 1) k) ((at' + v) :: ts') = p4 v ++ rowsL 116 at' (krL m (k + 1)) ts' := by
        rw [krL, rowsL_cons, if_neg (by decide), List.nil_append, add_back]
      refine ⟨h3, m + 1, (at' + v) :: ts', by simp [i2], ?_, ?_, ?_, ?_, ?_, by omega⟩
      · rw [i3, krL]; simp
      · intro _; have := i4 (by omega); push_cast; omega
      · rw [i5, e1, List.length_append, p4_len, Nat.add_assoc]
      · rw [e1]
        refine At.cat h5 ?_
        rw [p4_len]
        exact i6
      · intro t ht
        rw [List.mem_cons] at ht
        rcases ht with rfl | ht
        · omega
        · exact i7 t ht
    · rw [if_neg hc] at h ⊢
      have h : s.e = 0 := h
      refine ⟨h, 0, [], rfl, by simp [krL], fun hk => by omega, ?_, ?_, by simp, by omega⟩
      · show s = ⟨s.p + 0, 0⟩
        rw [← h]; rfl
      · exact At.nil hl
theorem chainK_snoc {t : Bool} : ∀ {l : List Int} {x : Int}, chainK t l = true → (l = [] ∨ (l.getD (l.length - 1) 0 < x ∧ t = false)) → chainK t (l ++ [x]) = true
  | [], x, _, _ => rfl
  | [a], x, _, h => by
    rcases h with h | ⟨h, rfl⟩
    · cases h
    · simp at h; simp [chainK, h]
  | a :: b :: r, x, h1, h => by
    rcases h with h | ⟨h, rfl⟩
    · cases h
    · rw [chainK, Bool.and_eq_true] at h1
      have h2 := chainK_snoc (t := false) (l := b :: r) (x := x) h1.2 (.inr ⟨by simpa using h, rfl⟩)
      show chainK false (a :: b :: (r ++ [x])) = true
      rw [chainK, h1.1, Bool.true_and]
      exact h2
theorem lok_good (L : List UInt8) (at' n : Int) : ∀ (f i : Nat) (ks ts : List Int) (s : CS), ks.length = i → chainK false ks = true → (lokK L at' n f i ks ts s).2.e = 0 → L.length < s.p + f → s.p ≤ L.length →
    s.e = 0 ∧ ∃ ks' ts', ks'.length = ts'.length ∧ (lokK L at' n f i ks ts s).1 = (ks ++ ks', ts ++ ts') ∧ ((i : Int) ≤ n → (i : Int) + ks'.length = n) ∧ (lokK L at' n f i ks ts s).2 = ⟨s.p + (rowsL 108 at' ks' ts').length, 0⟩ ∧ At L s.p (rowsL 108 at' ks' ts') ∧
      (∀ t ∈ ts', at' - 2147483648 ≤ t ∧ t ≤ at' + 2147483647) ∧ (∀ x ∈ ks', inK x 32 = true) ∧ chainK false (ks ++ ks') = true ∧ s.p + 8 * ks'.length ≤ L.length := by
  intro f
  induction f with
  | zero => intro i ks ts s _ _ h hf hl; omega
  | succ f ih =>
    intro i ks ts s hks hch h hf hl
    rw [lokK] at h ⊢
    by_cases hc : (i : Int) < n ∧ s.e = 0
    · rw [if_pos hc] at h ⊢
      have he2 : (sgnK L 4 (isC (i == 0 || decide (ks.getD (i - 1) 0 < (sgnK L 4 s).1)) (sgnK L 4 s).2)).2.e = 0 := by
        by_cases he : (sgnK L 4 (isC (i == 0 || decide (ks.getD (i - 1) 0 < (sgnK L 4 s).1)) (sgnK L 4 s).2)).2.e = 0
        · exact he
        · exact absurd h (lokK_e he)
      obtain ⟨j3, j4, j5, j6⟩ := sgn_put (.inr (.inr rfl)) he2
      obtain ⟨c1, c2⟩ := isC_ok j3
      rw [c2] at j3 j4 j5 j6 h ⊢
      obtain ⟨h3, h4, h5, h6⟩ := sgn_put (.inr (.inr rfl)) j3
      have hr1 := (sgn_in (L := L) (s := s)).2.2
      have hr2 := sgn_far (L := L) (s := (sgnK L 4 s).2)
      have e4 : (4 : Int).toNat = 4 := rfl
      rw [e4] at h4 h6 j4 j6
      rw [j4] at h ⊢
      generalize (sgnK L 4 (sgnK L 4 s).2).1 = v at *
      have hp : (sgnK L 4 s).2.p = s.p + 4 := by rw [h4]
      rw [hp] at j5 j6 j4 h ⊢
      clear h4 c2 he2 j4 j3
      generalize (sgnK L 4 s).1 = x at *
      have hch2 : chainK false (ks ++ [x]) = true := by
        refine chainK_snoc hch ?_
        simp only [Bool.or_eq_true, beq_iff_eq, decide_eq_true_eq] at c1
        rcases c1 with c1 | c1
        · exact .inl (List.eq_nil_of_length_eq_zero (by omega))
        · exact .inr ⟨by rw [hks]; exact c1, rfl⟩
      obtain ⟨i1, ks', ts', i2, i3, i4, i5, i6, i7, i8, i9, i10⟩ := ih (i + 1) (ks ++ [x]) (ts ++ [at' + v]) ⟨s.p + 4 + 4, 0⟩ (by simp [hks]) hch2 h (by simp only; omega) j6
      simp only at i5 i6 i10
      have e1 : rowsL 108 at' (x :: ks') ((at' + v) :: ts') = (p4 x ++ p4 v) ++ rowsL 108 at' ks' ts' := by
        rw [rowsL_cons, if_pos rfl, add_back]
      refine ⟨h3, x :: ks', (at' + v) :: ts', by simp [i2], ?_, ?_, ?_, ?_, ?_, ?_, ?_, by rw [List.length_cons]; omega⟩
      · rw [i3]; simp
      · intro _; have := i4 (by push_cast; omega); rw [List.length_cons]; push_cast at *; omega
      · rw [i5, e1, List.length_append, List.length_append, p4_len, p4_len]; congr 1; omega
      · rw [e1]
        refine At.cat (At.cat h5 ?_) ?_
        · rw [p4_len]; exact j5
        · rw [List.length_append, p4_len, p4_len]; exact i6
      · intro t ht
        rw [List.mem_cons] at ht
        rcases ht with rfl | ht
        · omega
        · exact i7 t ht
      · intro y hy
        rw [List.mem_cons] at hy
        rcases hy with rfl | hy
        · exact hr1
        · exact i8 y hy
      · have := i9; simpa using this
    · rw [if_neg hc] at h ⊢
      have h : s.e = 0 := h
      refine ⟨h, [], [], rfl, by simp, fun hk => by simp; omega, ?_, ?_, by simp, by simp, by simpa using hch, by simpa using hl⟩
      · show s = ⟨s.p + 0, 0⟩
        rw [← h]; rfl
      · exact At.nil hl
theorem fitL_all {ks ts : List Int} (h1 : ∀ x ∈ ks, inK x 32 = true) (h2 : ∀ t ∈ ts, 0 ≤ t ∧ t ≤ 65536) : fitL ks ts = true := by
  unfold fitL
  rw [List.all_eq_true]
  intro x hx
  have := List.of_mem_zip hx
  have h3 := h1 _ this.1
  have h4 := h2 _ this.2
  unfold okT
  rw [h3]
  simp
  omega
end Go.Proofs.Ytgcdeadfkljeaaa
