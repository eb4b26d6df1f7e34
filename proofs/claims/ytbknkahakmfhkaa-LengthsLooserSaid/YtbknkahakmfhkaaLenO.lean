/- Plain laws of what lengths.Best lays: from levels to lengths; the weight is whole; nothing costs less. -/
import Derived.Test.YtbknkahakmfhkaaLenN
namespace Go.Proofs.Ytbknkahakmfhkaa
set_option linter.unusedVariables false
set_option linter.unusedSimpArgs false

/-- Sums over the numbers below n. -/
def sumN : Nat → (Nat → Nat) → Nat
  | 0, _ => 0
  | n + 1, f => sumN n f + f n
theorem sumN_congr : ∀ (n : Nat) (f g : Nat → Nat), (∀ i < n, f i = g i) → sumN n f = sumN n g
  | 0, _, _, _ => rfl
  | n + 1, f, g, h => by
    show sumN n f + f n = sumN n g + g n
    rw [sumN_congr n f g (fun i hi => h i (by omega)), h n (by omega)]
theorem sumN_add : ∀ (n : Nat) (f g : Nat → Nat), sumN n (fun i => f i + g i) = sumN n f + sumN n g
  | 0, _, _ => rfl
  | n + 1, f, g => by
    show sumN n (fun i => f i + g i) + (f n + g n) = sumN n f + f n + (sumN n g + g n)
    rw [sumN_add n f g]; omega
theorem sumN_from : ∀ (n a K : Nat), a ≤ n → sumN n (fun i => if i < a then 0 else K) = (n - a) * K
  | 0, a, K, h => by have : a = 0 := by omega
                     subst this; simp [sumN]
  | n + 1, a, K, h => by
    show sumN n _ + (if n < a then 0 else K) = _
    by_cases ha : a = n + 1
    · subst ha
      rw [if_pos (by omega), sumN_congr n _ (fun _ => 0) (fun i hi => by rw [if_pos (by omega)])]
      have : ∀ n, sumN n (fun _ => 0) = 0 := fun n => by induction n with
        | zero => rfl
        | succ n ih => show sumN n _ + 0 = 0; rw [ih]
      rw [this]; simp
    · rw [if_neg (by omega), sumN_from n a K (by omega), show n + 1 - a = (n - a) + 1 by omega, Nat.add_mul]; omega
theorem sumN_const (n K : Nat) : sumN n (fun _ => K) = n * K := by
  have := sumN_from n 0 K (Nat.zero_le _)
  simpa using this
theorem sumN_mul : ∀ (n : Nat) (f : Nat → Nat) (K : Nat), sumN n (fun i => f i * K) = sumN n f * K
  | 0, _, _ => by simp [sumN]
  | n + 1, f, K => by
    show sumN n (fun i => f i * K) + f n * K = (sumN n f + f n) * K
    rw [sumN_mul n f K, Nat.add_mul]
theorem sumN_one : ∀ (n : Nat) (f : Nat → Nat) (i : Nat), i < n → f i ≤ sumN n f
  | 0, _, _, h => absurd h (by omega)
  | n + 1, f, i, h => by
    show f i ≤ sumN n f + f n
    by_cases hi : i = n
    · subst hi; omega
    · have := sumN_one n f i (by omega); omega
theorem sumN_two : ∀ (n : Nat) (f : Nat → Nat) (i j : Nat), i < j → j < n → f i + f j ≤ sumN n f
  | 0, _, _, _, _, h => absurd h (by omega)
  | n + 1, f, i, j, h1, h2 => by
    show f i + f j ≤ sumN n f + f n
    by_cases hj : j = n
    · subst hj; have := sumN_one j f i h1; omega
    · have := sumN_two n f i j h1 (by omega); omega

/-- How many levels hold a coin. -/
def deep (lv : List Nat) (i : Nat) : Nat := lv.countP (fun a => decide (i < a))
theorem deep_nil (i : Nat) : deep [] i = 0 := rfl
theorem deep_cons (a : Nat) (l : List Nat) (i : Nat) : deep (a :: l) i = deep l i + if i < a then 1 else 0 := by
  unfold deep; rw [List.countP_cons]; simp
theorem deep_le (l : List Nat) (i : Nat) : deep l i ≤ l.length := List.countP_le_length
theorem deep_zero {l : List Nat} {i : Nat} (h : ∀ x ∈ l, x ≤ i) : deep l i = 0 := by
  unfold deep
  rw [List.countP_eq_zero]
  intro x hx
  have := h x hx
  simp only [decide_eq_true_eq]; omega
/-- The weight of levels that go down: whole, less what they are worth. -/
theorem kraft_levels (n : Nat) : ∀ l : List Nat, (∀ x ∈ l, x ≤ n) → l.Pairwise (fun x y => y ≤ x) → val l + sumN n (fun i => 2 ^ (l.length - deep l i)) = n * 2 ^ l.length
  | [], _, _ => by
    show 0 + sumN n (fun i => 2 ^ (0 - 0)) = n * 1
    rw [sumN_const]; simp
  | a :: l, hx, hp => by
    have ih := kraft_levels n l (fun x h => hx x (List.mem_cons_of_mem _ h)) hp.tail
    have ha := hx a (by simp)
    have e : sumN n (fun i => 2 ^ ((a :: l).length - deep (a :: l) i)) = sumN n (fun i => 2 ^ (l.length - deep l i)) + (n - a) * 2 ^ l.length := by
      rw [← sumN_from n a (2 ^ l.length) ha, ← sumN_add]
      refine sumN_congr n _ _ fun i hi => ?_
      show 2 ^ ((a :: l).length - deep (a :: l) i) = _
      have h1 := deep_le l i
      rw [List.length_cons, deep_cons]
      by_cases hia : i < a
      · rw [if_pos hia, if_pos hia, Nat.add_zero]; congr 1; omega
      · rw [if_neg hia, if_neg hia]
        have : deep l i = 0 := deep_zero (fun x h => by
          have : x ≤ a := List.rel_of_pairwise_cons hp h
          omega)
        rw [this, Nat.add_zero, Nat.sub_zero, Nat.sub_zero, Nat.pow_succ]; omega
    rw [e]
    show a * 2 ^ l.length + val l + _ = _
    rw [List.length_cons, Nat.pow_succ]
    obtain ⟨d, rfl⟩ : ∃ d, n = a + d := ⟨n - a, by omega⟩
    rw [show a + d - a = d by omega]
    rw [Nat.add_mul] at ih
    rw [show (a + d) * (2 ^ l.length * 2) = (a + d) * 2 ^ l.length * 2 by rw [Nat.mul_assoc], Nat.add_mul]
    omega
theorem sumI_levels (c : List KK) : ∀ lv : List Nat, (∀ x ∈ lv, x ≤ c.length) → (lv.map (fun a => sumK (c.take a))).sum = ((List.range c.length).map (fun i => (c.getD i (0, [])).1 * (deep lv i : Int))).sum
  | [], _ => by
    simp only [deep_nil, List.map_nil, List.sum_nil]
    symm
    have : ∀ l : List Nat, (l.map (fun i => (c.getD i (0, [])).1 * ((0 : Nat) : Int))).sum = 0 := fun l => by
      induction l with
      | nil => rfl
      | cons a l ih => rw [List.map_cons, List.sum_cons, ih]; simp
    exact this _
  | a :: lv, hx => by
    have ih := sumI_levels c lv (fun x h => hx x (List.mem_cons_of_mem _ h))
    have ha := hx a (by simp)
    rw [List.map_cons, List.sum_cons, ih]
    have e : ∀ (n : Nat), n ≤ c.length → ((List.range n).map (fun i => (c.getD i (0, [])).1 * (deep (a :: lv) i : Int))).sum = sumK (c.take (min a n)) + ((List.range n).map (fun i => (c.getD i (0, [])).1 * (deep lv i : Int))).sum := by
      intro n
      induction n with
      | zero => intro _; simp [sumK_nil]
      | succ n ihn =>
        intro hn
        have ihn := ihn (by omega)
        rw [List.range_succ, List.map_append, List.sum_append, List.map_append, List.sum_append, ihn]
        simp only [List.map_cons, List.map_nil, List.sum_cons, List.sum_nil, deep_cons]
        by_cases h : n < a
        · rw [if_pos h, show min a n = n by omega, show min a (n + 1) = n + 1 by omega, List.take_succ_eq_append_getElem (by omega), sumK_append, sumK_cons, sumK_nil]
          have : c.getD n (0, []) = c[n] := by rw [List.getD_eq_getElem?_getD, List.getElem?_eq_getElem (by omega)]; rfl
          rw [this, show ((deep lv n + 1 : Nat) : Int) = (deep lv n : Int) + 1 by omega, Int.mul_add, Int.mul_one]
          omega
        · rw [if_neg h, show min a n = a by omega, show min a (n + 1) = a by omega, Nat.add_zero]
          omega
    rw [e c.length (Nat.le_refl _), show min a c.length = a by omega]

/-- Levels of any lengths: how many are longer than p, for each p. -/
def lvl (ds : List Nat) : Nat → Nat → List Nat
  | 0, _ => []
  | m + 1, p => ds.countP (fun d => decide (p < d)) :: lvl ds m (p + 1)
theorem lvl_len (ds : List Nat) : ∀ m p, (lvl ds m p).length = m
  | 0, _ => rfl
  | m + 1, p => by show (lvl ds m (p + 1)).length + 1 = m + 1; rw [lvl_len ds m]
theorem lvl_le (ds : List Nat) : ∀ m p, ∀ x ∈ lvl ds m p, x ≤ ds.length
  | 0, _ => fun x h => by cases h
  | m + 1, p => fun x h => by
    rcases List.mem_cons.1 (show x ∈ ds.countP (fun d => decide (p < d)) :: lvl ds m (p + 1) from h) with rfl | h
    · exact List.countP_le_length
    · exact lvl_le ds m _ x h
def wgt (m : Nat) (ds : List Nat) : Nat := (ds.map (fun d => 2 ^ (m - d))).sum
theorem lvl_cons (d : Nat) (ds : List Nat) : ∀ m p, d ≤ p + m → val (lvl (d :: ds) m p) + 2 ^ (m - (d - p)) = val (lvl ds m p) + 2 ^ m
  | 0, p, h => by
    show 0 + 2 ^ (0 - (d - p)) = 0 + 2 ^ 0
    rw [show 0 - (d - p) = 0 by omega]
  | m + 1, p, h => by
    have ih := lvl_cons d ds m (p + 1) (by omega)
    show (d :: ds).countP _ * 2 ^ (lvl (d :: ds) m (p + 1)).length + val (lvl (d :: ds) m (p + 1)) + _ = ds.countP _ * 2 ^ (lvl ds m (p + 1)).length + val (lvl ds m (p + 1)) + _
    rw [lvl_len, lvl_len, List.countP_cons, Nat.pow_succ]
    by_cases hp : p < d
    · rw [if_pos (by simpa using hp), Nat.add_mul]
      rw [show m + 1 - (d - p) = m - (d - (p + 1)) by omega]
      omega
    · rw [if_neg (by simpa using hp), Nat.add_zero]
      rw [show d - p = 0 by omega, Nat.sub_zero, Nat.pow_succ]
      rw [show d - (p + 1) = 0 by omega, Nat.sub_zero] at ih
      omega
theorem lvl_val : ∀ (ds : List Nat) (m : Nat), (∀ d ∈ ds, d ≤ m) → val (lvl ds m 0) + wgt m ds = ds.length * 2 ^ m
  | [], m, _ => by
    have : ∀ m p, val (lvl [] m p) = 0 := fun m => by
      induction m with
      | zero => intro p; rfl
      | succ m ih => intro p; show 0 * _ + val (lvl [] m (p + 1)) = 0; rw [ih]; simp
    rw [this]; simp [wgt]
  | d :: ds, m, h => by
    have h1 := lvl_cons d ds m 0 (by have := h d (by simp); omega)
    have ih := lvl_val ds m (fun x hx => h x (List.mem_cons_of_mem _ hx))
    show _ + (2 ^ (m - d) + wgt m ds) = (ds.length + 1) * 2 ^ m
    rw [Nat.add_mul]
    rw [Nat.sub_zero] at h1
    omega
/-- What lengths cost, coin by coin. -/
def cost : List KK → List Nat → Int
  | x :: c, d :: ds => x.1 * (d : Int) + cost c ds
  | _, _ => 0
theorem sumK_mask : ∀ (c : List KK) (ds : List Nat) (p : Nat), Sorted c → ds.length = c.length → sumK (c.take (ds.countP (fun d => decide (p < d)))) ≤ ((c.zip ds).map (fun q => if p < q.2 then q.1.1 else 0)).sum
  | [], ds, p, _, h => by simp [sumK_nil]
  | x :: c, [], p, _, h => by simp at h
  | x :: c, d :: ds, p, hs, h => by
    have ih := sumK_mask c ds p hs.tail (by simpa using h)
    have hk : ds.countP (fun d => decide (p < d)) ≤ c.length := by
      have : ds.length = c.length := by simpa using h
      rw [← this]; exact List.countP_le_length
    rw [List.countP_cons, List.zip_cons_cons, List.map_cons, List.sum_cons]
    by_cases hp : p < d
    · rw [if_pos (by simpa using hp), if_pos hp, List.take_succ_cons, sumK_cons]
      show x.1 + _ ≤ x.1 + _
      omega
    · rw [if_neg (by simpa using hp), if_neg hp, Nat.add_zero]
      generalize ds.countP (fun d => decide (p < d)) = k at ih hk ⊢
      cases k with
      | zero => simpa [sumK_nil] using ih
      | succ k =>
        rw [List.take_succ_cons, sumK_cons]
        have := sumK_last c k x.1 hs.tail hk (fun v hv => by
          have := List.rel_of_pairwise_cons hs hv
          simpa [leK] using this)
        omega
theorem cost_lvl : ∀ (m p : Nat) (c : List KK) (ds : List Nat), Sorted c → ds.length = c.length → (∀ d ∈ ds, d ≤ p + m) → ((lvl ds m p).map (fun a => sumK (c.take a))).sum ≤ ((c.zip ds).map (fun q => q.1.1 * ((q.2 - p : Nat) : Int))).sum
  | 0, p, c, ds, hs, h, hd => by
    show (0 : Int) ≤ _
    have : ∀ z : List (KK × Nat), (∀ q ∈ z, q.2 ≤ p) → (z.map (fun q => q.1.1 * ((q.2 - p : Nat) : Int))).sum = 0 := fun z => by
      induction z with
      | nil => intro _; rfl
      | cons q z ih =>
        intro h
        rw [List.map_cons, List.sum_cons, ih (fun q hq => h q (List.mem_cons_of_mem _ hq))]
        have := h q (by simp)
        rw [show q.2 - p = 0 by omega]; simp
    rw [this]
    · exact Int.le_refl _
    · intro q hq
      have := hd q.2 (List.of_mem_zip hq).2
      omega
  | m + 1, p, c, ds, hs, h, hd => by
    have ih := cost_lvl m (p + 1) c ds hs h (fun d hd' => by have := hd d hd'; omega)
    have hm := sumK_mask c ds p hs h
    show (sumK (c.take (ds.countP (fun d => decide (p < d)))) :: (lvl ds m (p + 1)).map _).sum ≤ _
    rw [List.sum_cons]
    have e : ∀ z : List (KK × Nat), (z.map (fun q => q.1.1 * ((q.2 - p : Nat) : Int))).sum = (z.map (fun q => if p < q.2 then q.1.1 else 0)).sum + (z.map (fun q => q.1.1 * ((q.2 - (p + 1) : Nat) : Int))).sum := fun z => by
      induction z with
      | nil => rfl
      | cons q z ih =>
        rw [List.map_cons, List.map_cons, List.map_cons, List.sum_cons, List.sum_cons, List.sum_cons, ih]
        by_cases hp : p < q.2
        · rw [if_pos hp, show q.2 - p = (q.2 - (p + 1)) + 1 by omega, show ((q.2 - (p + 1) + 1 : Nat) : Int) = ((q.2 - (p + 1) : Nat) : Int) + 1 by omega, Int.mul_add, Int.mul_one]
          omega
        · rw [if_neg hp, show q.2 - p = 0 by omega, show q.2 - (p + 1) = 0 by omega]; simp
    rw [e]
    omega
/-- No whole lengths cost less than the row's head. -/
theorem best_least {c : List KK} (hs : Sorted c) (m : Nat) (hm : 1 ≤ m) (ds : List Nat) (hl : ds.length = c.length) (hd : ∀ d ∈ ds, d ≤ m) (hw : wgt m ds = 2 ^ m) (h1 : 1 ≤ c.length) :
    sumK ((rowS c (m - 1)).take (2 * c.length - 2)) ≤ ((c.zip ds).map (fun q => q.1.1 * (q.2 : Int))).sum := by
  have h2 := lvl_val ds m hd
  have h3 := rows_least hs (m - 1) (lvl ds m 0) (by rw [lvl_len]; omega) (fun x hx => by rw [← hl]; exact lvl_le ds m 0 x hx) (2 * c.length - 2) (by
    have e : 2 ^ m = 2 ^ (m - 1) * 2 := by rw [← Nat.pow_succ]; congr 1; omega
    obtain ⟨n, hn⟩ : ∃ n, c.length = n + 1 := ⟨c.length - 1, by omega⟩
    rw [hl, hn, hw, e, Nat.add_mul, ← Nat.mul_assoc] at h2
    rw [hn, show 2 * (n + 1) - 2 = 2 * n by omega, Nat.mul_comm 2 n, Nat.mul_assoc, Nat.mul_comm 2, ← Nat.mul_assoc]
    omega)
  refine Int.le_trans h3.2 ?_
  have := cost_lvl m 0 c ds hs hl (by simpa using hd)
  simpa using this
end Go.Proofs.Ytbknkahakmfhkaa
