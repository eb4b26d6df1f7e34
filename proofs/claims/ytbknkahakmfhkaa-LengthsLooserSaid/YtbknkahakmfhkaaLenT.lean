/- What the lengths of lengths.Best are, in plain lists: right, whole, monotone, least. -/
import Derived.Test.YtbknkahakmfhkaaLenO
import Derived.Test.YtbknkahakmfhkaaLenJ
import Derived.Test.YtbknkahakmfhkaaLenR
namespace Go.Proofs.Ytbknkahakmfhkaa
set_option linter.unusedVariables false
set_option linter.unusedSimpArgs false

theorem sortK_srt (l : List KK) : sortK l = srt l := ins_whole (fun x : KK => x.1) l
theorem pairK_duo : ∀ l : List KK, pairK l = duoK l
  | [] => rfl
  | [_] => rfl
  | a :: b :: r => by
    show _ :: pairK r = _ :: duoK r
    rw [pairK_duo r]
theorem rowK_S (c : List KK) : ∀ t, rowK c t = rowS c t
  | 0 => rfl
  | t + 1 => by
    show sortK (c ++ pairK (rowK c t)) = srt (c ++ duoK (rowS c t))
    rw [sortK_srt, pairK_duo, rowK_S c t]
def bestS (l : List Int) (m : Nat) : List Nat := cntK (List.replicate l.length 0) ((rowS (srt (coinsK l)) (m - 1)).take (2 * (coinsK l).length - 2))
theorem bestK_S (l : List Int) (m : Nat) : bestK l m = bestS l m := by unfold bestK bestS; rw [rowK_S, sortK_srt]

/-- A coin's sign. -/
def sgn (x : KK) : Nat := x.2.headD 0
theorem coinsF_coin : ∀ (l : List Int) (i : Nat), ∀ x ∈ coinsF i l, 0 < x.1 ∧ x.2 = [sgn x] ∧ i ≤ sgn x ∧ l[sgn x - i]? = some x.1
  | [], _, x, h => by simp [coinsF] at h
  | y :: r, i, x, h => by
    unfold coinsF at h
    rcases List.mem_append.1 h with h | h
    · split at h
      · rw [List.mem_singleton.1 h]
        refine ⟨by assumption, rfl, Nat.le_refl _, ?_⟩
        show (y :: r)[i - i]? = some y
        rw [Nat.sub_self]; rfl
      · cases h
    · obtain ⟨h1, h2, h3, h4⟩ := coinsF_coin r (i + 1) x h
      refine ⟨h1, h2, by omega, ?_⟩
      rw [show sgn x - i = (sgn x - (i + 1)) + 1 by omega, List.getElem?_cons_succ]
      exact h4
theorem coinsF_flat : ∀ (l : List Int) (i : Nat), flatS (coinsF i l) = ((l.zipIdx i).filter (fun q => decide (0 < q.1))).map (·.2)
  | [], _ => rfl
  | y :: r, i => by
    have ih := coinsF_flat r (i + 1)
    unfold flatS at ih ⊢
    rw [coinsF, List.flatMap_append, ih, List.zipIdx_cons]
    by_cases h : 0 < y
    · rw [if_pos h, List.filter_cons_of_pos (by simpa using h)]; rfl
    · rw [if_neg h, List.filter_cons_of_neg (by simpa using h)]; rfl
theorem coins_nodup (l : List Int) : (flatS (coinsK l)).Nodup := by
  unfold coinsK
  rw [coinsF_flat]
  refine List.Nodup.sublist (List.Sublist.map _ List.filter_sublist) ?_
  rw [List.zipIdx_map_snd]
  exact List.nodup_range'
/-- Sums over coins are sums over the signs that come. -/
theorem coinsF_sum (g : Int → Nat → Int) : ∀ (l : List Int) (i : Nat), ((coinsF i l).map (fun x => g x.1 (sgn x))).sum = ((l.zipIdx i).map (fun q => if 0 < q.1 then g q.1 q.2 else 0)).sum
  | [], _ => rfl
  | y :: r, i => by
    rw [coinsF, List.map_append, List.sum_append, coinsF_sum g r (i + 1), List.zipIdx_cons, List.map_cons, List.sum_cons]
    by_cases h : 0 < y
    · rw [if_pos h]
      show (g y i + 0) + _ = (if 0 < y then g y i else 0) + _
      rw [if_pos h]; omega
    · rw [if_neg h]
      show 0 + _ = (if 0 < y then g y i else 0) + _
      rw [if_neg h]
theorem sumI_perm {α : Type} (g : α → Int) {x y : List α} (h : x.Perm y) : (x.map g).sum = (y.map g).sum := by
  induction h with
  | nil => rfl
  | cons a _ ih => rw [List.map_cons, List.map_cons, List.sum_cons, List.sum_cons, ih]
  | swap a b l => simp only [List.map_cons, List.sum_cons]; omega
  | trans _ _ h1 h2 => rw [h1, h2]

theorem bump_get (s : Nat) : ∀ (l : List Nat) (C : List Nat), s < C.length → (l.foldl bumpL C).getD s 0 = C.getD s 0 + l.count s
  | [], C, _ => by simp
  | x :: l, C, h => by
    rw [List.foldl_cons, bump_get s l (bumpL C x) (by unfold bumpL; simpa using h)]
    unfold bumpL
    rw [List.count_cons]
    by_cases hx : x = s
    · subst hx
      rw [List.getD_eq_getElem?_getD, List.getElem?_set_self h]
      simp only [Option.getD_some, beq_self_eq_true, if_true]
      omega
    · rw [List.getD_eq_getElem?_getD, List.getElem?_set_ne hx, ← List.getD_eq_getElem?_getD]
      have : (x == s) = false := by simpa using hx
      rw [this]
      simp
theorem bestS_len (l : List Int) (m : Nat) : (bestS l m).length = l.length := by
  unfold bestS cntK
  have : ∀ (r : List Nat) (C : List Nat), (r.foldl bumpL C).length = C.length := fun r => by
    induction r with
    | nil => intro C; rfl
    | cons x r ih => intro C; rw [List.foldl_cons, ih]; unfold bumpL; simp
  rw [this]; simp
theorem bestS_get (l : List Int) (m s : Nat) (h : s < l.length) : (bestS l m).getD s 0 = (flatS ((rowS (srt (coinsK l)) (m - 1)).take (2 * (coinsK l).length - 2))).count s := by
  unfold bestS cntK
  rw [bump_get s _ _ (by simpa using h)]
  have : (List.replicate l.length 0).getD s 0 = 0 := by rw [List.getD_eq_getElem?_getD, List.getElem?_replicate]; split <;> rfl
  rw [this, Nat.zero_add]; rfl

theorem flat_single : ∀ (c : List KK) (a : Nat), (∀ x ∈ c, x.2 = [sgn x]) → flatS (c.take a) = (c.map sgn).take a
  | c, 0, _ => by simp [flatS]
  | [], a + 1, _ => by simp [flatS]
  | x :: c, a + 1, h => by
    have ih := flat_single c a (fun y hy => h y (List.mem_cons_of_mem _ hy))
    rw [List.take_succ_cons, List.map_cons, List.take_succ_cons]
    unfold flatS at ih ⊢
    rw [List.flatMap_cons, ih, h x (by simp)]
    rfl
theorem count_take : ∀ (x : List Nat) (a i : Nat) (s : Nat), x.Nodup → x[i]? = some s → (x.take a).count s = if i < a then 1 else 0
  | x, 0, i, s, _, _ => by simp
  | [], a + 1, i, s, _, h => by simp at h
  | y :: x, a + 1, 0, s, hn, h => by
    have h : y = s := by simpa using h
    subst h
    rw [List.take_succ_cons, List.count_cons_self, if_pos (by omega)]
    have : y ∉ x.take a := fun hm => (List.nodup_cons.1 hn).1 (List.mem_of_mem_take hm)
    rw [List.count_eq_zero.2 this]
  | y :: x, a + 1, i + 1, s, hn, h => by
    rw [List.getElem?_cons_succ] at h
    have hne : y ≠ s := fun e => (List.nodup_cons.1 hn).1 (by rw [e]; exact List.mem_of_getElem? h)
    rw [List.take_succ_cons, List.count_cons_of_ne hne, count_take x a i s (List.nodup_cons.1 hn).2 h]
    by_cases hi : i < a
    · rw [if_pos hi, if_pos (by omega)]
    · rw [if_neg hi, if_neg (by omega)]
theorem deep_sum (i : Nat) : ∀ D : List Nat, (D.map (fun a => if i < a then 1 else 0)).sum = deep D i
  | [] => rfl
  | a :: D => by rw [List.map_cons, List.sum_cons, deep_sum i D, deep_cons]; omega
theorem deep_mono {D : List Nat} {i j : Nat} (h : i ≤ j) : deep D j ≤ deep D i := by
  induction D with
  | nil => exact Nat.le_refl _
  | cons a D ih =>
    rw [deep_cons, deep_cons]
    split <;> split <;> omega
theorem wgt_range (m n : Nat) (f : Nat → Nat) : wgt m ((List.range n).map f) = sumN n (fun i => 2 ^ (m - f i)) := by
  induction n with
  | zero => rfl
  | succ n ih =>
    unfold wgt at ih ⊢
    rw [List.range_succ, List.map_append, List.map_append, List.sum_append, ih]
    show _ + (2 ^ (m - f n) + 0) = _ + 2 ^ (m - f n)
    rfl
structure BestOk (l : List Int) (m : Nat) (B : List Nat) : Prop where
  len : B.length = l.length
  none : ∀ s, l[s]? = some 0 → B.getD s 0 = 0
  some : ∀ s x, l[s]? = some x → 0 < x → 1 ≤ B.getD s 0 ∧ B.getD s 0 ≤ m
  whole : wgt m ((srt (coinsK l)).map (fun x => B.getD (sgn x) 0)) = 2 ^ m
  mono : ((srt (coinsK l)).map (fun x => B.getD (sgn x) 0)).Pairwise (fun x y => y ≤ x)
  cost : ((srt (coinsK l)).map (fun x => x.1 * ((B.getD (sgn x) 0 : Nat) : Int))).sum = sumK ((rowS (srt (coinsK l)) (m - 1)).take (2 * (coinsK l).length - 2))
theorem bestS_ok (l : List Int) (m : Nat) (hm : 1 ≤ m) (h2 : 2 ≤ (coinsK l).length) (hle : (coinsK l).length ≤ 2 ^ m) : BestOk l m (bestS l m) := by
  obtain ⟨c, hc⟩ : ∃ c, c = srt (coinsK l) := ⟨_, rfl⟩
  have hperm : c.Perm (coinsK l) := by rw [hc]; exact srt_perm _
  have hs : Sorted c := by rw [hc]; exact sorted_srt _
  have hcl : (coinsK l).length = c.length := hperm.length_eq.symm
  have hco : ∀ x ∈ c, 0 < x.1 ∧ x.2 = [sgn x] ∧ l[sgn x]? = some x.1 := fun x hx => by
    obtain ⟨a1, a2, _, a4⟩ := coinsF_coin l 0 x (hperm.mem_iff.1 hx)
    exact ⟨a1, a2, by simpa using a4⟩
  have hnd : (c.map sgn).Nodup := by
    have h1 := flat_single c c.length (fun x hx => (hco x hx).2.1)
    rw [List.take_length, List.take_of_length_le (by simp)] at h1
    rw [← h1]
    have h2 : (flatS c).Perm (flatS (coinsK l)) := by unfold flatS; exact hperm.flatMap_right _
    exact (h2.nodup_iff).2 (coins_nodup l)
  have hmem : ∀ s x, l[s]? = some x → 0 < x → s ∈ c.map sgn := fun s x h1 h0 => by
    have h3 := flat_single c c.length (fun x hx => (hco x hx).2.1)
    rw [List.take_length, List.take_of_length_le (by simp)] at h3
    rw [← h3]
    have h4 : (flatS c).Perm (flatS (coinsK l)) := by unfold flatS; exact hperm.flatMap_right _
    rw [h4.mem_iff]
    unfold coinsK
    rw [coinsF_flat]
    refine List.mem_map.2 ⟨(x, s), ?_, rfl⟩
    rw [List.mem_filter]
    exact ⟨by rw [List.mem_zipIdx_iff_getElem?]; exact h1, by simpa using h0⟩
  rw [hcl] at hle h2
  have hroom : 2 * c.length - 2 ≤ (rowS c (m - 1)).length := by
    refine rowS_room c (m - 1) _ ?_
    obtain ⟨t, rfl⟩ : ∃ t, m = t + 1 := ⟨m - 1, by omega⟩
    rw [Nat.pow_succ] at hle
    rw [Nat.add_sub_cancel]
    obtain ⟨d, hd⟩ : ∃ d, c.length = d + 1 := ⟨c.length - 1, by omega⟩
    have e : 2 * c.length * 2 ^ t = (2 * c.length - 2) * 2 ^ t + 2 * 2 ^ t := by rw [← Nat.add_mul]; congr 1; omega
    omega
  obtain ⟨a, lv, e1, e2, e3, e4, e5, e6, -⟩ := rows_levels hs (fun x hx => by have := (hco x hx).1; omega) (m - 1) (2 * c.length - 2) hroom
  obtain ⟨D, hD⟩ : ∃ D, D = a :: lv := ⟨_, rfl⟩
  rw [← hD] at e2 e3 e4 e5 e6
  have hDl : D.length = m := by rw [hD, List.length_cons, e1]; omega
  have hget : ∀ i x, c[i]? = some x → (bestS l m).getD (sgn x) 0 = deep D i := fun i x hx => by
    have hxm := List.mem_of_getElem? hx
    have hlt : sgn x < l.length := (List.getElem?_eq_some_iff.1 (hco x hxm).2.2).1
    rw [bestS_get l m _ hlt, ← hc, hcl, e5.count_eq, List.count_flatMap, ← deep_sum]
    congr 1
    apply List.map_congr_left
    intro b _
    show (flatS (c.take b)).count (sgn x) = _
    rw [flat_single c b (fun x hx => (hco x hx).2.1)]
    exact count_take _ b i _ hnd (by rw [List.getElem?_map, hx]; rfl)
  have hds : c.map (fun x => (bestS l m).getD (sgn x) 0) = (List.range c.length).map (deep D) := by
    apply List.ext_getElem?
    intro i
    rw [List.getElem?_map, List.getElem?_map]
    by_cases hi : i < c.length
    · rw [List.getElem?_eq_getElem hi, List.getElem?_range hi]
      simp only [Option.map_some]
      rw [hget i c[i] (List.getElem?_eq_getElem hi)]
    · rw [List.getElem?_eq_none (by omega), List.getElem?_eq_none (by rw [List.length_range]; omega)]
      rfl
  have hK := kraft_levels c.length D e2 e3
  rw [← e4, hDl] at hK
  have hW : sumN c.length (fun i => 2 ^ (m - deep D i)) = 2 ^ m := by
    obtain ⟨t, rfl⟩ : ∃ t, m = t + 1 := ⟨m - 1, by omega⟩
    rw [Nat.add_sub_cancel] at hK
    obtain ⟨d, hd⟩ : ∃ d, c.length = d + 1 := ⟨c.length - 1, by omega⟩
    rw [hd] at hK ⊢
    rw [show 2 * (d + 1) - 2 = d * 2 by omega, Nat.mul_assoc, Nat.mul_comm 2, ← Nat.pow_succ, Nat.add_mul] at hK
    generalize 2 ^ (t + 1) = P at hK ⊢
    omega
  have hpos : ∀ i, i < c.length → 1 ≤ deep D i := fun i hi => by
    refine Nat.one_le_iff_ne_zero.2 fun h0 => ?_
    obtain ⟨j, hj, hji⟩ : ∃ j, j < c.length ∧ j ≠ i := by
      by_cases hi0 : i = 0
      · exact ⟨1, by omega, by omega⟩
      · exact ⟨0, by omega, fun h => hi0 h.symm⟩
    have hp : 1 ≤ 2 ^ (m - deep D j) := Nat.one_le_two_pow
    have hi2 : 2 ^ (m - deep D i) = 2 ^ m := by rw [h0]; rfl
    rcases Nat.lt_or_gt_of_ne hji with h | h
    · have := sumN_two c.length (fun i => 2 ^ (m - deep D i)) j i h hi
      have this : 2 ^ (m - deep D _) + 2 ^ (m - deep D _) ≤ _ := this
      omega
    · have := sumN_two c.length (fun i => 2 ^ (m - deep D i)) i j h hj
      have this : 2 ^ (m - deep D _) + 2 ^ (m - deep D _) ≤ _ := this
      omega
  refine ⟨bestS_len l m, ?_, ?_, ?_, ?_, ?_⟩
  · intro s hs0
    rw [bestS_get l m s (List.getElem?_eq_some_iff.1 hs0).1, ← hc, hcl, List.count_eq_zero]
    intro hm'
    have hm' := e5.mem_iff.1 hm'
    obtain ⟨b, _, hb⟩ := List.mem_flatMap.1 hm'
    rw [flat_single c b (fun x hx => (hco x hx).2.1)] at hb
    obtain ⟨x, hx, rfl⟩ := List.mem_map.1 (List.mem_of_mem_take hb)
    have h1 := (hco x hx).2.2
    rw [h1] at hs0
    have h3 := (hco x hx).1
    have : x.1 = 0 := by simpa using hs0
    omega
  · intro s x h1 h0
    obtain ⟨y, hy, rfl⟩ := List.mem_map.1 (hmem s x h1 h0)
    obtain ⟨i, hi, hiy⟩ := List.getElem_of_mem hy
    have hg := hget i y (by rw [List.getElem?_eq_getElem hi, hiy])
    rw [hg]
    have h2 := deep_le D i
    rw [hDl] at h2
    exact ⟨hpos i hi, h2⟩
  · rw [← hc, hds, wgt_range, hW]
  · rw [← hc, hds, List.pairwise_map]
    refine List.Pairwise.imp (fun h => deep_mono (Nat.le_of_lt h)) List.pairwise_lt_range
  · rw [← hc, hcl, e6, sumI_levels c D e2]
    congr 1
    apply List.ext_getElem?
    intro i
    rw [List.getElem?_map, List.getElem?_map]
    by_cases hi : i < c.length
    · rw [List.getElem?_eq_getElem hi, List.getElem?_range hi]
      simp only [Option.map_some]
      rw [hget i c[i] (List.getElem?_eq_getElem hi), List.getD_eq_getElem?_getD, List.getElem?_eq_getElem hi]
      rfl
    · rw [List.getElem?_eq_none (by omega), List.getElem?_eq_none (by rw [List.length_range]; omega)]
      rfl
end Go.Proofs.Ytbknkahakmfhkaa
