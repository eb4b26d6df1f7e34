/- What lengths.Best answers, in plain lists, for any signs: right, of their kind, monotone; more bits cost no more. -/
import Derived.Test.YtbknkahakmfhkaaLenL
import Derived.Test.YtbknkahakmfhkaaLenP
namespace Go.Proofs.Ytbknkahakmfhkaa
set_option linter.unusedVariables false
set_option linter.unusedSimpArgs false

structure BestR (l : List Int) (m : Nat) (B : List Nat) : Prop where
  len : B.length = l.length
  none : ∀ s, l[s]? = some 0 → B.getD s 0 = 0
  some : ∀ s x, l[s]? = some x → 0 < x → 1 ≤ B.getD s 0 ∧ B.getD s 0 ≤ m
theorem coinsF_mem2 : ∀ (l : List Int) (i s : Nat) (y : Int), i ≤ s → l[s - i]? = some y → 0 < y → (y, [s]) ∈ coinsF i l
  | [], _, _, _, _, h, _ => by simp at h
  | x :: r, i, s, y, hi, h, h0 => by
    unfold coinsF
    refine List.mem_append.2 ?_
    by_cases hs : s = i
    · subst hs
      rw [Nat.sub_self] at h
      have h : x = y := by simpa using h
      subst h
      rw [if_pos h0]
      exact .inl (by simp)
    · rw [show s - i = (s - (i + 1)) + 1 by omega, List.getElem?_cons_succ] at h
      exact .inr (coinsF_mem2 r (i + 1) s y (by omega) h h0)
theorem fewB_get (l : List Int) (s : Nat) : ∀ (cs : List KK) (o : List Nat), s < o.length → (cs.foldl (fun o x => o.set (sgn x) 1) o).getD s 0 = if s ∈ cs.map sgn then 1 else o.getD s 0
  | [], o, _ => by simp
  | x :: cs, o, h => by
    rw [List.foldl_cons, fewB_get l s cs _ (by rw [List.length_set]; exact h), List.map_cons]
    by_cases h1 : s ∈ cs.map sgn
    · rw [if_pos h1, if_pos (List.mem_cons_of_mem _ h1)]
    · rw [if_neg h1]
      by_cases h2 : s = sgn x
      · rw [if_pos (by rw [h2]; simp), h2, List.getD_eq_getElem?_getD, List.getElem?_set_self (by rw [← h2]; exact h)]; rfl
      · rw [if_neg (by simp [h1, h2]), List.getD_eq_getElem?_getD, List.getElem?_set_ne (fun e => h2 e.symm), ← List.getD_eq_getElem?_getD]
theorem bestR_few {l : List Int} {m : Nat} (hm : 1 ≤ m) : BestR l m (fewB l (coinsK l)) := by
  have hlen : (fewB l (coinsK l)).length = l.length := by unfold fewB; rw [fewB_len l]; simp
  have hget : ∀ s, s < l.length → (fewB l (coinsK l)).getD s 0 = if s ∈ (coinsK l).map sgn then 1 else 0 := fun s hs => by
    unfold fewB
    rw [fewB_get l s _ _ (by simpa using hs)]
    have : (List.replicate l.length 0).getD s 0 = 0 := by rw [List.getD_eq_getElem?_getD, List.getElem?_replicate]; split <;> rfl
    rw [this]
  refine ⟨hlen, fun s hs => ?_, fun s x hs hx => ?_⟩
  · rw [hget s (List.getElem?_eq_some_iff.1 hs).1, if_neg]
    intro hmem
    obtain ⟨x, hx, rfl⟩ := List.mem_map.1 hmem
    obtain ⟨a1, _, _, a4⟩ := coinsF_coin l 0 x hx
    rw [Nat.sub_zero, hs] at a4
    have : 0 = x.1 := by simpa using a4
    omega
  · rw [hget s (List.getElem?_eq_some_iff.1 hs).1, if_pos]
    · omega
    · exact List.mem_map.2 ⟨(x, [s]), coinsF_mem2 l 0 s x (Nat.zero_le _) (by simpa using hs) hx, rfl⟩
theorem bestR_of {l : List Int} {m : Nat} {B : List Nat} (h : BestOk l m B) : BestR l m B := ⟨h.len, h.none, h.some⟩
theorem bestL_R {l : List Int} {m : Nat} (hm : 1 ≤ m) (hle : (coinsK l).length ≤ 2 ^ m) : BestR l m (bestL l m) := by
  unfold bestL
  by_cases h : (coinsK l).length < 2
  · rw [if_pos h]; exact bestR_few hm
  · rw [if_neg h, bestK_S]; exact bestR_of (bestS_ok l m hm (by omega) hle)
theorem BestR.le {l : List Int} {m : Nat} {B : List Nat} (h : BestR l m B) (h0 : ∀ x ∈ l, 0 ≤ x) : ∀ d ∈ B, d ≤ m := fun d hd => by
  obtain ⟨i, hi, rfl⟩ := List.getElem_of_mem hd
  have hl : i < l.length := by rw [← h.len]; exact hi
  have e : B.getD i 0 = B[i] := by rw [List.getD_eq_getElem?_getD, List.getElem?_eq_getElem hi]; rfl
  by_cases hx : 0 < l[i]
  · have := (h.some i l[i] (List.getElem?_eq_getElem hl) hx).2
    omega
  · have h1 := h0 l[i] (List.getElem_mem hl)
    have h2 := h.none i (by rw [List.getElem?_eq_getElem hl]; congr 1; omega)
    omega
theorem count_same : ∀ (B : List Nat) (l : List Int), B.length = l.length → (∀ i x, l[i]? = some x → (0 < B.getD i 0 ↔ 0 < x)) → B.countP (fun b => decide (0 < b)) = l.countP (fun x => decide (0 < x))
  | [], [], _, _ => rfl
  | [], _ :: _, h, _ => by simp at h
  | _ :: _, [], h, _ => by simp at h
  | b :: B, x :: l, h, hp => by
    have h0 := hp 0 x rfl
    have ih := count_same B l (by simpa using h) (fun i y hy => by
      have := hp (i + 1) y (by rw [List.getElem?_cons_succ]; exact hy)
      rwa [List.getD_cons_succ] at this)
    rw [List.getD_cons_zero] at h0
    rw [List.countP_cons, List.countP_cons, ih]
    congr 1
    by_cases h1 : 0 < x
    · rw [if_pos (by simpa using h0.2 h1), if_pos (by simpa using h1)]
    · rw [if_neg (by simpa using fun h => h1 (h0.1 h)), if_neg (by simpa using h1)]
theorem coins_count (l : List Int) : (coinsK l).length = l.countP (fun x => decide (0 < x)) := by
  rw [List.countP_eq_length_filter, ← coinsF_keys l 0, List.length_map]; rfl
def castL (B : List Nat) : List Int := B.map (fun b : Nat => (b : Int))
theorem kC_cast (B : List Nat) : kC (castL B) = B.countP (fun b => decide (0 < b)) := by
  unfold kC kP castL
  rw [← List.countP_eq_length_filter, List.countP_map]
  congr 1
  funext b
  simp [Function.comp]
theorem kO_le_kC (l : List Int) : kO l ≤ kC l := by
  rw [kO_kP]; exact List.length_filter_le ..
theorem bestR_pos {l : List Int} {m : Nat} {B : List Nat} (h : BestR l m B) (h0 : ∀ x ∈ l, 0 ≤ x) : ∀ i x, l[i]? = some x → (0 < B.getD i 0 ↔ 0 < x) := fun i x hx => by
  constructor
  · intro hb
    by_cases h1 : 0 < x
    · exact h1
    · have := h0 x (List.mem_of_getElem? hx)
      have h2 := h.none i (by rw [hx]; congr 1; omega)
      omega
  · intro h1; have := (h.some i x hx h1).1; omega
theorem kindL_few {l : List Int} {m : Nat} (hm : 1 ≤ m) (h0 : ∀ x ∈ l, 0 ≤ x) (h2 : (coinsK l).length < 2) : kindS (castL (fewB l (coinsK l))) = ((coinsK l).length : Int) + 1 := by
  have hR := bestR_few (l := l) (m := 1) (Nat.le_refl _)
  have hle := hR.le h0
  have hk : kC (castL (fewB l (coinsK l))) = (coinsK l).length := by rw [kC_cast, coins_count, count_same _ _ hR.len (bestR_pos hR h0)]
  have hbad : ¬ ∃ n ∈ castL (fewB l (coinsK l)), kBad n := by
    rintro ⟨n, hn, hb⟩
    obtain ⟨b, hb', rfl⟩ := List.mem_map.1 hn
    have := hle b hb'
    unfold kBad at hb
    omega
  have hone : kO (castL (fewB l (coinsK l))) = kC (castL (fewB l (coinsK l))) := by
    unfold kO kC kP castL
    rw [← List.countP_eq_length_filter, ← List.countP_eq_length_filter]
    apply List.countP_congr
    intro x hx
    obtain ⟨b, hb', rfl⟩ := List.mem_map.1 hx
    have := hle b hb'
    simp only [decide_eq_true_eq]
    omega
  unfold kindS
  rw [if_neg hbad, hone, hk]
  have : (coinsK l).length = 0 ∨ (coinsK l).length = 1 := by omega
  rcases this with h | h <;> rw [h] <;> simp
theorem pow_div (b : Nat) (h : b ≤ 15) : (32768 : Int) / 2 ^ b = ((2 ^ (15 - b) : Nat) : Int) := pow_pow b h
theorem kW_zip {l : List Int} {B : List Nat} (hl : B.length = l.length) : castL B = l.zipIdx.map (fun q => ((B.getD q.2 0 : Nat) : Int)) := by
  unfold castL
  apply List.ext_getElem?
  intro i
  rw [List.getElem?_map, List.getElem?_map, List.getElem?_zipIdx]
  by_cases hi : i < B.length
  · rw [List.getElem?_eq_getElem hi, List.getElem?_eq_getElem (show i < l.length by omega)]
    simp only [Option.map_some, Nat.zero_add]
    rw [List.getD_eq_getElem?_getD, List.getElem?_eq_getElem hi]; rfl
  · rw [List.getElem?_eq_none (by omega), List.getElem?_eq_none (by omega)]; rfl
theorem sum_cast {α : Type} (f : α → Nat) : ∀ c : List α, (c.map (fun x => ((f x : Nat) : Int))).sum = (((c.map f).sum : Nat) : Int)
  | [] => rfl
  | x :: c => by rw [List.map_cons, List.map_cons, List.sum_cons, List.sum_cons, sum_cast f c]; omega
theorem kindL_more {l : List Int} {m : Nat} {B : List Nat} (hm : 1 ≤ m ∧ m ≤ 15) (h0 : ∀ x ∈ l, 0 ≤ x) (h2 : 2 ≤ (coinsK l).length) (hok : BestOk l m B) : kindS (castL B) = 3 := by
  have hR := bestR_of hok
  have hle := hR.le h0
  have hk : kC (castL B) = (coinsK l).length := by rw [kC_cast, coins_count, count_same _ _ hR.len (bestR_pos hR h0)]
  have hbad : ¬ ∃ n ∈ castL B, kBad n := by
    rintro ⟨n, hn, hb⟩
    obtain ⟨b, hb', rfl⟩ := List.mem_map.1 hn
    have := hle b hb'
    unfold kBad at hb
    omega
  have hW : kW (castL B) = 32768 := by
    have hV := comeB_ok hok
    have h1 := wgt_scale (comeB l B) m (15 - m) (fun d hd => (hV.rng d hd).2)
    rw [hV.whole, ← Nat.pow_add, show m + (15 - m) = 15 by omega] at h1
    unfold kW
    rw [kW_zip hok.len, List.map_map]
    have h3 := coinsF_sum (fun x s => ((2 ^ (15 - B.getD s 0) : Nat) : Int)) l 0
    have h4 : ((coinsF 0 l).map (fun x => ((2 ^ (15 - B.getD (sgn x) 0) : Nat) : Int))).sum = 32768 := by
      rw [sum_cast (fun x : KK => 2 ^ (15 - B.getD (sgn x) 0))]
      unfold wgt comeB at h1
      rw [List.map_map] at h1
      have : ((coinsF 0 l).map (fun x : KK => 2 ^ (15 - B.getD (sgn x) 0))).sum = 2 ^ 15 := h1
      rw [this]; rfl
    refine Eq.trans (congrArg List.sum (List.map_congr_left ?_)) (h3.symm.trans h4)
    rintro ⟨x, s⟩ hx
    have hx1 := List.mem_zipIdx_iff_getElem?.1 hx
    have hp := bestR_pos hR h0 s x hx1
    show (if 0 < ((B.getD s 0 : Nat) : Int) then (32768 : Int) / 2 ^ (((B.getD s 0 : Nat) : Int)).toNat else 0) = if 0 < x then _ else 0
    by_cases hx0 : 0 < x
    · rw [if_pos hx0, if_pos (by have := hp.2 hx0; omega), Int.toNat_natCast, pow_div _ (by have := (hok.some s x hx1 hx0).2; omega)]
    · rw [if_neg hx0, if_neg (by have := fun h => hx0 (hp.1 h); omega)]
  unfold kindS
  rw [if_neg hbad, hk, if_neg (by omega), if_neg (by omega), if_pos hW]
theorem kindL_eq {l : List Int} {m : Nat} (hm : 1 ≤ m ∧ m ≤ 15) (h0 : ∀ x ∈ l, 0 ≤ x) (hle : (coinsK l).length ≤ 2 ^ m) : kindS (castL (bestL l m)) = min (((coinsK l).length : Int) + 1) 3 := by
  unfold bestL
  by_cases h : (coinsK l).length < 2
  · rw [if_pos h, kindL_few hm.1 h0 h]; omega
  · rw [if_neg h, bestK_S, kindL_more hm h0 (by omega) (bestS_ok l m hm.1 (by omega) hle)]; omega
/-- With more bits nothing costs more. -/
theorem looser_cost {l : List Int} {m : Nat} (hm : 1 ≤ m) (h0 : ∀ x ∈ l, 0 ≤ x) (hle : (coinsK l).length ≤ 2 ^ m) : dotL l (bestL l (m + 1)) ≤ dotL l (bestL l m) := by
  unfold bestL
  by_cases h : (coinsK l).length < 2
  · rw [if_pos h, if_pos h]; exact Int.le_refl _
  · rw [if_neg h, if_neg h, bestK_S, bestK_S]
    have h1 := bestS_ok l m hm (by omega) hle
    have h2 := bestS_ok l (m + 1) (by omega) (by omega) (by rw [Nat.pow_succ]; omega)
    have hV := comeB_ok h1
    rw [best_dot h2 h0, ← comeB_dot h1 h0]
    refine head_least (by omega) (by omega) _ hV.len (fun d hd => by have := hV.rng d hd; omega) ?_
    rw [wgt_scale _ m 1 (fun d hd => (hV.rng d hd).2), hV.whole, ← Nat.pow_add]
/-- Who comes more often has no longer word. -/
theorem mono_B {l : List Int} {m : Nat} (hm : 1 ≤ m) (hle : (coinsK l).length ≤ 2 ^ m) (i k : Nat) (x y : Int) (hx : l[i]? = some x) (hy : l[k]? = some y) (hxy : y < x) (hy0 : 0 < y) : (bestL l m).getD i 0 ≤ (bestL l m).getD k 0 := by
  unfold bestL
  by_cases h : (coinsK l).length < 2
  · rw [if_pos h]
    have hR := bestR_few (l := l) (m := 1) (Nat.le_refl _)
    have h1 := hR.some i x hx (by omega)
    have h2 := hR.some k y hy hy0
    omega
  · rw [if_neg h, bestK_S]
    have hok := bestS_ok l m hm (by omega) hle
    generalize bestS l m = B at hok ⊢
    have hp := srt_perm (coinsK l)
    have hs := sorted_srt (coinsK l)
    have hm1 := hok.mono
    obtain ⟨c, hc⟩ : ∃ c, c = srt (coinsK l) := ⟨_, rfl⟩
    rw [← hc] at hp hs hm1
    obtain ⟨p, hpl, hpe⟩ := List.getElem_of_mem (hp.mem_iff.2 (show (x, [i]) ∈ coinsK l from coinsF_mem2 l 0 i x (Nat.zero_le _) (by simpa using hx) (by omega)))
    obtain ⟨q, hql, hqe⟩ := List.getElem_of_mem (hp.mem_iff.2 (show (y, [k]) ∈ coinsK l from coinsF_mem2 l 0 k y (Nat.zero_le _) (by simpa using hy) hy0))
    have hlt : q < p := by
      refine Nat.lt_of_not_le fun hpq => ?_
      by_cases he : p = q
      · subst he
        rw [hpe] at hqe
        have : x = y := congrArg Prod.fst hqe
        omega
      · have := (List.pairwise_iff_getElem.1 hs) p q hpl hql (by omega)
        rw [hpe, hqe] at this
        have : x ≤ y := by simpa [leK] using this
        omega
    have h3 := (List.pairwise_iff_getElem.1 hm1) q p (by rw [List.length_map]; exact hql) (by rw [List.length_map]; exact hpl) hlt
    rw [List.getElem_map, List.getElem_map, hpe, hqe] at h3
    exact h3
end Go.Proofs.Ytbknkahakmfhkaa
