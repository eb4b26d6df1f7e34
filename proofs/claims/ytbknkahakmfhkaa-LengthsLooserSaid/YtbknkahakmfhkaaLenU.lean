/- What lengths cost; the least of all lengths, tried one by one; that the kind is whole. -/
import Derived.Test.YtbknkahakmfhkaaLenT
import Derived.Test.YtbknkahakmfhkaaPreA
namespace Go.Proofs.Ytbknkahakmfhkaa
set_option linter.unusedVariables false
set_option linter.unusedSimpArgs false

def dotL : List Int → List Nat → Int
  | x :: l, b :: B => x * (b : Int) + dotL l B
  | _, _ => 0
theorem dotL_nil (B : List Nat) : dotL [] B = 0 := by cases B <;> rfl
theorem dotL_sum (B : List Nat) : ∀ (l : List Int) (i : Nat), i + l.length = B.length → dotL l (B.drop i) = ((l.zipIdx i).map (fun q => q.1 * ((B.getD q.2 0 : Nat) : Int))).sum
  | [], i, _ => by rw [dotL_nil]; rfl
  | x :: l, i, h => by
    rw [List.length_cons] at h
    rw [List.drop_eq_getElem_cons (show i < B.length by omega), List.zipIdx_cons, List.map_cons, List.sum_cons]
    show x * (B[i] : Int) + dotL l (B.drop (i + 1)) = _
    rw [dotL_sum B l (i + 1) (by omega), List.getD_eq_getElem?_getD, List.getElem?_eq_getElem (show i < B.length by omega)]
    rfl
theorem zip_map_self {α : Type} (f : α → Nat) (g : α → Int) : ∀ c : List α, dotL (c.map g) (c.map f) = (c.map (fun x => g x * ((f x : Nat) : Int))).sum
  | [] => rfl
  | x :: c => by
    rw [List.map_cons, List.map_cons, List.map_cons, List.sum_cons, ← zip_map_self f g c]; rfl
theorem cost_coins {l : List Int} {B : List Nat} (hl : B.length = l.length) (h0 : ∀ x ∈ l, 0 ≤ x) : dotL l B = ((srt (coinsK l)).map (fun x => x.1 * ((B.getD (sgn x) 0 : Nat) : Int))).sum := by
  have h1 := dotL_sum B l 0 (by omega)
  rw [List.drop_zero] at h1
  rw [h1, sumI_perm _ (srt_perm (coinsK l))]
  unfold coinsK
  rw [coinsF_sum (fun x s => x * ((B.getD s 0 : Nat) : Int))]
  congr 1
  apply List.map_congr_left
  rintro ⟨x, s⟩ hx
  have hx := List.fst_mem_of_mem_zipIdx hx
  have := h0 x hx
  show x * _ = if 0 < x then x * _ else 0
  split
  · rfl
  · rw [show x = 0 by omega]; simp
theorem perm_zip {α : Type} {a b : List α} (h : a.Perm b) : ∀ z : List Nat, z.length = a.length → ∃ z', z'.length = b.length ∧ (b.zip z').Perm (a.zip z) := by
  induction h with
  | nil => intro z hz; exact ⟨z, hz, List.Perm.refl _⟩
  | cons x _ ih =>
    intro z hz
    cases z with
    | nil => simp at hz
    | cons y z =>
      obtain ⟨z', h1, h2⟩ := ih z (by simpa using hz)
      exact ⟨y :: z', by simpa using h1, h2.cons _⟩
  | swap x y l =>
    intro z hz
    match z, hz with
    | [], hz => simp at hz
    | [_], hz => simp at hz
    | p :: q :: z, hz => exact ⟨q :: p :: z, hz, List.Perm.swap _ _ _⟩
  | trans _ _ i1 i2 =>
    intro z hz
    obtain ⟨z1, h1, h2⟩ := i1 z hz
    obtain ⟨z2, h3, h4⟩ := i2 z1 h1
    exact ⟨z2, h3, h4.trans h2⟩
theorem coinsF_keys : ∀ (l : List Int) (i : Nat), (coinsF i l).map (·.1) = l.filter (fun x => decide (0 < x))
  | [], _ => rfl
  | x :: l, i => by
    rw [coinsF, List.map_append, coinsF_keys l (i + 1)]
    by_cases h : 0 < x
    · rw [if_pos h, List.filter_cons_of_pos (by simpa using h)]; rfl
    · rw [if_neg h, List.filter_cons_of_neg (by simpa using h)]; rfl
theorem dot_zip : ∀ (c : List KK) (ds : List Nat), dotL (c.map (·.1)) ds = ((c.zip ds).map (fun q => q.1.1 * (q.2 : Int))).sum
  | [], ds => by rw [List.map_nil, dotL_nil]; simp
  | x :: c, [] => by simp [dotL]
  | x :: c, d :: ds => by
    rw [List.map_cons, List.zip_cons_cons, List.map_cons, List.sum_cons, ← dot_zip c ds]; rfl
theorem wgt_perm {m : Nat} {x y : List Nat} (h : x.Perm y) : wgt m x = wgt m y := by
  unfold wgt
  exact (h.map _).sum_nat
/-- Right lengths for signs that all come. -/
structure Valid (m : Nat) (come : List Int) (ds : List Nat) : Prop where
  len : ds.length = come.length
  rng : ∀ d ∈ ds, 1 ≤ d ∧ d ≤ m
  whole : wgt m ds = 2 ^ m
theorem best_dot {l : List Int} {m : Nat} {B : List Nat} (hok : BestOk l m B) (h0 : ∀ x ∈ l, 0 ≤ x) : dotL l B = sumK ((rowS (srt (coinsK l)) (m - 1)).take (2 * (coinsK l).length - 2)) := by
  rw [cost_coins hok.len h0, hok.cost]
theorem head_least {l : List Int} {m : Nat} (hm : 1 ≤ m) (h1 : 1 ≤ (coinsK l).length) (ds : List Nat) (hl : ds.length = (l.filter (fun x => decide (0 < x))).length) (hd : ∀ d ∈ ds, d ≤ m) (hw : wgt m ds = 2 ^ m) :
    sumK ((rowS (srt (coinsK l)) (m - 1)).take (2 * (coinsK l).length - 2)) ≤ dotL (l.filter (fun x => decide (0 < x))) ds := by
  have hk := coinsF_keys l 0
  have hlen : ds.length = (coinsK l).length := by rw [hl, ← hk, List.length_map]; rfl
  obtain ⟨z, hz1, hz2⟩ := perm_zip (srt_perm (coinsK l)).symm ds hlen
  have hz3 : z.Perm ds := by
    have := hz2.map (·.2)
    rw [show ((srt (coinsK l)).zip z).map (·.2) = z from List.map_snd_zip (by omega), show ((coinsK l).zip ds).map (·.2) = ds from List.map_snd_zip (by omega)] at this
    exact this
  have hpl := (srt_perm (coinsK l)).length_eq
  have h2 := best_least (sorted_srt (coinsK l)) m hm z hz1 (fun d hd' => hd d (hz3.mem_iff.1 hd')) (by rw [wgt_perm hz3, hw]) (by omega)
  rw [hpl] at h2
  rw [← hk]
  show _ ≤ dotL ((coinsK l).map (·.1)) ds
  rw [dot_zip, ← sumI_perm _ hz2]
  exact h2
/-- The best lengths, sign by sign that comes. -/
def comeB (l : List Int) (B : List Nat) : List Nat := (coinsK l).map (fun x => B.getD (sgn x) 0)
theorem comeB_ok {l : List Int} {m : Nat} {B : List Nat} (hok : BestOk l m B) : Valid m (l.filter (fun x => decide (0 < x))) (comeB l B) := by
  have hk := coinsF_keys l 0
  refine ⟨?_, ?_, ?_⟩
  · unfold comeB; rw [List.length_map, ← hk, List.length_map]; rfl
  · intro d hd
    obtain ⟨x, hx, rfl⟩ := List.mem_map.1 hd
    obtain ⟨a1, _, _, a4⟩ := coinsF_coin l 0 x hx
    exact hok.some (sgn x) x.1 (by simpa using a4) a1
  · unfold comeB
    rw [← wgt_perm ((srt_perm (coinsK l)).map (fun x => B.getD (sgn x) 0))]
    exact hok.whole
theorem comeB_dot {l : List Int} {m : Nat} {B : List Nat} (hok : BestOk l m B) (h0 : ∀ x ∈ l, 0 ≤ x) : dotL (l.filter (fun x => decide (0 < x))) (comeB l B) = dotL l B := by
  rw [cost_coins hok.len h0, sumI_perm _ (srt_perm (coinsK l)), ← coinsF_keys l 0]
  unfold comeB
  exact zip_map_self (fun x => B.getD (sgn x) 0) (fun x : KK => x.1) (coinsK l)

/-! The document's Least. -/
def tStep (f : Int → Int) (w used : Int) (st : Int × Int) (n : Nat) : Int × Int :=
  (if used + st.2 ≤ 32768 then (if 0 ≤ f (used + st.2) ∧ (st.1 < 0 ∨ f (used + st.2) + w * (n : Int) < st.1) then f (used + st.2) + w * (n : Int) else st.1) else st.1, st.2 / 2)
def tLoop (f : Int → Int) (w used : Int) : Nat → Int × Int
  | 0 => (-1, 16384)
  | k + 1 => tStep f w used (tLoop f w used k) (k + 1)
def tryK (most : Nat) : List Int → Int → Int
  | [], used => if used = 32768 then 0 else -1
  | w :: ws, used => (tLoop (tryK most ws) w used most).1
theorem tLoop_wt (f : Int → Int) (w used : Int) : ∀ k, k ≤ 14 → (tLoop f w used k).2 = ((2 ^ (14 - k) : Nat) : Int)
  | 0, _ => rfl
  | k + 1, h => by
    show (tLoop f w used k).2 / 2 = _
    rw [tLoop_wt f w used k (by omega), show 14 - k = (14 - (k + 1)) + 1 by omega, Nat.pow_succ]
    omega
def OkT (most : Nat) (ws : List Int) (used : Int) (ds : List Nat) : Prop :=
  ds.length = ws.length ∧ (∀ d ∈ ds, 1 ≤ d ∧ d ≤ most) ∧ used + ((wgt 15 ds : Nat) : Int) = 32768
theorem dotL_nonneg : ∀ (ws : List Int) (ds : List Nat), (∀ w ∈ ws, 0 ≤ w) → 0 ≤ dotL ws ds
  | [], ds, _ => by rw [dotL_nil]; exact Int.le_refl _
  | w :: ws, [], _ => Int.le_refl _
  | w :: ws, d :: ds, h => by
    have := dotL_nonneg ws ds (fun x hx => h x (List.mem_cons_of_mem _ hx))
    have h1 := Int.mul_nonneg (h w (by simp)) (Int.natCast_nonneg d)
    show 0 ≤ w * (d : Int) + dotL ws ds
    omega
theorem try_spec (most : Nat) (hm : most ≤ 14) : ∀ (ws : List Int), (∀ w ∈ ws, 0 ≤ w) → ∀ used, (tryK most ws used = -1 ∨ ∃ ds, OkT most ws used ds ∧ tryK most ws used = dotL ws ds) ∧ ∀ ds, OkT most ws used ds → 0 ≤ tryK most ws used ∧ tryK most ws used ≤ dotL ws ds
  | [], _, used => by
    refine ⟨?_, ?_⟩
    · by_cases h : used = 32768
      · exact .inr ⟨[], ⟨rfl, (fun d hd => by cases hd), by rw [h]; rfl⟩, by rw [tryK, if_pos h]; rfl⟩
      · exact .inl (by rw [tryK, if_neg h])
    · rintro ds ⟨h1, _, h3⟩
      have : ds = [] := List.eq_nil_of_length_eq_zero h1
      subst this
      have : used = 32768 := by simpa [wgt] using h3
      rw [tryK, if_pos this]
      exact ⟨Int.le_refl _, Int.le_refl _⟩
  | w :: ws, h0, used => by
    have ih := try_spec most hm ws (fun x hx => h0 x (List.mem_cons_of_mem _ hx))
    have hw := h0 w (by simp)
    have key : ∀ k, k ≤ most → ((tLoop (tryK most ws) w used k).1 = -1 ∨ ∃ d ds, 1 ≤ d ∧ d ≤ k ∧ OkT most (w :: ws) used (d :: ds) ∧ (tLoop (tryK most ws) w used k).1 = dotL (w :: ws) (d :: ds)) ∧ ∀ d ds, d ≤ k → OkT most (w :: ws) used (d :: ds) → 0 ≤ (tLoop (tryK most ws) w used k).1 ∧ (tLoop (tryK most ws) w used k).1 ≤ dotL (w :: ws) (d :: ds) := by
      intro k
      induction k with
      | zero =>
        intro _
        refine ⟨.inl rfl, fun d ds hd hok => ?_⟩
        have := (hok.2.1 d (by simp)).1
        omega
      | succ k ihk =>
        intro hk
        obtain ⟨i1, i2⟩ := ihk (by omega)
        have hwt := tLoop_wt (tryK most ws) w used k (by omega)
        have e14 : 14 - k = 15 - (k + 1) := by omega
        rw [e14] at hwt
        generalize hst : tLoop (tryK most ws) w used k = st at *
        obtain ⟨least, W⟩ := st
        have hwt : W = ((2 ^ (15 - (k + 1)) : Nat) : Int) := hwt
        have hok : ∀ ds, OkT most (w :: ws) used ((k + 1) :: ds) ↔ OkT most ws (used + W) ds := by
          intro ds
          have ew : wgt 15 ((k + 1) :: ds) = 2 ^ (15 - (k + 1)) + wgt 15 ds := rfl
          unfold OkT
          rw [ew]
          constructor
          · rintro ⟨a1, a2, a3⟩
            exact ⟨by simpa using a1, fun d hd => a2 d (List.mem_cons_of_mem _ hd), by omega⟩
          · rintro ⟨a1, a2, a3⟩
            refine ⟨by simpa using a1, fun d hd => ?_, by omega⟩
            rcases List.mem_cons.1 hd with rfl | hd
            · omega
            · exact a2 d hd
        have e : tLoop (tryK most ws) w used (k + 1) = tStep (tryK most ws) w used (least, W) (k + 1) := by
          show tStep (tryK most ws) w used (tLoop (tryK most ws) w used k) (k + 1) = _
          rw [hst]
        rw [e]
        have hdot : ∀ ds, dotL (w :: ws) ((k + 1) :: ds) = w * ((k + 1 : Nat) : Int) + dotL ws ds := fun ds => rfl
        obtain ⟨j1, j2⟩ := ih (used + W)
        show ((tStep (tryK most ws) w used (least, W) (k + 1)).1 = -1 ∨ _) ∧ _
        unfold tStep
        simp only
        by_cases hu : used + W ≤ 32768
        · rw [if_pos hu]
          by_cases hc : 0 ≤ tryK most ws (used + W) ∧ (least < 0 ∨ tryK most ws (used + W) + w * ((k + 1 : Nat) : Int) < least)
          · rw [if_pos hc]
            obtain ⟨ds, hds, hv⟩ : ∃ ds, OkT most ws (used + W) ds ∧ tryK most ws (used + W) = dotL ws ds := by
              rcases j1 with j1 | j1
              · omega
              · exact j1
            have hmul := Int.mul_nonneg hw (Int.natCast_nonneg (k + 1))
            refine ⟨.inr ⟨k + 1, ds, by omega, Nat.le_refl _, (hok ds).2 hds, by rw [hdot, hv]; omega⟩, fun d ds' hd hds' => ?_⟩
            by_cases hdk : d = k + 1
            · subst hdk
              have := j2 ds' ((hok ds').1 hds')
              rw [hdot]
              omega
            · have := i2 d ds' (by omega) hds'
              simp only at this
              omega
          · rw [if_neg hc]
            refine ⟨?_, fun d ds' hd hds' => ?_⟩
            · rcases i1 with i1 | ⟨d, ds, a1, a2, a3, a4⟩
              · exact .inl i1
              · exact .inr ⟨d, ds, a1, by omega, a3, a4⟩
            · by_cases hdk : d = k + 1
              · subst hdk
                have := j2 ds' ((hok ds').1 hds')
                rw [hdot]
                omega
              · exact i2 d ds' (by omega) hds'
        · rw [if_neg hu]
          refine ⟨?_, fun d ds' hd hds' => ?_⟩
          · rcases i1 with i1 | ⟨d, ds, a1, a2, a3, a4⟩
            · exact .inl i1
            · exact .inr ⟨d, ds, a1, by omega, a3, a4⟩
          · by_cases hdk : d = k + 1
            · subst hdk
              have := ((hok ds').1 hds').2.2
              omega
            · exact i2 d ds' (by omega) hds'
    obtain ⟨k1, k2⟩ := key most (Nat.le_refl _)
    refine ⟨?_, ?_⟩
    · rcases k1 with k1 | ⟨d, ds, _, _, a3, a4⟩
      · exact .inl k1
      · exact .inr ⟨d :: ds, a3, a4⟩
    · rintro ds hok
      cases ds with
      | nil => exact absurd hok.1 (by simp)
      | cons d ds => exact k2 d ds (hok.2.1 d (by simp)).2 hok
theorem dotL_bound : ∀ (ws : List Int) (ds : List Nat), (∀ w ∈ ws, 0 ≤ w ∧ w ≤ 16777216) → (∀ d ∈ ds, d ≤ 15) → dotL ws ds ≤ (ws.length : Int) * 251658240
  | [], ds, _, _ => by rw [dotL_nil]; simp
  | w :: ws, [], h, _ => by
    show 0 ≤ _
    rw [List.length_cons]; omega
  | w :: ws, d :: ds, h, hd => by
    have ih := dotL_bound ws ds (fun x hx => h x (List.mem_cons_of_mem _ hx)) (fun x hx => hd x (List.mem_cons_of_mem _ hx))
    have h1 := h w (by simp)
    have h2 := hd d (by simp)
    show w * (d : Int) + dotL ws ds ≤ _
    have h3 : w * (d : Int) ≤ 16777216 * 15 := Int.mul_le_mul h1.2 (by omega) (by omega) (by omega)
    rw [List.length_cons]
    omega
theorem try_range {most : Nat} (hm : most ≤ 14) {ws : List Int} (h : ∀ w ∈ ws, 0 ≤ w ∧ w ≤ 16777216) (used : Int) : -1 ≤ tryK most ws used ∧ tryK most ws used ≤ (ws.length : Int) * 251658240 := by
  rcases (try_spec most hm ws (fun w hw => (h w hw).1) used).1 with h1 | ⟨ds, hok, h1⟩
  · rw [h1]; omega
  · have h2 := dotL_bound ws ds h (fun d hd => by have := hok.2.1 d hd; omega)
    have h3 := dotL_nonneg ws ds (fun w hw => (h w hw).1)
    omega
theorem wgt_scale : ∀ (ds : List Nat) (m k : Nat), (∀ d ∈ ds, d ≤ m) → wgt (m + k) ds = wgt m ds * 2 ^ k
  | [], m, k, _ => by simp [wgt]
  | d :: ds, m, k, h => by
    have ih := wgt_scale ds m k (fun x hx => h x (List.mem_cons_of_mem _ hx))
    have := h d (by simp)
    show 2 ^ (m + k - d) + wgt (m + k) ds = (2 ^ (m - d) + wgt m ds) * 2 ^ k
    rw [ih, Nat.add_mul, ← Nat.pow_add, show m - d + k = m + k - d by omega]
/-- The best lengths cost what the least of all costs. -/
theorem least_eq {l : List Int} {m : Nat} {B : List Nat} (hm : 1 ≤ m) (hm2 : m ≤ 14) (h2 : 2 ≤ (coinsK l).length) (hok : BestOk l m B) (h0 : ∀ x ∈ l, 0 ≤ x) : tryK m (l.filter (fun x => decide (0 < x))) 0 = dotL l B := by
  have hpos : ∀ w ∈ l.filter (fun x => decide (0 < x)), 0 ≤ w := fun w hw => h0 w (List.mem_filter.1 hw).1
  obtain ⟨t1, t2⟩ := try_spec m hm2 _ hpos 0
  have hV := comeB_ok hok
  have e15 : ∀ ds : List Nat, (∀ d ∈ ds, d ≤ m) → wgt 15 ds = wgt m ds * 2 ^ (15 - m) := fun ds hd => by
    have := wgt_scale ds m (15 - m) hd
    rwa [show m + (15 - m) = 15 by omega] at this
  have hpm : 2 ^ m * 2 ^ (15 - m) = 32768 := by rw [← Nat.pow_add, show m + (15 - m) = 15 by omega]
  have hB : OkT m (l.filter (fun x => decide (0 < x))) 0 (comeB l B) := by
    refine ⟨hV.len, hV.rng, ?_⟩
    rw [e15 _ (fun d hd => (hV.rng d hd).2), hV.whole, hpm]; rfl
  have h3 := t2 _ hB
  rw [comeB_dot hok h0] at h3
  rcases t1 with t1 | ⟨ds, hds, t1⟩
  · omega
  · have h4 := head_least (l := l) hm (by omega) ds hds.1 (fun d hd => (hds.2.1 d hd).2) (by
      have h5 := hds.2.2
      rw [e15 _ (fun d hd => (hds.2.1 d hd).2)] at h5
      refine Nat.eq_of_mul_eq_mul_right (Nat.two_pow_pos (15 - m)) ?_
      rw [hpm]; omega)
    rw [← best_dot hok h0] at h4
    omega
end Go.Proofs.Ytbknkahakmfhkaa
