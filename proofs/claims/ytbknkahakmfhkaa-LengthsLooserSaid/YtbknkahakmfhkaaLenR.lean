/- The insertion sort keeps like ones in their order: it is the stable sort. -/
import Derived.Sort.LotA
namespace Go.Proofs.Ytbknkahakmfhkaa
open Go.Sort
set_option linter.unusedVariables false
set_option linter.unusedSimpArgs false
set_option linter.unusedSectionVars false

section
variable {α : Type} [Inhabited α] (key : α → Int)
def leA (x y : α) : Bool := decide (key x ≤ key y)
def ltA (x y : α) : Bool := decide (key x < key y)
def ltT (x y : α × Nat) : Bool := ltA key x.1 y.1
def ltL (x y : α × Nat) : Bool := decide (key x.1 < key y.1 ∨ (key x.1 = key y.1 ∧ x.2 < y.2))
theorem leA_trans (a b c : α) : leA key a b = true → leA key b c = true → leA key a c = true := by
  simp only [leA, decide_eq_true_eq]; omega
theorem leA_total (a b : α) : (leA key a b || leA key b a) = true := by
  simp only [leA, Bool.or_eq_true, decide_eq_true_eq]; omega
theorem swoL : SWO (ltL key) := by
  constructor
  · intro x; simp [ltL]
  · intro x y z; simp only [ltL, decide_eq_true_eq]; omega
  · intro x y z; simp only [ltL, decide_eq_false_iff_not]; omega
theorem ltL_le (x y : α × Nat) (h : ltL key y x = false) : List.zipIdxLE (leA key) x y = true := by
  simp only [ltL, decide_eq_false_iff_not] at h
  unfold List.zipIdxLE leA
  by_cases h1 : key x.1 ≤ key y.1
  · rw [if_pos (decide_eq_true h1)]
    by_cases h2 : key y.1 ≤ key x.1
    · rw [if_pos (decide_eq_true h2)]; exact decide_eq_true (by omega)
    · rw [if_neg (by simpa using h2)]
  · exfalso; omega
/-- Rows with places that stand in order are the stable sort's. -/
theorem stab_0 (l : List α) (t : List (α × Nat)) (h : t.Pairwise (fun a b => List.zipIdxLE (leA key) a b = true)) (hp : t.Perm l.zipIdx) : t.map (·.1) = l.mergeSort (leA key) := by
  rw [← List.mergeSort_zipIdx]
  congr 1
  apply List.Perm.eq_of_pairwise (le := fun a b => List.zipIdxLE (leA key) a b = true) _ h (List.pairwise_mergeSort (List.zipIdxLE_trans (leA_trans key)) (List.zipIdxLE_total (leA_total key)) _) (hp.trans (List.mergeSort_perm _ _).symm)
  rintro ⟨a, p⟩ ⟨b, q⟩ ha hb
  have ha := hp.mem_iff.1 ha
  have hb := List.mem_mergeSort.1 hb
  intro h1 h2
  unfold List.zipIdxLE at h1 h2
  have e : p = q := by
    by_cases hab : leA key a b = true <;> by_cases hba : leA key b a = true <;> simp [hab, hba] at h1 h2
    omega
  subst e
  have h3 := List.mem_zipIdx ha
  have h4 := List.mem_zipIdx hb
  rw [h3.2.2, h4.2.2]
theorem stab_any (l : List α) (i : Nat) (t : List (α × Nat)) (h : t.Pairwise (fun a b => List.zipIdxLE (leA key) a b = true)) (hp : t.Perm (l.zipIdx i)) : t.map (·.1) = l.mergeSort (leA key) := by
  have h1 := stab_0 key l (t.map (fun q => (q.1, q.2 - i))) (h.map _ (fun a b hab => by
    unfold List.zipIdxLE at hab ⊢
    by_cases h1 : leA key a.1 b.1 = true
    · rw [if_pos h1] at hab ⊢
      by_cases h2 : leA key b.1 a.1 = true
      · rw [if_pos h2] at hab ⊢
        have hab := of_decide_eq_true hab
        exact decide_eq_true (by show a.2 - i ≤ b.2 - i; omega)
      · rw [if_neg h2]
    · rw [if_neg h1] at hab; cases hab)) (by
    refine (hp.map _).trans (List.Perm.of_eq ?_)
    apply List.ext_getElem?
    intro j
    rw [List.getElem?_map, List.getElem?_zipIdx, List.getElem?_zipIdx]
    cases l[j]? with
    | none => rfl
    | some x => simp)
  rw [List.map_map] at h1
  exact h1
theorem inner_tags (a : Nat) : ∀ (j : Nat) (d : Array (α × Nat)), j < d.size → (∀ p, a ≤ p → p < j → (d[p]!).2 < (d[j]!).2) → insInner (ltT key) a j d = insInner (ltL key) a j d
  | 0, d, _, _ => rfl
  | j + 1, d, hj, h => by
    unfold insInner
    by_cases ha : j + 1 > a
    · have h1 := h j (by omega) (by omega)
      have e : ltT key d[j + 1]! d[j]! = ltL key d[j + 1]! d[j]! := by
        unfold ltT ltA ltL
        rw [Bool.eq_iff_iff]; simp only [decide_eq_true_eq]; omega
      rw [e]
      split
      · refine inner_tags a j _ (by rw [swp_size]; omega) fun p hp1 hp2 => ?_
        rw [swp_get d hj (show j < d.size by omega), swp_get d hj (show j < d.size by omega)]
        rw [if_neg (by omega), if_neg (by omega), if_pos rfl]
        exact h p hp1 (by omega)
      · rfl
    · rw [if_neg (by simp [ha]), if_neg (by simp [ha])]
theorem outer_tags (a b : Nat) : ∀ (n i : Nat) (d : Array (α × Nat)), b - i = n → a < i → i ≤ b → b ≤ d.size → SortedIn (ltL key) a i d → (∀ p, a ≤ p → p < i → (d[p]!).2 < i) → (∀ p, i ≤ p → p < b → (d[p]!).2 = p) → insOuter (ltT key) a b i d = insOuter (ltL key) a b i d
  | 0, i, d, hn, hai, hib, hb, _, _, _ => by
    rw [insOuter, if_neg (by omega), insOuter, if_neg (by omega)]
  | n + 1, i, d, hn, hai, hib, hb, hs, h1, h2 => by
    have hlt : i < b := by omega
    rw [insOuter, if_pos hlt]
    conv => rhs; rw [insOuter, if_pos hlt]
    rw [inner_tags key a i d (by omega) (fun p hp1 hp2 => by rw [h2 i (Nat.le_refl _) hlt]; exact h1 p hp1 hp2)]
    have hI := insInner_spec (swoL key) swp_permIn permIn_refl permIn_trans a (i + 1) i (Nat.lt_succ_self i) i d (by omega) (Nat.le_refl _) (by omega) ⟨fun p q hap hpq hqi _ hq => hs p q hap hpq (by omega), fun q h1 h2 => by omega⟩
    have hsz := hI.1.1
    refine outer_tags a b n (i + 1) _ (by omega) (by omega) (by omega) (by rw [hsz]; exact hb) hI.2 ?_ ?_
    · intro p hp1 hp2
      exact permIn_all d _ a (i + 1) (fun x => x.2 < i + 1) (by omega) hI.1 (fun q hq1 hq2 => by
        by_cases hq : q = i
        · subst hq; rw [h2 q (Nat.le_refl _) hlt]; omega
        · have := h1 q hq1 (by omega); omega) p hp1 hp2
    · intro p hp1 hp2
      rw [hI.1.2.1 p (.inr hp1)]
      exact h2 p (by omega) hp2
theorem ins_tags (d : Array (α × Nat)) (a b : Nat) (hab : a ≤ b) (hb : b ≤ d.size) (h : ∀ p, a ≤ p → p < b → (d[p]!).2 = p) : Go.Sort.insertionSort (ltT key) d a b = Go.Sort.insertionSort (ltL key) d a b := by
  unfold Go.Sort.insertionSort
  by_cases hlt : a < b
  · refine outer_tags key a b (b - (a + 1)) (a + 1) d rfl (by omega) (by omega) hb (fun i j h1 h2 h3 => by omega) (fun p h1 h2 => ?_) (fun p h1 h2 => h p (by omega) h2)
    rw [h p h1 (by omega)]; omega
  · rw [insOuter, if_neg (by omega), insOuter, if_neg (by omega)]
end
section
variable {α β : Type} [Inhabited α] [Inhabited β] (f : α → β) (hf : f default = default) (lt : α → α → Bool) (lt' : β → β → Bool) (h : ∀ x y, lt' (f x) (f y) = lt x y)
include hf
theorem mapA_get (d : Array α) (i : Nat) : (d.map f)[i]! = f d[i]! := by
  by_cases hi : i < d.size
  · rw [getElem!_pos (d.map f) i (by simpa using hi), getElem!_pos d i hi, Array.getElem_map]
  · rw [getElem!_neg (d.map f) i (by simpa using hi), getElem!_neg d i hi]; exact hf.symm
theorem mapA_swp (d : Array α) (i j : Nat) : (swp d i j).map f = swp (d.map f) i j := by
  unfold swp
  rw [mapA_get f hf, mapA_get f hf, Array.map_setIfInBounds, Array.map_setIfInBounds]
include h
theorem mapA_inner (a : Nat) : ∀ (j : Nat) (d : Array α), (insInner lt a j d).map f = insInner lt' a j (d.map f)
  | 0, d => rfl
  | j + 1, d => by
    unfold insInner
    rw [mapA_get f hf, mapA_get f hf, h]
    split
    · rw [mapA_inner a j, mapA_swp f hf]
    · rfl
theorem mapA_outer (a b : Nat) : ∀ (n i : Nat) (d : Array α), b - i ≤ n → (insOuter lt a b i d).map f = insOuter lt' a b i (d.map f)
  | 0, i, d, hn => by
    unfold insOuter
    rw [if_neg (by omega), if_neg (by omega)]
  | n + 1, i, d, hn => by
    unfold insOuter
    split
    · rw [mapA_outer a b n (i + 1) _ (by omega), mapA_inner f hf lt lt' h]
    · rfl
end
section
variable {α : Type} [Inhabited α] (key : α → Int)
theorem sortedIn_pairwise {β : Type} [Inhabited β] {lt : β → β → Bool} {d : Array β} {a b : Nat} (hb : b ≤ d.size) (h : SortedIn lt a b d) : (d.extract a b).toList.Pairwise (fun x y => lt y x = false) := by
  rw [List.pairwise_iff_getElem]
  intro i j hi hj hij
  simp only [Array.length_toList, Array.size_extract] at hi hj
  simp only [Array.getElem_toList, Array.getElem_extract]
  have := h (a + i) (a + j) (by omega) (by omega) (by omega)
  rw [getElem!_pos d (a + i) (by omega), getElem!_pos d (a + j) (by omega)] at this
  exact this
/-- The insertion sort of a part: the stable sort of that part; all else stays. -/
theorem ins_stable (d : Array α) (a b : Nat) (hab : a ≤ b) (hb : b ≤ d.size) :
    (Go.Sort.insertionSort (ltA key) d a b).size = d.size ∧ (∀ i, i < a ∨ b ≤ i → (Go.Sort.insertionSort (ltA key) d a b)[i]! = d[i]!) ∧ ((Go.Sort.insertionSort (ltA key) d a b).extract a b).toList = (d.extract a b).toList.mergeSort (leA key) := by
  have e : ((d.toList.zipIdx).toArray.map (·.1)) = d := by
    rw [← Array.toList_inj]; simp
  have hd0 : ((default : α × Nat).1) = default := rfl
  have hmap : (Go.Sort.insertionSort (ltT key) d.toList.zipIdx.toArray a b).map (·.1) = Go.Sort.insertionSort (ltA key) d a b := by
    unfold Go.Sort.insertionSort
    rw [mapA_outer (fun x : α × Nat => x.1) hd0 (ltT key) (ltA key) (fun x y => rfl) a b (b - (a + 1)) (a + 1) _ (Nat.le_refl _), e]
  have hsz : (d.toList.zipIdx).toArray.size = d.size := by simp
  have htag := ins_tags key d.toList.zipIdx.toArray a b hab (by rw [hsz]; exact hb) (fun p h1 h2 => by
    rw [getElem!_pos _ p (by rw [hsz]; omega)]; simp)
  obtain ⟨⟨h1, h2, h3⟩, h4⟩ := insertionSort_holds (swoL key) d.toList.zipIdx.toArray a b hab (by rw [hsz]; exact hb)
  rw [← htag] at h1 h2 h3 h4
  have hex : ∀ t : Array (α × Nat), ((t.map (·.1)).extract a b).toList = ((t.extract a b).toList).map (·.1) := fun t => by simp
  refine ⟨?_, ?_, ?_⟩
  · rw [← hmap, Array.size_map, h1, hsz]
  · intro i hi
    rw [← hmap, mapA_get (fun x : α × Nat => x.1) hd0, h2 i hi, ← mapA_get (fun x : α × Nat => x.1) hd0, e]
  · rw [← hmap, hex]
    refine stab_any key _ a _ ?_ ?_
    · refine (sortedIn_pairwise (by rw [h1, hsz]; exact hb) h4).imp fun h => ltL_le key _ _ h
    · refine h3.trans (List.Perm.of_eq ?_)
      apply List.ext_getElem?
      intro i
      rw [List.getElem?_zipIdx]
      simp only [Array.toList_extract, List.extract_eq_take_drop, List.getElem?_take, List.getElem?_drop, List.getElem?_zipIdx]
      split
      · simp only [Nat.add_zero, Nat.zero_add, Nat.add_comm, Option.map_map]
      · rfl
theorem ins_whole (l : List α) : (Go.Sort.insertionSort (ltA key) l.toArray 0 l.length).toList = l.mergeSort (leA key) := by
  obtain ⟨h1, _, h3⟩ := ins_stable key l.toArray 0 l.length (Nat.zero_le _) (by simp)
  have e : ∀ d : Array α, d.size = l.length → (d.extract 0 l.length).toList = d.toList := by
    intro d hd; rw [← hd]; simp
  rw [e _ (by simpa using h1), e _ (by simp)] at h3
  exact h3
end
end Go.Proofs.Ytbknkahakmfhkaa
