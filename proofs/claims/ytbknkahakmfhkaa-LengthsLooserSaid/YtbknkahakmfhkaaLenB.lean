/- Rows of packs, sorted. -/
import Derived.Test.YtbknkahakmfhkaaLenA
import Derived.Test.YtbknkahakmfhkaaRowP
namespace Go.Proofs.Ytbknkahakmfhkaa
open Go.RowKit Go.Shelf Go.Sort
set_option linter.unusedVariables false
set_option linter.unusedSimpArgs false

abbrev PK : TypeId := 104
theorem flat_pk (ps : List Pk) : (flatK pkE 2 ps.toArray).toList = (ps.map pkE).flatten := by
  have hm : ∀ r ∈ ps.map pkE, r.length = 2 := by
    intro r hr
    obtain ⟨p, _, rfl⟩ := List.mem_map.1 hr
    rfl
  have hl : (ps.map pkE).flatten.length = ps.length * 2 := by rw [flat_len hm, List.length_map]
  apply List.ext_getElem?
  intro t
  by_cases ht : t < ps.length * 2
  · have h1 : t / 2 < (ps.map pkE).length := by rw [List.length_map]; omega
    have h2 := flat_at hm h1 (show t % 2 < 2 by omega)
    rw [show t / 2 * 2 + t % 2 = t by omega] at h2
    rw [h2]
    have h3 : t < (flatK pkE 2 ps.toArray).size := by rw [size_flatK]; simpa using ht
    rw [Array.getElem?_toList, Array.getElem?_eq_getElem h3, ← getElem!_pos _ t h3, get_flatK _ _ _ t (by simpa using ht)]
    have h4 : t / 2 < ps.length := by omega
    rw [List.getElem_map, getElem!_pos ps.toArray (t / 2) (by simpa using h4)]
    simp only [List.getElem_toArray]
    have h5 : t % 2 = 0 ∨ t % 2 = 1 := by omega
    rcases h5 with h5 | h5 <;> rw [h5] <;> rfl
  · rw [List.getElem?_eq_none (by rw [Array.length_toList, size_flatK]; simp; omega), List.getElem?_eq_none (by rw [hl]; omega)]
section
variable {w : World} {g n c base : Nat} {ps : List Pk} {d : Array Pk} {os : Array Obj} {m : Nat}
theorem sorted_heap {e : TypeId} {cur : Array Value} {fr : Nat × Nat} (hh : w.heap[g]? = some (.cells cur e fr)) : (sortWorldK pkE 2 w g 0 m d os).heap[g]? = some (.cells (putCells id 0 (flatK pkE 2 d) cur) e fr) := by
  have hg := (Array.getElem?_eq_some_iff.1 hh).1
  unfold sortWorldK grow putRowK putRow mapBlock Sort.ahead
  simp only
  rw [Array.getElem?_append_left (by rw [Array.size_modify]; exact hg), Array.getElem?_modify, if_pos rfl, hh]
  rfl
theorem sorted_grown : w.grownBy (sortWorldK pkE 2 w g 0 m d os) (some g) := by
  refine ⟨rfl, rfl, rfl, ?_, ?_⟩
  · unfold sortWorldK grow putRowK putRow mapBlock Sort.ahead
    simp only
    rw [Array.size_append, Array.size_modify]
    omega
  · intro k hk hne
    unfold sortWorldK grow putRowK putRow mapBlock Sort.ahead
    simp only
    rw [Array.getElem?_append_left (by rw [Array.size_modify]; exact hk), Array.getElem?_modify, if_neg (fun h => hne (by rw [h]))]
theorem put_take (F cur : Array Value) (h : F.size ≤ cur.size) : (putCells id 0 F cur).toList.take F.size = F.toList := by
  apply List.ext_getElem?
  intro t
  by_cases ht : t < F.size
  · rw [List.getElem?_take, if_pos ht, Array.getElem?_toList, Array.getElem?_toList]
    unfold putCells
    rw [Array.getElem?_mapIdx, Array.getElem?_eq_getElem (show t < cur.size by omega), Array.getElem?_eq_getElem ht]
    simp only [Option.map_some, Nat.zero_le, Nat.zero_add, true_and, Nat.sub_zero, id]
    rw [if_pos ht, getElem!_pos F t ht]
  · rw [List.getElem?_eq_none (by rw [List.length_take]; omega), List.getElem?_eq_none (by rw [Array.length_toList]; omega)]
theorem OwnR.holds (h : OwnR w base PK 2 (some ⟨g, 0, none⟩) n c (ps.map pkE)) : HoldsK pkE 2 w g 0 ps.toArray ∧ g < w.heap.size := by
  obtain ⟨⟨h1, h2⟩, h3, h4⟩ := h
  rcases h2 with ⟨h5, _⟩ | ⟨g', cap, cur, hv, hg, hh, hnc, hcm, hcs, htake⟩
  · simp at h5
  · simp only [Value.slice.injEq, Option.some.injEq, Addr.mk.injEq, and_true, true_and] at hv
    obtain ⟨rfl, rfl⟩ := hv
    rw [List.length_map] at h3
    refine ⟨fun j hj => ?_, (Array.getElem?_eq_some_iff.1 hh).1⟩
    rw [size_flatK] at hj
    have hj2 : j < n * 2 := by simpa [h3] using hj
    have hx : (flatK pkE 2 ps.toArray)[j]? = cur[j]? := by
      rw [← Array.getElem?_toList, flat_pk, ← htake, List.getElem?_take, if_pos hj2, Array.getElem?_toList]
    have hsz : j < (flatK pkE 2 ps.toArray).size := by rw [size_flatK]; exact hj
    rw [Array.getElem?_eq_getElem hsz] at hx
    refine ⟨?_, ?_⟩
    · rw [Nat.zero_add, cell_of_row w g _ cur _ (0, 0) hh, ← hx, getElem!_pos _ j hsz]; rfl
    · simp [World.frozen?, hh]
theorem OwnR.sorted (h : OwnR w base PK 2 (some ⟨g, 0, none⟩) n c (ps.map pkE)) (hd : d.size = n) : OwnR (sortWorldK pkE 2 w g 0 m d os) base PK 2 (some ⟨g, 0, none⟩) n c (d.toList.map pkE) := by
  obtain ⟨⟨h1, h2⟩, h3, h4⟩ := h
  rcases h2 with ⟨h5, _⟩ | ⟨g', cap, cur, hv, hg, hh, hnc, hcm, hcs, htake⟩
  · simp at h5
  · simp only [Value.slice.injEq, Option.some.injEq, Addr.mk.injEq, and_true, true_and] at hv
    obtain ⟨rfl, rfl⟩ := hv
    have hm : ∀ r ∈ d.toList.map pkE, r.length = 2 := by
      intro r hr
      obtain ⟨p, _, rfl⟩ := List.mem_map.1 hr
      rfl
    have hF : (flatK pkE 2 d).size = n * 2 := by rw [size_flatK, hd]
    refine ⟨⟨?_, .inr ⟨g, c, putCells id 0 (flatK pkE 2 d) cur, rfl, hg, sorted_heap hh, hnc, hcm, ?_, ?_⟩⟩, ?_, hm⟩
    · rw [flat_len hm, List.length_map, Array.length_toList, hd]
    · unfold putCells; rw [Array.size_mapIdx, hcs]
    · rw [← hF, put_take _ _ (by rw [hF, hcs]; exact Nat.mul_le_mul_right _ hnc)]
      have := flat_pk d.toList
      simpa using this
    · rw [List.length_map, Array.length_toList, hd]
end
end Go.Proofs.Ytbknkahakmfhkaa
