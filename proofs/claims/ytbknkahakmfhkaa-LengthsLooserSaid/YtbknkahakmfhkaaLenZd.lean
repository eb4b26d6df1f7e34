/- symMergeCmpFunc for all; insertionSortCmpFunc of a part; the stable sort in blocks. -/
import Derived.Test.YtbknkahakmfhkaaLenZc
namespace Go.Proofs.Ytbknkahakmfhkaa
open Go.Shelf Go.RowKit Go.Lib Go.Sort
set_option linter.unusedVariables false
set_option linter.unusedSimpArgs false

theorem sym_all (blk cap n : Nat) (d0 : Array Pk) (w0 : World) (R : RowPk w0 blk d0) (h0 : d0.size = n) (hsz : n < 1000000) : ∀ N, SymOk w0 blk d0 n cap N
  | 0 => by
    intro a m b W X u v Y hN S hn ha hm hb hu0 hv0 hu hv
    omega
  | N + 1 => by
    have IH := sym_all blk cap n d0 w0 R h0 hsz N
    intro a m b W X u v Y hN S hn ha hm hb hu0 hv0 hu hv
    by_cases h1 : u.length = 1
    · obtain ⟨x, rfl⟩ := List.length_eq_one_iff.1 h1
      refine (sym_one_any blk cap a m b n d0 w0 W X v Y x R h0 S hn ha (by simpa using hm) hb hv hsz).mono ?_
      rintro e w' ⟨rfl, h⟩
      exact ⟨rfl, by rw [← List.append_assoc]; exact h⟩
    · by_cases h2 : v.length = 1
      · obtain ⟨y, rfl⟩ := List.length_eq_one_iff.1 h2
        refine (sym_last_any blk cap a m b n d0 w0 W X u Y y R h0 S hn ha hm (by simpa using hb) (by omega) hu hsz).mono ?_
        rintro e w' ⟨rfl, h⟩
        exact ⟨rfl, by rw [← List.append_assoc]; exact h⟩
      · exact sym_gen_any blk cap n N d0 w0 R h0 hsz IH a m b W X u v Y hN S hn ha hm hb (by omega) (by omega) hu hv
/-- The stable sort of packs. -/
def srtP (l : List Pk) : List Pk := l.mergeSort leP
theorem srtP_len (l : List Pk) : (srtP l).length = l.length := List.length_mergeSort l
theorem srtP_pw (l : List Pk) : (srtP l).Pairwise (fun p q => leP p q = true) := List.pairwise_mergeSort (leA_trans _) (leA_total _) l
theorem srtP_merge (x y : List Pk) : (srtP x).merge (srtP y) leP = srtP (x ++ y) := by
  have hx : (x.zipIdx.mergeSort (List.zipIdxLE leP)).map (·.1) = srtP x := stab_any (fun p : Pk => p.often) x 0 _ (List.pairwise_mergeSort (List.zipIdxLE_trans (leA_trans _)) (List.zipIdxLE_total (leA_total _)) _) (List.mergeSort_perm _ _)
  have hy : ((y.zipIdx x.length).mergeSort (List.zipIdxLE leP)).map (·.1) = srtP y := stab_any (fun p : Pk => p.often) y x.length _ (List.pairwise_mergeSort (List.zipIdxLE_trans (leA_trans _)) (List.zipIdxLE_total (leA_total _)) _) (List.mergeSort_perm _ _)
  have h := stab_any (fun p : Pk => p.often) (x ++ y) 0 ((x.zipIdx.mergeSort (List.zipIdxLE leP)).merge ((y.zipIdx x.length).mergeSort (List.zipIdxLE leP)) (List.zipIdxLE leP))
    (List.pairwise_merge (List.zipIdxLE_trans (leA_trans _)) (List.zipIdxLE_total (leA_total _)) _ _ (List.pairwise_mergeSort (List.zipIdxLE_trans (leA_trans _)) (List.zipIdxLE_total (leA_total _)) _) (List.pairwise_mergeSort (List.zipIdxLE_trans (leA_trans _)) (List.zipIdxLE_total (leA_total _)) _))
    (by
      rw [List.zipIdx_append]
      refine (List.merge_perm_append _).trans ?_
      simp only [Nat.zero_add]
      exact (List.mergeSort_perm _ _).append (List.mergeSort_perm _ _))
  rw [List.merge_stable, hx, hy] at h
  · exact h
  · rintro ⟨p, i⟩ ⟨q, j⟩ hp hq
    have hp := List.mem_mergeSort.1 hp
    have hq := List.mem_mergeSort.1 hq
    have h1 := List.snd_lt_add_of_mem_zipIdx hp
    have h2 := List.le_snd_of_mem_zipIdx hq
    show i ≤ j
    have h1 : i < 0 + x.length := by simpa [Nat.add_comm] using h1
    have h2 : x.length ≤ j := h2
    omega
theorem ltOf_A : ltOf cfP = ltA (fun p : Pk => p.often) := by
  funext x y
  rw [ltP]; rfl
theorem ins_list {d : Array Pk} {X s Y : List Pk} (h : d.toList = X ++ s ++ Y) : (Go.Sort.insertionSort (ltOf cfP) d X.length (X.length + s.length)).toList = X ++ srtP s ++ Y := by
  have hds : d.size = X.length + s.length + Y.length := by rw [← Array.length_toList, h]; simp only [List.length_append]
  obtain ⟨h1, h2, h3⟩ := ins_stable (fun p : Pk => p.often) d X.length (X.length + s.length) (by omega) (by omega)
  rw [← ltOf_A] at h1 h2 h3
  generalize Go.Sort.insertionSort (ltOf cfP) d X.length (X.length + s.length) = d' at h1 h2 h3
  have e0 : (d.extract X.length (X.length + s.length)).toList = s := by
    rw [Array.toList_extract, List.extract_eq_take_drop, h, List.append_assoc, List.drop_left, show X.length + s.length - X.length = s.length by omega, List.take_left]
  rw [e0] at h3
  have hg : ∀ i, i < X.length ∨ X.length + s.length ≤ i → d'.toList[i]? = d.toList[i]? := fun i hi => by
    have := h2 i hi
    by_cases hlt : i < d.size
    · rw [getElem!_pos d' i (by omega), getElem!_pos d i hlt] at this
      rw [Array.getElem?_toList, Array.getElem?_toList, Array.getElem?_eq_getElem (by omega), Array.getElem?_eq_getElem hlt, this]
    · rw [Array.getElem?_toList, Array.getElem?_toList, Array.getElem?_eq_none (by omega), Array.getElem?_eq_none (by omega)]
  have t1 : d'.toList.take X.length = X := by
    have : d'.toList.take X.length = d.toList.take X.length := by
      apply List.ext_getElem?
      intro i
      rw [List.getElem?_take, List.getElem?_take]
      split
      · exact hg i (.inl (by assumption))
      · rfl
    rw [this, h, List.append_assoc, List.take_left]
  have t2 : d'.toList.drop (X.length + s.length) = Y := by
    have : d'.toList.drop (X.length + s.length) = d.toList.drop (X.length + s.length) := by
      apply List.ext_getElem?
      intro i
      rw [List.getElem?_drop, List.getElem?_drop]
      exact hg _ (.inr (by omega))
    rw [this, h, ← List.length_append, List.drop_left]
  have t3 : (d'.toList.drop X.length).take s.length = srtP s := by
    rw [Array.toList_extract, List.extract_eq_take_drop, show X.length + s.length - X.length = s.length by omega] at h3
    exact h3
  rw [← List.take_append_drop X.length d'.toList, t1, ← List.take_append_drop s.length (d'.toList.drop X.length), t3, List.drop_drop, t2, List.append_assoc]
theorem insL_any (blk cap a b n : Nat) (d0 : Array Pk) (w0 W : World) (X s Y : List Pk) (R : RowPk w0 blk d0) (h0 : d0.size = n) (S : SWL w0 blk (X ++ s ++ Y) W) (hn : (X ++ s ++ Y).length = n) (ha : a = X.length) (hb : b = a + s.length) (hsz : n < 1000000) :
    Calls Try.prog 122 #[.slice (some ⟨blk, 0, none⟩) n cap, .int .i64 a, .int .i64 b, .func (.func 75) #[] #[]] W fun e w' => e = .returned (.tuple #[]) ∧ SWL w0 blk (X ++ srtP s ++ Y) w' := by
  obtain ⟨d, hd, hS⟩ := S
  have hds : d.size = n := by rw [← Array.length_toList, hd, hn]
  have hl : (X ++ s ++ Y).length = X.length + s.length + Y.length := by simp only [List.length_append]
  have hH := hS.holds R.hblk R.hH (by omega)
  have hc := AnyQ.insertionSortCmpFunc laysI 2 Try.isAgg104 Try.sizeOf104 pkE pkE_len pkE_one cfP 75 #[] blk 0 cap a b d W entersO (cmpLaysP blk 0 d.size W) hH (hS.lt R.hblk) (by omega) (by omega) (by omega)
  rw [hds] at hc
  refine hc.mono ?_
  rintro e w' ⟨rfl, m, os, rfl⟩
  have hil := ins_list hd
  rw [← ha, ← hb] at hil
  exact ⟨rfl, _, hil, hS.on R.hblk m _ os (by rw [← Array.length_toList, hil, ← Array.length_toList, hd]; simp only [List.length_append, srtP_len])⟩
end Go.Proofs.Ytbknkahakmfhkaa
