/- The document's Words. -/
import Derived.Test.YtgcdeadfkljeaaaPreC
namespace Go.Proofs.Ytgcdeadfkljeaaa
open Go.RowKit
set_option linter.unusedVariables false
set_option linter.unusedSimpArgs false

theorem slStr : SlT Try.prog 111 9 (.string ⟨#[]⟩) 1 16 := ⟨Try.underlying111, by kernel_rfl, rfl⟩
/-- Sign i's word, in bits. -/
def rwv (l : List Int) (i : Nat) : List Bool := if 0 < l.getD i 0 then wb (l.getD i 0).toNat (wv l i) else []
def rwsL (l : List Int) : List (List Bool) := (List.range l.length).map (rwv l)
/-- What there is when words of up to j bits are done, and of j + 1 the first i signs'. -/
def outR (l : List Int) (j i : Nat) : List ByteArray := (List.range l.length).map fun k => sB (if 0 < l.getD k 0 ∧ (l.getD k 0 ≤ (j : Int) ∨ (l.getD k 0 = (j : Int) + 1 ∧ k < i)) then rwv l k else [])
theorem outR_len (l : List Int) (j i : Nat) : (outR l j i).length = l.length := by simp [outR]
theorem outR_zero (l : List Int) : outR l 0 0 = List.replicate l.length ⟨#[]⟩ := by
  unfold outR
  apply List.ext_getElem
  · simp
  · intro k h1 h2
    simp only [List.getElem_map, List.getElem_range, List.getElem_replicate]
    rw [if_neg (by omega)]; rfl
theorem outR_next (l : List Int) (j : Nat) : outR l j l.length = outR l (j + 1) 0 := by
  unfold outR
  refine List.map_congr_left fun k hk => ?_
  have := List.mem_range.1 hk
  congr 1
  have hiff : (0 < l.getD k 0 ∧ (l.getD k 0 ≤ (j : Int) ∨ (l.getD k 0 = (j : Int) + 1 ∧ k < l.length))) ↔ (0 < l.getD k 0 ∧ (l.getD k 0 ≤ ((j + 1 : Nat) : Int) ∨ (l.getD k 0 = ((j + 1 : Nat) : Int) + 1 ∧ k < 0))) := by omega
  simp only [hiff]
theorem outR_full (l : List Int) (h : ∀ y ∈ l, 0 ≤ y ∧ y ≤ 15) : outR l 15 0 = (rwsL l).map sB := by
  unfold outR rwsL
  rw [List.map_map]
  refine List.map_congr_left fun k hk => ?_
  have hk' := List.mem_range.1 hk
  have hy := h (l.getD k 0) (by rw [List.getD_eq_getElem?_getD, List.getElem?_eq_getElem hk']; exact List.getElem_mem _)
  show sB _ = sB _
  congr 1
  by_cases h0 : 0 < l.getD k 0
  · rw [if_pos ⟨h0, .inl (by omega)⟩]
  · rw [if_neg (by omega)]; unfold rwv; rw [if_neg h0]
theorem outR_set (l : List Int) (j : Nat) {i : Nat} (h : i < l.length) (hx : l[i] = (j : Int) + 1) : (outR l j i).set i (sB (wb (j + 1) (baseW l (j + 1) + cn (l.take i) (j + 1)))) = outR l j (i + 1) := by
  have hg : l.getD i 0 = (j : Int) + 1 := by rw [List.getD_eq_getElem?_getD, List.getElem?_eq_getElem h]; exact hx
  unfold outR
  apply List.ext_getElem
  · simp
  · intro k h1 h2
    rw [List.getElem_set]
    simp only [List.getElem_map, List.getElem_range]
    by_cases hk : i = k
    · subst hk
      rw [if_pos rfl, if_pos (by omega)]
      congr 1
      unfold rwv wv
      rw [hg, if_pos (by omega), if_pos (by omega)]
      rfl
    · rw [if_neg hk]
      congr 1
      have hiff : (0 < l.getD k 0 ∧ (l.getD k 0 ≤ (j : Int) ∨ (l.getD k 0 = (j : Int) + 1 ∧ k < i))) ↔ (0 < l.getD k 0 ∧ (l.getD k 0 ≤ (j : Int) ∨ (l.getD k 0 = (j : Int) + 1 ∧ k < i + 1))) := by omega
      simp only [hiff]
theorem outR_same (l : List Int) (j : Nat) {i : Nat} (h : i < l.length) (hx : ¬ l[i] = (j : Int) + 1) : outR l j i = outR l j (i + 1) := by
  have hg : ¬ l.getD i 0 = (j : Int) + 1 := by rw [List.getD_eq_getElem?_getD, List.getElem?_eq_getElem h]; exact hx
  unfold outR
  refine List.map_congr_left fun k hk => ?_
  congr 1
  have hiff : (0 < l.getD k 0 ∧ (l.getD k 0 ≤ (j : Int) ∨ (l.getD k 0 = (j : Int) + 1 ∧ k < i))) ↔ (0 < l.getD k 0 ∧ (l.getD k 0 ≤ (j : Int) ∨ (l.getD k 0 = (j : Int) + 1 ∧ k < i + 1))) := by
    by_cases hk : k = i
    · subst hk; omega
    · omega
  simp only [hiff]
theorem more_s (s : ByteArray) (n v : Nat) (w : World) (hn : n ≤ 1000000) (hs : Hid (s = sB (wb n v))) : Calls Try.prog 94 #[.string s] w fun e w' => ∃ t, e = .returned (.string t) ∧ Hid (t = sB (wb n (v + 1))) ∧ w' = w := by
  rw [hs.out]
  exact (wb_more n v w hn).mono fun e w' ⟨h1, h2⟩ => ⟨_, h1, Lib.hid rfl, h2⟩
def RWordsPost (w : World) (l : List Int) (n : Nat) (e : Ending) (w' : World) : Prop :=
  Below w.heap.size w w' ∧ ((kindS l = 0 ∧ e = .returned (.tuple #[.slice none 0 0, .bool false])) ∨
    (kindS l ≠ 0 ∧ ∃ p, e = .returned (.tuple #[.slice p n n, .bool true]) ∧ Own w' w.heap.size 9 Value.string p n n ((rwsL l).map sB)))
set_option maxRecDepth 100000 in
set_option maxHeartbeats 8000000 in
theorem rwords_any (a : Option Addr) (n c : Nat) (l : List Int) (w : World) (hl : l.length = n) (hn : n ≤ 60000) (hr : Rd w nE a l) :
  Calls Try.prog 66 #[.slice a n c] w (RWordsPost w l n) := by
  have HR := Lib.hid (And.intro hl hr)
  clear hl hr
  go_enter Try.func66, Try.ntmps66
  go_wp2_with (at_make; refine wpList_mk (E := Value.string) slStr rfl rfl _ _ rfl n rfl rfl rfl rfl (⟨#[]⟩ : ByteArray) rfl (by omega) (by unfold maxLen; omega) (Nat.le_refl _) ?_; intro p1 w1 hown1 hg1)
  have hB1 := below_of_grownBy hg1
  refine (rkind_any a n c l w1 HR.out.1 (by omega) (HR.out.2.below hB1)).mono ?_
  rintro e w2 ⟨rfl, rfl⟩
  by_cases hk : kindS l = 0
  · rw [hk]
    have HF : Hid (RWordsPost w l n (.returned (.tuple #[.slice none 0 0, .bool false])) w2) := Lib.hid ⟨hB1, .inl ⟨hk, rfl⟩⟩
    clear hk hown1 hg1 hB1
    go_wp2
    go_ret2
    exact HF.out
  · have g0 : (kindS l == 0) = false := by simpa using hk
    have HK := Lib.hid hk
    have hv := Lib.hid (kindS_valid HK.out)
    have HB1 := Lib.hid hB1
    have HO1 : Hid (Own w2 w.heap.size 9 Value.string p1 n n (outR l 0 0)) := Lib.hid (by rw [outR_zero, HR.out.1]; exact hown1)
    have HS : Hid (w.heap.size ≤ w2.heap.size) := Lib.hid hB1.size
    clear hk hown1 hg1 hB1
    go_wp2
    clear g0
    go_loopw [5, 6] (fun x5 x6 wr => ∃ (j : Nat) (s : ByteArray), j ≤ 15 ∧ x5 = .string s ∧ x6 = .int .i64 ((j : Int) + 1) ∧ Hid (s = sB (wb j (baseW l j + cn l j))) ∧ Below w.heap.size w wr ∧ Own wr w.heap.size 9 Value.string p1 n n (outR l j 0)) (fun _ x6 _ => 17 - (intOf x6).toNat)
    case atStart => exact ⟨0, ⟨#[]⟩, by omega, rfl, rfl, Lib.hid rfl, HB1.out, HO1.out⟩
    case round =>
      clear HO1 HB1
      obtain ⟨j, s, hj, rfl, rfl, hs, hB, hO⟩ := hrel
      by_cases hj15 : j < 15
      · have gj : decide ((j : Int) + 1 ≤ 15) = true := decide_eq_true (by omega)
        have hsz : s.size = j := by rw [hs.out, sB_size, wb_len]
        have hs1 : Hid (s ++ ⟨#[48]⟩ = sB (wb (j + 1) (baseW l (j + 1) + cn (l.take 0) (j + 1)))) := Lib.hid (by
          rw [hs.out, wb_nought]
          have : cn (l.take 0) (j + 1) = 0 := by unfold cn cz; simp
          rw [this]; rfl)
        go_wp2
        generalize s ++ ⟨#[48]⟩ = s1 at *
        clear hs hsz
        go_loopw [5, 23] (fun x5 x23 wr => ∃ (i : Nat) (s : ByteArray), i ≤ n ∧ x5 = .string s ∧ x23 = .int .i64 i ∧ Hid (s = sB (wb (j + 1) (baseW l (j + 1) + cn (l.take i) (j + 1)))) ∧ Below w.heap.size w wr ∧ Own wr w.heap.size 9 Value.string p1 n n (outR l j i)) (fun _ x23 _ => n - (intOf x23).toNat)
        case atStart => exact ⟨0, s1, by omega, rfl, rfl, hs1, hB, hO⟩
        case round =>
          clear hs1 hB hO
          obtain ⟨i, s, hi, rfl, rfl, hs, hB, hO⟩ := hrel
          by_cases him : i < n
          · have hil : i < l.length := by rw [HR.out.1]; exact him
            obtain ⟨b, off, rfl, _, hc⟩ := (HR.out.2.below hB).at hil
            replace hc : wr.cell? ⟨b, off + i, none⟩ = some (.int .i64 l[i]) := hc
            have hx := hv.out l[i] (List.getElem_mem hil)
            have HCN := Lib.hid (cn_snoc hil (j + 1))
            by_cases h1 : l[i] = (j : Int) + 1
            · obtain ⟨q, y, rfl, hq1, hq2, hq3, k3, k4⟩ := hO.at him
              have HO := Lib.hid (hO.set i him s)
              rw [hs.out, outR_set l j hil h1, ← hs.out] at HO
              have HB := Lib.hid (hB.setCell (p := ⟨q, i, none⟩) hq1 (Value.string s))
              have HE : Hid (cn (l.take (i + 1)) (j + 1) = cn (l.take i) (j + 1) + 1) := Lib.hid (by rw [HCN.out, if_pos ⟨by omega, by rw [h1]; omega⟩])
              rw [h1] at hc
              clear hB hO h1
              go_wp2_with fail
              refine (more_s s (j + 1) _ _ (by omega) hs).mono ?_
              rintro e w5 ⟨t, rfl, ht, rfl⟩
              clear hc k3 k4
              go_wp2
              go_roundw
              case rel => exact ⟨i + 1, t, by omega, rfl, by go_num, by rw [HE.out]; exact ht, HB.out, HO.out⟩
              case measure => simp [intOf] <;> omega
            · have HO := Lib.hid hO
              rw [outR_same l j hil h1] at HO
              have HB := Lib.hid hB
              have HE : Hid (cn (l.take (i + 1)) (j + 1) = cn (l.take i) (j + 1)) := Lib.hid (by rw [HCN.out, if_neg (by omega)]; omega)
              have g1 : (l[i] == (j : Int) + 1) = false := beq_eq_false_iff_ne.2 h1
              clear hB hO h1
              go_wp2
              go_roundw
              case rel => exact ⟨i + 1, s, by omega, rfl, by go_num, by rw [HE.out]; exact hs, HB.out, HO.out⟩
              case measure => simp [intOf] <;> omega
          · have him' : i = n := by omega
            have HO := Lib.hid hO
            rw [him', ← HR.out.1, outR_next, HR.out.1] at HO
            have hst : l.take i = l := List.take_of_length_le (by rw [HR.out.1]; omega)
            rw [hst] at hs
            have HB := Lib.hid hB
            subst him'
            clear hB hO hst
            go_wp2
            go_roundw
            case rel => exact ⟨j + 1, s, by omega, rfl, by go_num, hs, HB.out, HO.out⟩
            case measure => simp [intOf] <;> omega
      · have hj' : j = 15 := by omega
        subst hj'
        rw [outR_full l hv.out] at hO
        have HF : Hid (RWordsPost w l n (.returned (.tuple #[.slice p1 n n, .bool true])) wr) := Lib.hid ⟨hB, .inr ⟨HK.out, p1, rfl, hO⟩⟩
        clear hB hO hs
        go_wp2
        go_ret2
        exact HF.out
end Go.Proofs.Ytgcdeadfkljeaaa
