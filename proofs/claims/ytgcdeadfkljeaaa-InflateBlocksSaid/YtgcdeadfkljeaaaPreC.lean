/- Words as texts of 0 and 1: the document's More, Number. -/
import Derived.Test.YtgcdeadfkljeaaaPreB
import Derived.Test.YtgcdeadfkljeaaaRef01W
import Derived.Test.YtgcdeadfkljeaaaBuf
import Derived.Laws.RangeString
namespace Go.Proofs.Ytgcdeadfkljeaaa
open Go.RowKit
set_option linter.unusedVariables false
set_option linter.unusedSimpArgs false

def chB (b : Bool) : UInt8 := if b then 49 else 48
/-- A text of 0 and 1. -/
def sB (l : List Bool) : ByteArray := ⟨(l.map chB).toArray⟩
def incB : List Bool → List Bool
  | [] => []
  | false :: r => true :: r
  | true :: r => false :: incB r
theorem incB_len : ∀ r : List Bool, (incB r).length = r.length
  | [] => rfl
  | false :: r => rfl
  | true :: r => by simp [incB, incB_len r]
theorem sB_size (l : List Bool) : (sB l).size = l.length := by simp [sB, ByteArray.size]
theorem sB_get (l : List Bool) (i : Nat) (h : i < (sB l).size) (h2 : i < l.length) : (sB l)[i]'h = chB l[i] := by
  show (sB l).data[i]'h = _
  simp [sB]
theorem sB_append (a b : List Bool) : sB a ++ sB b = sB (a ++ b) := by
  apply ByteArray.ext
  simp [sB]
theorem sB_extract (l : List Bool) (k : Nat) : (sB l).extract 0 k = sB (l.take k) := by
  apply ByteArray.ext
  simp [sB]
theorem sB_inj {a b : List Bool} (h : sB a = sB b) : a = b := by
  have h1 : a.map chB = b.map chB := by simpa [sB] using h
  refine List.map_inj_right (f := chB) (fun x y hxy => ?_) |>.1 h1
  revert hxy; cases x <;> cases y <;> decide
set_option maxRecDepth 100000 in
theorem more_nil (w : World) : Calls Try.prog 94 #[.string ⟨#[]⟩] w fun e w' => e = .returned (.string ⟨#[]⟩) ∧ w' = w := by
  go_enter Try.func94, Try.ntmps94
  go_wp2
  go_ret
  exact ⟨rfl, rfl⟩
theorem toList_ne {s : ByteArray} (h : 0 < s.size) : (s.toList == []) = false := by
  have : s = strOf s.data.toList := by apply ByteArray.ext; simp [strOf]
  rw [this, strOf_toList]
  refine beq_eq_false_iff_ne.2 fun e => ?_
  have h1 : s.size = s.data.toList.length := by rw [Array.length_toList]; rfl
  rw [e] at h1
  have h2 : ([] : List UInt8).length = 0 := rfl
  omega
set_option maxRecDepth 100000 in
set_option maxHeartbeats 1000000 in
theorem more_0 (s : ByteArray) (k : Nat) (w : World) (hs : s.size = k + 1) (hk : k ≤ 1000000) (hl : s[k]'(by omega) = 48) : Calls Try.prog 94 #[.string s] w fun e w' => e = .returned (.string (s.extract 0 k ++ ⟨#[49]⟩)) ∧ w' = w := by
  have hne := toList_ne (s := s) (by omega)
  go_enter Try.func94, Try.ntmps94
  go_wp2
  go_ret
  exact ⟨rfl, rfl⟩
set_option maxRecDepth 100000 in
set_option maxHeartbeats 1000000 in
theorem more_1 (s t : ByteArray) (k : Nat) (w : World) (hs : s.size = k + 1) (hk : k ≤ 1000000) (hl : s[k]'(by omega) = 49) (ht : t.size ≤ 1000000) (h : Calls Try.prog 94 #[.string (s.extract 0 k)] w fun e w' => e = .returned (.string t) ∧ w' = w) :
  Calls Try.prog 94 #[.string s] w fun e w' => e = .returned (.string (t ++ ⟨#[48]⟩)) ∧ w' = w := by
  have hne := toList_ne (s := s) (by omega)
  have H := Lib.hid h
  clear h
  go_enter Try.func94, Try.ntmps94
  go_wp2_with fail
  refine H.out.mono ?_
  rintro e w' ⟨rfl, rfl⟩
  go_wp2
  go_ret
  exact ⟨rfl, rfl⟩
theorem more_any : ∀ (r : List Bool) (w : World), r.length ≤ 1000000 → Calls Try.prog 94 #[.string (sB r.reverse)] w fun e w' => e = .returned (.string (sB (incB r).reverse)) ∧ w' = w
  | [], w, _ => more_nil w
  | b :: r, w, h => by
    have hs : (sB (b :: r).reverse).size = r.length + 1 := by rw [sB_size]; simp
    have hl : (sB (b :: r).reverse)[r.length]'(by omega) = chB b := by
      rw [sB_get _ _ (by omega) (by simp)]
      simp
    have hx : (sB (b :: r).reverse).extract 0 r.length = sB r.reverse := by
      rw [sB_extract, List.reverse_cons, List.take_append_of_le_length (by simp), List.take_of_length_le (by simp)]
    rw [List.length_cons] at h
    cases b with
    | false =>
      refine (more_0 _ r.length w hs (by omega) hl).mono ?_
      rintro e w' ⟨rfl, rfl⟩
      refine ⟨?_, rfl⟩
      rw [hx, show (⟨#[49]⟩ : ByteArray) = sB [true] from rfl, sB_append, show incB (false :: r) = true :: r from rfl, List.reverse_cons]
    | true =>
      refine (more_1 _ (sB (incB r).reverse) r.length w hs (by omega) hl (by rw [sB_size, List.length_reverse, incB_len]; omega) (by rw [hx]; exact more_any r w (by omega))).mono ?_
      rintro e w' ⟨rfl, rfl⟩
      refine ⟨?_, rfl⟩
      rw [show (⟨#[48]⟩ : ByteArray) = sB [false] from rfl, sB_append, show incB (true :: r) = false :: incB r from rfl, List.reverse_cons]
/-- The bits of a word, the first one first. -/
def wb (n v : Nat) : List Bool := (bitsL v n).reverse
theorem wb_len (n v : Nat) : (wb n v).length = n := by simp [wb, bitsL_length]
theorem bitsL_consP (v n : Nat) : bitsL v (n + 1) = decide (v % 2 = 1) :: bitsL (v / 2) n := by
  unfold bitsL
  rw [List.range_succ_eq_map, List.map_cons, List.map_map]
  congr 1
  · simp
  · refine List.map_congr_left fun i _ => ?_
    simp only [Function.comp]
    rw [Nat.div_div_eq_div_mul, Nat.pow_succ, Nat.mul_comm 2]
theorem incB_bitsL : ∀ (n v : Nat), incB (bitsL v n) = bitsL (v + 1) n
  | 0, v => rfl
  | n + 1, v => by
    rw [bitsL_consP, bitsL_consP]
    by_cases h : v % 2 = 1
    · rw [decide_eq_true h, decide_eq_false (by omega)]
      show false :: incB (bitsL (v / 2) n) = _
      rw [incB_bitsL n (v / 2), show (v + 1) / 2 = v / 2 + 1 by omega]
    · rw [decide_eq_false h, decide_eq_true (by omega)]
      show true :: bitsL (v / 2) n = _
      rw [show (v + 1) / 2 = v / 2 by omega]
theorem wb_more (n v : Nat) (w : World) (hn : n ≤ 1000000) : Calls Try.prog 94 #[.string (sB (wb n v))] w fun e w' => e = .returned (.string (sB (wb n (v + 1)))) ∧ w' = w := by
  have := more_any (bitsL v n) w (by rw [bitsL_length]; exact hn)
  rwa [incB_bitsL] at this
theorem wb_nought (n v : Nat) : sB (wb n v) ++ ⟨#[48]⟩ = sB (wb (n + 1) (2 * v)) := by
  rw [show (⟨#[48]⟩ : ByteArray) = sB [false] from rfl, sB_append]
  congr 1
  unfold wb
  rw [bitsL_consP, List.reverse_cons]
  simp
theorem wb_one (n v : Nat) : sB (wb n v) ++ ⟨#[49]⟩ = sB (wb (n + 1) (2 * v + 1)) := by
  rw [show (⟨#[49]⟩ : ByteArray) = sB [true] from rfl, sB_append]
  congr 1
  unfold wb
  rw [bitsL_consP, List.reverse_cons, show (2 * v + 1) / 2 = v by omega]
  simp
/-- A word's number: the first bit counts most. -/
def numM (l : List Bool) : Nat := l.foldl (fun a b => (2 * a + (if b then 1 else 0)) % 4294967296) 0
theorem numM_snoc (l : List Bool) {i : Nat} (h : i < l.length) : numM (l.take (i + 1)) = (2 * numM (l.take i) + (if l[i] then 1 else 0)) % 4294967296 := by
  rw [List.take_succ_eq_append_getElem h]; unfold numM; rw [List.foldl_append]; rfl
/-- What is left of a text that is ranged over. -/
def itLeft (n g : Nat) (w : World) : Nat := match w.heap[g]? with | some (.stringIter _ p) => n - p | _ => 0
theorem itLeft_iter (n : Nat) (w : World) (s : ByteArray) (p : Nat) : itLeft n w.heap.size (w.iter s p) = n - p := by unfold itLeft; rw [World.iter_heap]
theorem numM_numL (l : List Bool) : numM l = numL l.reverse := by
  have : ∀ l : List Bool, numL l = l.foldr (fun b a => (2 * a + (if b then 1 else 0)) % 4294967296) 0 := by
    intro l
    induction l with
    | nil => rfl
    | cons b r ih => rw [numL, ih]; rfl
  rw [this, List.foldr_reverse]; rfl
end Go.Proofs.Ytgcdeadfkljeaaa
