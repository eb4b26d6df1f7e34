/- rotateCmpFunc at packs. -/
import Derived.Test.YtbknkahakmfhkaaLenX
namespace Go.Proofs.Ytbknkahakmfhkaa
open Go.Shelf Go.RowKit Go.Lib Go.Sort
set_option linter.unusedVariables false
set_option linter.unusedSimpArgs false

/-- A world of the sort's whose row reads as L. -/
def SWL (w0 : World) (blk : Nat) (L : List Pk) (W : World) : Prop := ∃ d : Array Pk, d.toList = L ∧ SWP w0 blk d W
theorem SWL.mk {w0 W : World} {blk : Nat} {d : Array Pk} {L : List Pk} (h : SWP w0 blk d W) (hd : d.toList = L) : SWL w0 blk L W := ⟨d, hd, h⟩
theorem swapRange_list (blk cap a b k n : Nat) (cb : Value) (d0 : Array Pk) (w0 W : World) (X s B t C : List Pk) (R : RowPk w0 blk d0) (h0 : d0.size = n) (S : SWL w0 blk (X ++ s ++ B ++ t ++ C) W) (hn : (X ++ s ++ B ++ t ++ C).length = n) (hk : s.length = k) (hst : t.length = k) (ha : a = X.length) (hb : b = X.length + k + B.length) (hsz : n < 1000000) :
    Calls Try.prog 133 #[.slice (some ⟨blk, 0, none⟩) n cap, .int .i64 a, .int .i64 b, .int .i64 k, cb] W fun e w' => e = .returned (.tuple #[]) ∧ SWL w0 blk (X ++ t ++ B ++ s ++ C) w' := by
  obtain ⟨d, hd, hS⟩ := S
  have hl : (X ++ s ++ B ++ t ++ C).length = X.length + s.length + B.length + t.length + C.length := by simp only [List.length_append]
  refine (swapRange_any blk cap a b k n cb d0 d w0 W R h0 (by rw [← Array.length_toList, hd, hn]) hS (by omega) (by omega) hsz).mono ?_
  rintro e w' ⟨rfl, h⟩
  exact ⟨rfl, _, swapR_all hd hk hst ha hb, h⟩
theorem rot_more {P u v S G : List Pk} {j : Nat} (h : P ++ v ++ u ++ S = G) (hj : j ≤ u.length) : (P ++ v) ++ u.take j ++ u.drop j ++ S = G := by
  rw [List.append_assoc (P ++ v), List.take_append_drop]; exact h
theorem rot_less {P u v S G : List Pk} {i : Nat} (h : P ++ v ++ u ++ S = G) : P ++ v.take i ++ v.drop i ++ (u ++ S) = G := by
  rw [List.append_assoc P, List.take_append_drop, ← List.append_assoc]; exact h
set_option maxHeartbeats 4000000 in
set_option maxRecDepth 1000000 in
theorem rotate_any (blk cap a m b n : Nat) (cb : Value) (d0 : Array Pk) (w0 W : World) (X u v Y : List Pk) (R : RowPk w0 blk d0) (h0 : d0.size = n) (S : SWL w0 blk (X ++ u ++ v ++ Y) W) (hn : (X ++ u ++ v ++ Y).length = n) (ha : a = X.length) (hm : m = X.length + u.length) (hb : b = X.length + u.length + v.length) (hu : 0 < u.length) (hv : 0 < v.length) (hsz : n < 1000000) :
    Calls Try.prog 131 #[.slice (some ⟨blk, 0, none⟩) n cap, .int .i64 a, .int .i64 m, .int .i64 b, cb] W fun e w' => e = .returned (.tuple #[]) ∧ SWL w0 blk (X ++ v ++ u ++ Y) w' := by
  have HR : Hid (RowPk w0 blk d0 ∧ d0.size = n) := Lib.hid ⟨R, h0⟩
  have HS : Hid (SWL w0 blk (X ++ u ++ v ++ Y) W) := Lib.hid S
  obtain ⟨i0, hi0⟩ : ∃ i0, Hid (u.length = i0) := ⟨_, Lib.hid rfl⟩
  obtain ⟨j0, hj0⟩ : ∃ j0, Hid (v.length = j0) := ⟨_, Lib.hid rfl⟩
  have hl : n = X.length + i0 + j0 + Y.length := by rw [← hn, ← hi0.out, ← hj0.out]; simp only [List.length_append]
  have hi : 0 < i0 := by rw [← hi0.out]; exact hu
  have hj : 0 < j0 := by rw [← hj0.out]; exact hv
  have gi : (m : Int) - (a : Int) = (i0 : Int) := by rw [hm, ha, ← hi0.out]; omega
  have gj : (b : Int) - (m : Int) = (j0 : Int) := by rw [hm, hb, ← hj0.out]; omega
  have hmA : Hid (m = a + i0) := Lib.hid (by rw [hm, ha, hi0.out])
  have HA : Hid (a = X.length) := Lib.hid ha
  have HN : Hid (n = X.length + i0 + j0 + Y.length) := Lib.hid hl
  have hmn : m + j0 ≤ n := by rw [hl, hm, hi0.out]; omega
  clear R h0 S hn ha hm hb hu hv hl
  go_enter Try.func131, Try.ntmps131
  go_wp2
  go_loopw [10, 11] (fun x10 x11 wr => ∃ (i j A : Nat) (P u' v' S : List Pk), 0 < i ∧ 0 < j ∧ Hid (m = A + i) ∧ m + j ≤ n ∧ x10 = .int .i64 i ∧ x11 = .int .i64 j ∧ Hid (A = X.length + P.length ∧ u'.length = i ∧ v'.length = j ∧ P ++ v' ++ u' ++ S = v ++ u) ∧ Hid (SWL w0 blk (X ++ (P ++ u' ++ v' ++ S) ++ Y) wr)) (fun x10 x11 _ => (intOf x10).toNat + (intOf x11).toNat)
  case atStart => exact ⟨i0, j0, a, [], u, v, [], hi, hj, hmA, hmn, rfl, rfl, Lib.hid ⟨by rw [HA.out]; simp, hi0.out, hj0.out, by simp⟩, Lib.hid (by simpa using HS.out)⟩
  case round =>
    clear HS gi gj hi hj hmA hmn
    obtain ⟨i, j, A, P, u', v', S, hi, hj, hmA, hmn, rfl, rfl, HE, hS⟩ := hrel
    have HL : Hid (A + i + j + S.length + Y.length = n) := Lib.hid (by
      have := congrArg List.length HE.out.2.2.2
      simp only [List.length_append] at this
      have h1 := HE.out.1; have h2 := HE.out.2.1; have h3 := HE.out.2.2.1
      have h4 := HN.out; have h5 := hi0.out; have h6 := hj0.out
      omega)
    have gA : (m : Int) - (i : Int) = (A : Int) := by have := hmA.out; omega
    by_cases hij : i = j
    · subst hij
      have HC := Lib.hid (swapRange_list blk cap A m i n cb d0 w0 wr (X ++ P) u' [] v' (S ++ Y) HR.out.1 HR.out.2 (by have := hS.out; simpa only [List.append_assoc, List.nil_append] using this) (by
        have h1 := HE.out.1; have h2 := HE.out.2.1; have h3 := HE.out.2.2.1; have h4 := HL.out
        simp only [List.length_append, List.length_nil]; omega) HE.out.2.1 HE.out.2.2.1 (by have := HE.out.1; simp; omega) (by have := HE.out.1; have := hmA.out; simp; omega) hsz)
      go_wp2_with fail
      refine HC.out.mono ?_
      rintro e w' ⟨rfl, h⟩
      have HF : Hid (SWL w0 blk (X ++ v ++ u ++ Y) w') := Lib.hid (by
        have h1 := HE.out.2.2.2
        have : X ++ P ++ v' ++ [] ++ u' ++ (S ++ Y) = X ++ v ++ u ++ Y := by
          rw [List.append_assoc X v u, ← h1]; simp only [List.append_assoc, List.nil_append]
        rw [← this]; exact h)
      clear h
      go_wp2
      go_end0
      exact ⟨rfl, HF.out⟩
    · have gne : ((i : Int) == (j : Int)) = false := by simp; omega
      have gne2 : ¬ (i : Int) = (j : Int) := by omega
      by_cases hgt : j < i
      · have HC := Lib.hid (swapRange_list blk cap A m j n cb d0 w0 wr (X ++ P) (u'.take j) (u'.drop j) v' (S ++ Y) HR.out.1 HR.out.2 (by have := hS.out; rw [show X ++ P ++ u'.take j ++ u'.drop j ++ v' ++ (S ++ Y) = X ++ (P ++ (u'.take j ++ u'.drop j) ++ v' ++ S) ++ Y by simp only [List.append_assoc], List.take_append_drop]; exact this) (by
          have h1 := HE.out.1; have h2 := HE.out.2.1; have h3 := HE.out.2.2.1; have h4 := HL.out
          simp only [List.length_append, List.length_take, List.length_drop]; omega) (by have := HE.out.2.1; rw [List.length_take]; omega) HE.out.2.2.1 (by have := HE.out.1; simp; omega) (by have := HE.out.1; have := HE.out.2.1; have := hmA.out; rw [List.length_drop, List.length_append]; omega) hsz)
        have gij : (i : Int) - (j : Int) = ((i - j : Nat) : Int) := by omega
        have gji : (j : Int) < (i : Int) := by omega
        go_wp2_with fail
        refine HC.out.mono ?_
        rintro e w' ⟨rfl, h⟩
        have HF := Lib.hid h
        clear h
        go_wp2
        go_roundw
        case rel => exact ⟨i - j, j, A + j, P ++ v', u'.drop j, u'.take j, S, by omega, hj, Lib.hid (by have := hmA.out; omega), by omega, rfl, rfl, Lib.hid ⟨by have := HE.out.1; have := HE.out.2.2.1; rw [List.length_append]; omega, by have := HE.out.2.1; rw [List.length_drop]; omega, by have := HE.out.2.1; rw [List.length_take]; omega, rot_more HE.out.2.2.2 (by have := HE.out.2.1; omega)⟩, Lib.hid (by have := HF.out; simpa only [List.append_assoc] using this)⟩
        case measure => simp [intOf] <;> omega
      · have hlt : i < j := by omega
        obtain ⟨B, hB⟩ : ∃ B : Nat, B = A + j := ⟨_, rfl⟩
        have gB : (m : Int) + (j : Int) - (i : Int) = (B : Int) := by have := hmA.out; omega
        have HC := Lib.hid (swapRange_list blk cap A B i n cb d0 w0 wr (X ++ P) u' (v'.take (j - i)) (v'.drop (j - i)) (S ++ Y) HR.out.1 HR.out.2 (by have := hS.out; rw [show X ++ P ++ u' ++ v'.take (j - i) ++ v'.drop (j - i) ++ (S ++ Y) = X ++ (P ++ u' ++ (v'.take (j - i) ++ v'.drop (j - i)) ++ S) ++ Y by simp only [List.append_assoc], List.take_append_drop]; exact this) (by
          have h1 := HE.out.1; have h2 := HE.out.2.1; have h3 := HE.out.2.2.1; have h4 := HL.out
          simp only [List.length_append, List.length_take, List.length_drop]; omega) HE.out.2.1 (by have := HE.out.2.2.1; rw [List.length_drop]; omega) (by have := HE.out.1; simp; omega) (by have := HE.out.1; have := HE.out.2.2.1; rw [List.length_take, List.length_append]; omega) hsz)
        have gji : (j : Int) - (i : Int) = ((j - i : Nat) : Int) := by omega
        have gij : ¬ (j : Int) < (i : Int) := by omega
        clear hB
        go_wp2_with fail
        refine HC.out.mono ?_
        rintro e w' ⟨rfl, h⟩
        have HF := Lib.hid h
        clear h gB
        go_wp2
        go_roundw
        case rel => exact ⟨i, j - i, A, P, v'.drop (j - i), v'.take (j - i), u' ++ S, hi, by omega, hmA, by omega, rfl, rfl, Lib.hid ⟨HE.out.1, by have := HE.out.2.2.1; rw [List.length_drop]; omega, by have := HE.out.2.2.1; rw [List.length_take]; omega, rot_less HE.out.2.2.2⟩, Lib.hid (by have := HF.out; simpa only [List.append_assoc] using this)⟩
        case measure => simp [intOf] <;> omega
end Go.Proofs.Ytbknkahakmfhkaa
