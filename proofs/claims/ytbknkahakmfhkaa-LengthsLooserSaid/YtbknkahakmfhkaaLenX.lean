/- swapRangeCmpFunc, rotateCmpFunc at packs. -/
import Derived.Test.YtbknkahakmfhkaaLenC
import Derived.Shelf.SlSortCmp.KitK
import Derived.Sort.WalkB2
import Derived.Sort.WalkB12
import Derived.Deep.LoopGhost
namespace Go.Proofs.Ytbknkahakmfhkaa
open Go.Shelf Go.RowKit Go.Lib Go.Sort
set_option linter.unusedVariables false
set_option linter.unusedSimpArgs false

abbrev SWP (w0 : World) (blk : Nat) (d : Array Pk) (W : World) : Prop := SWK pkE 2 w0 blk 0 d W
abbrev RowPk (w0 : World) (blk : Nat) (d : Array Pk) : Prop := RowK pkE 2 w0 blk 0 d
/-- Rounds of exchanges: the places from a on with those from b on. -/
def swapR (d : Array Pk) (a b : Nat) : Nat → Array Pk
  | 0 => d
  | k + 1 => swp (swapR d a b k) (a + k) (b + k)
theorem swapR_size (d : Array Pk) (a b : Nat) : ∀ k, (swapR d a b k).size = d.size
  | 0 => rfl
  | k + 1 => by rw [swapR, Go.Sort.size_swp, swapR_size]
theorem pk_holds {w : World} {blk i : Nat} {d : Array Pk} (h : HoldsK pkE 2 w blk 0 d) (hi : i < d.size) :
    w.cell? ⟨blk, i * 2, none⟩ = some (.int .i64 d[i]!.often) ∧ w.cell? ⟨blk, i * 2 + 1, none⟩ = some (.slice d[i]!.ptr d[i]!.signs.length d[i]!.cap) ∧ w.frozen? ⟨blk, i * 2, none⟩ = false ∧ w.frozen? ⟨blk, i * 2 + 1, none⟩ = false := by
  have h0 := h.cell hi (show 0 < 2 by omega)
  have h1 := h.cell hi (show 1 < 2 by omega)
  simp only [Nat.zero_add, Nat.add_zero] at h0 h1
  exact ⟨h0.1, h1.1, h0.2, h1.2⟩
set_option maxHeartbeats 4000000 in
set_option maxRecDepth 1000000 in
theorem swapRange_any (blk cap a b k n : Nat) (cb : Value) (d0 d : Array Pk) (w0 W : World) (R : RowPk w0 blk d0) (h0 : d0.size = n) (hs : d.size = n) (S : SWP w0 blk d W) (ha : a + k ≤ b) (hb : b + k ≤ n) (hsz : n < 1000000) :
    Calls Try.prog 133 #[.slice (some ⟨blk, 0, none⟩) n cap, .int .i64 a, .int .i64 b, .int .i64 k, cb] W fun e w' => e = .returned (.tuple #[]) ∧ SWP w0 blk (swapR d a b k) w' := by
  have HS : Hid (d0.size = n ∧ d.size = n) := Lib.hid ⟨h0, hs⟩
  have S0 : Hid (SWP w0 blk d W) := Lib.hid S
  have HR : Hid (RowPk w0 blk d0) := Lib.hid R
  clear S R h0 hs
  go_enter Try.func133, Try.ntmps133
  go_wp2
  go_loopw [10] (fun x10 wr => ∃ i : Nat, i ≤ k ∧ x10 = .int .i64 i ∧ Hid (SWP w0 blk (swapR d a b i) wr)) (fun x10 _ => k - (intOf x10).toNat)
  case atStart => exact ⟨0, Nat.zero_le _, rfl, S0⟩
  case round =>
    clear S0
    obtain ⟨i, hi, rfl, S1⟩ := hrel
    by_cases hlt : i < k
    · have hds : (swapR d a b i).size = n := by rw [swapR_size, HS.out.2]
      have hds0 : (swapR d a b i).size = d0.size := by rw [hds, HS.out.1]
      have ea : ((a : Int) + (i : Int)).toNat = a + i := by omega
      have eb : ((b : Int) + (i : Int)).toNat = b + i := by omega
      have pa : (0 : Int) ≤ (a : Int) + (i : Int) := by omega
      have pb : (0 : Int) ≤ (b : Int) + (i : Int) := by omega
      have ba : (a : Int) + (i : Int) < (n : Int) := by omega
      have bb : (b : Int) + (i : Int) < (n : Int) := by omega
      have ra : IntKind.i64.wrap ((a : Int) + (i : Int)) = (a : Int) + (i : Int) := by rw [IntKind.wrap_i64]; omega
      have rb : IntKind.i64.wrap ((b : Int) + (i : Int)) = (b : Int) + (i : Int) := by rw [IntKind.wrap_i64]; omega
      have S2 : Hid (SWP w0 blk (swapR d a b (i + 1)) ((wr.drew.setCells blk (0 + (a + i) * 2) (pkE (swapR d a b i)[b + i]!)).setCells blk (0 + (b + i) * 2) (pkE (swapR d a b i)[a + i]!))) := Lib.hid (S1.out.swapped HR.out (a + i) (b + i) (by omega) (by omega))
      have HH := Lib.hid (S1.out.holds HR.out.hblk HR.out.hH hds0)
      obtain ⟨c1, c2, f1, f2⟩ := pk_holds HH.out (show a + i < (swapR d a b i).size by omega)
      obtain ⟨c3, c4, f3, f4⟩ := pk_holds HH.out (show b + i < (swapR d a b i).size by omega)
      generalize (swapR d a b i)[a + i]! = xI at *
      generalize (swapR d a b i)[b + i]! = xJ at *
      obtain ⟨o1, p1, k1, s1⟩ := xI
      obtain ⟨o2, p2, k2, s2⟩ := xJ
      simp only at c1 c2 c3 c4
      clear S1 hds hds0 HH
      simp only [Nat.zero_add] at S2
      have e1 : ¬ (b + i) * 2 = (a + i) * 2 := by omega
      have e2 : ¬ (b + i) * 2 = (a + i) * 2 + 1 := by omega
      have e3 : ¬ (b + i) * 2 + 1 = (a + i) * 2 := by omega
      have e4 : ¬ b + i = a + i := by omega
      have e5 : ¬ (a + i) * 2 = (b + i) * 2 := by omega
      have e6 : ¬ (a + i) * 2 + 1 = (b + i) * 2 := by omega
      have e7 : ¬ (a + i) * 2 = (b + i) * 2 + 1 := by omega
      have e8 : ¬ a + i = b + i := by omega
      have mixed : Try.prog.follows .mixedOrders = true := by kernel_rfl
      go_wp2_with fail
      go_big_region_o
      all_goals go_wp2
      go_roundw
      case rel => exact ⟨i + 1, by omega, by go_num, S2⟩
      case measure => simp [intOf] <;> omega
    · have hk : i = k := by omega
      subst hk
      go_wp2
      go_end0
      exact ⟨rfl, S1.out⟩
/-! In lists. -/
theorem swp_list {X Y Z : List Pk} {x y : Pk} {d : Array Pk} {p q : Nat} (h : d.toList = X ++ x :: Y ++ y :: Z) (hp : p = X.length) (hq : q = X.length + 1 + Y.length) : (swp d p q).toList = X ++ y :: Y ++ x :: Z := by
  have hsz : d.size = X.length + 1 + Y.length + 1 + Z.length := by
    rw [← Array.length_toList, h]; simp; omega
  have gp : d[p]! = x := by
    rw [getElem!_pos d p (by omega), ← Array.getElem_toList]
    simp only [h]
    rw [List.getElem_append_left (by simp; omega), List.getElem_append_right (by omega)]
    simp [hp]
  have gq : d[q]! = y := by
    rw [getElem!_pos d q (by omega), ← Array.getElem_toList]
    simp only [h]
    rw [List.getElem_append_right (by simp; omega)]
    simp only [List.length_append, List.length_cons, hq]
    simp only [show X.length + 1 + Y.length - (X.length + (Y.length + 1)) = 0 by omega]
    rfl
  unfold swp
  rw [gp, gq, Array.toList_setIfInBounds, Array.toList_setIfInBounds, h]
  rw [hp, hq]
  rw [List.append_assoc, List.set_append_right _ _ (Nat.le_refl _), Nat.sub_self, List.cons_append, List.set_cons_zero]
  rw [List.set_append_right _ _ (by omega)]
  rw [show X.length + 1 + Y.length - X.length = Y.length + 1 by omega, List.set_cons_succ, List.set_append_right _ _ (Nat.le_refl _), Nat.sub_self, List.set_cons_zero]
  rw [List.append_assoc, List.cons_append]
theorem swapR_list {X s B t C : List Pk} {d : Array Pk} (h : d.toList = X ++ s ++ B ++ t ++ C) (hst : s.length = t.length) : ∀ i, i ≤ s.length → (swapR d X.length (X.length + s.length + B.length) i).toList = X ++ (t.take i ++ s.drop i) ++ B ++ (s.take i ++ t.drop i) ++ C
  | 0, _ => by simp only [swapR, List.take_zero, List.drop_zero, List.nil_append]; exact h
  | i + 1, hi => by
    have ih := swapR_list h hst i (by omega)
    have e1 : s.drop i = s[i] :: s.drop (i + 1) := List.drop_eq_getElem_cons (by omega)
    have e2 : t.drop i = t[i] :: t.drop (i + 1) := List.drop_eq_getElem_cons (by omega)
    rw [e1, e2] at ih
    have h3 := swp_list (d := swapR d X.length (X.length + s.length + B.length) i) (X := X ++ t.take i) (x := s[i]) (Y := s.drop (i + 1) ++ B ++ s.take i) (y := t[i]) (Z := t.drop (i + 1) ++ C) (p := X.length + i) (q := X.length + s.length + B.length + i) (by rw [ih]; simp only [List.append_assoc, List.cons_append]) (by simp; omega) (by simp; omega)
    rw [swapR, h3, List.take_succ_eq_append_getElem (show i < t.length by omega), List.take_succ_eq_append_getElem (show i < s.length by omega)]
    simp only [List.append_assoc, List.cons_append, List.nil_append]
theorem swapR_all {X s B t C : List Pk} {d : Array Pk} {a b k : Nat} (h : d.toList = X ++ s ++ B ++ t ++ C) (hk : s.length = k) (hst : t.length = k) (ha : a = X.length) (hb : b = X.length + k + B.length) : (swapR d a b k).toList = X ++ t ++ B ++ s ++ C := by
  subst hk
  have := swapR_list h (by omega) s.length (Nat.le_refl _)
  rw [List.take_of_length_le (by omega), List.take_length, List.drop_length, List.drop_of_length_le (by omega), List.append_nil, List.append_nil] at this
  rw [ha, hb]
  exact this
end Go.Proofs.Ytbknkahakmfhkaa
