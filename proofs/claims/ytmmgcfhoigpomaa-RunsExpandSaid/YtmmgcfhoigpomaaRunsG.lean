/- runs.stretch; slices.ContainsFunc of runs.Of's question. -/
import Derived.Test.YtmmgcfhoigpomaaRunsF
namespace Go.Proofs.Ytmmgcfhoigpomaa
open Go.RowKit
set_option linter.unusedVariables false
set_option linter.unusedSimpArgs false

def strGo (x : Int) : List Int → Nat
  | [] => 0
  | y :: r => if y = x then strGo x r + 1 else 0
def strN : List Int → Nat
  | [] => 1
  | x :: r => strGo x r + 1
set_option maxRecDepth 100000 in
set_option maxHeartbeats 4000000 in
theorem stretch_any (a : Option Addr) (n c : Nat) (x : Int) (r : List Int) (w : World) (hl : (x :: r).length = n) (hn : n ≤ 1000000) (hr : Rd w iR a (x :: r)) :
  Calls Try.prog 64 #[.slice a n c] w fun e w' => e = .returned (.int .i64 (strN (x :: r) : Nat)) ∧ Below w.heap.size w w' := by
  obtain ⟨b, off, rfl, -, hc0⟩ := hr.at (k := 0) (by simp)
  have HL := Lib.hid hl
  have HR := Lib.hid hr
  rw [Nat.add_zero] at hc0
  unfold iR at hc0
  simp only [List.getElem_cons_zero] at hc0
  have hlt0 : b < w.heap.size := World.block_lt_of_cell? w _ hc0
  have HC0 := Lib.hid hc0
  clear hr hc0 hl
  go_enter Try.func64, Try.ntmps64
  go_wp2
  go_loopw [3] (fun xi wr => ∃ k : Nat, 1 ≤ k ∧ k ≤ n ∧ xi = .int .i64 k ∧ strGo x ((x :: r).drop k) + k = strN (x :: r) ∧ Below w.heap.size w wr) (fun xi _ => n - (intOf xi).toNat)
  case atStart => exact ⟨1, by omega, by rw [← HL.out]; simp, rfl, rfl, Below.refl _ _⟩
  case round =>
    obtain ⟨k, hk1, hk, rfl, hst, hB⟩ := hrel
    by_cases hlt : k < n
    · have hkl : k < (x :: r).length := by rw [HL.out]; exact hlt
      obtain ⟨b', off', he, -, hck⟩ := (HR.out.below hB).at hkl
      simp only [Option.some.injEq, Addr.mk.injEq] at he
      obtain ⟨rfl, rfl, -⟩ := he
      have hc0 := (hB.cell (p := ⟨b, off, none⟩) hlt0).trans HC0.out
      rw [List.drop_eq_getElem_cons hkl, strGo] at hst
      unfold iR at hck
      generalize (x :: r)[k] = y at hck hst
      have HST := Lib.hid hst
      clear hst
      by_cases hxy : y = x
      · have hst := HST.out
        rw [if_pos hxy] at hst
        have HS := Lib.hid hst
        rw [hxy] at hck
        clear hst HST hxy
        go_wp2
        have s1 : (k : Int) < (n : Int) := by omega
        have s2 : 0 ≤ (k : Int) := by omega
        have s3 : (0 : Int) < (n : Int) := by omega
        go_quiet (fail)
        clear s1 s2 s3
        go_wp2
        all_goals go_roundw
        all_goals first | exact ⟨k + 1, by omega, by omega, by go_num, by have := HS.out; omega, hB.trans (below_drewN _ _ _)⟩ | (simp [intOf]; omega)
      · have hst := HST.out
        rw [if_neg hxy, Nat.zero_add] at hst
        have hxyb : (y == x) = false := beq_eq_false_iff_ne.2 hxy
        have HS := Lib.hid hst
        clear hst HST hxy
        go_wp2
        have s1 : (k : Int) < (n : Int) := by omega
        have s2 : 0 ≤ (k : Int) := by omega
        have s3 : (0 : Int) < (n : Int) := by omega
        go_quiet (fail)
        clear s1 s2 s3
        go_wp2
        all_goals go_ret
        all_goals exact ⟨ret_int (by rw [← HS.out]), hB.trans (below_drewN _ _ _)⟩
    · have hkn : k = n := by omega
      rw [List.drop_of_length_le (by rw [HL.out]; omega), strGo, Nat.zero_add] at hst
      have HS := Lib.hid hst
      clear hst
      subst hkn
      go_wp2
      go_quiet (fail)
      go_wp2
      all_goals go_ret
      all_goals exact ⟨ret_int (by rw [← HS.out]), hB.trans (below_drewN _ _ _)⟩
def badB (x : Int) : Bool := decide (x < 0) || decide (15 < x)
theorem of1_any (x : Int) (w : World) : Calls Try.prog 63 #[.int .i64 x] w fun e w' => e = .returned (.bool (badB x)) ∧ w = w' := by
  by_cases h1 : x < 0
  · have HF : Hid (badB x = true) := Lib.hid (by unfold badB; rw [decide_eq_true h1]; rfl)
    rw [HF.out]
    go_enter Try.func63, Try.ntmps63
    go_wp2
    go_ret
    exact ⟨rfl, rfl⟩
  · by_cases h2 : 15 < x
    · have HF : Hid (badB x = true) := Lib.hid (by unfold badB; rw [decide_eq_true h2, decide_eq_false h1]; rfl)
      rw [HF.out]
      go_enter Try.func63, Try.ntmps63
      go_wp2
      go_ret
      exact ⟨ret_bool (by first | (simp; done) | (simp; omega)), rfl⟩
    · have HF : Hid (badB x = false) := Lib.hid (by unfold badB; rw [decide_eq_false h2, decide_eq_false h1]; rfl)
      rw [HF.out]
      go_enter Try.func63, Try.ntmps63
      go_wp2
      go_ret
      exact ⟨ret_bool (by first | (simp; done) | (simp; omega)), rfl⟩
def IdxPost (w : World) (l : List Int) (e : Ending) (w' : World) : Prop := ∃ v : Int, e = .returned (.int .i64 v) ∧ (-1 ≤ v ∧ v ≤ 1000000) ∧ (l.any badB = decide (0 ≤ v)) ∧ Below w.heap.size w w'
set_option maxRecDepth 100000 in
set_option maxHeartbeats 4000000 in
theorem idx_any (a : Option Addr) (n c : Nat) (l : List Int) (w : World) (hl : l.length = n) (hn : n ≤ 1000000) (hr : Rd w iR a l) :
  Calls Try.prog 72 #[.slice a n c, .func (.func 63) #[] #[]] w (IdxPost w l) := by
  have HL := Lib.hid hl
  have HR := Lib.hid hr
  clear hl hr
  go_enter Try.func72, Try.ntmps72
  go_wp2
  go_loopw [8] (fun xi wr => ∃ k : Nat, k ≤ n ∧ xi = .int .i64 k ∧ (l.take k).any badB = false ∧ Below w.heap.size w wr) (fun xi _ => n - (intOf xi).toNat)
  case atStart => exact ⟨0, by omega, rfl, rfl, Below.refl _ _⟩
  case round =>
    obtain ⟨k, hk, rfl, hno, hB⟩ := hrel
    have HNO := Lib.hid hno
    clear hno
    by_cases hlt : k < n
    · have hkl : k < l.length := by rw [HL.out]; exact hlt
      obtain ⟨b, off, rfl, -, hck⟩ := (HR.out.below hB).at hkl
      unfold iR at hck
      have hst : (l.take (k + 1)).any badB = ((l.take k).any badB || badB l[k]) := by rw [List.take_succ_eq_append_getElem hkl, List.any_append]; simp
      have hall : badB l[k] = true → l.any badB = true := fun h => List.any_eq_true.2 ⟨l[k], List.getElem_mem hkl, h⟩
      have HST := Lib.hid hst
      have HALL := Lib.hid hall
      clear hst hall
      generalize l[k] = x at hck HST HALL
      go_wp2_with fail
      refine (of1_any x wr).mono ?_
      rintro e w' ⟨rfl, rfl⟩
      cases hbx : badB x with
      | true =>
        have HF : Hid (IdxPost w l (.returned (.int .i64 (k : Int))) wr) := Lib.hid ⟨k, rfl, by omega, by rw [HALL.out hbx, decide_eq_true (by omega)], hB⟩
        go_wp2
        go_ret
        exact HF.out
      | false =>
        have hn2 := HST.out
        rw [HNO.out, hbx] at hn2
        have HN2 := Lib.hid hn2
        clear hn2 hbx
        go_wp2
        go_roundw
        case rel => exact ⟨k + 1, by omega, by go_num, HN2.out, hB⟩
        case measure => simp [intOf]; omega
    · have hkn : k = n := by omega
      have hno := HNO.out
      rw [hkn, List.take_of_length_le (by rw [HL.out]; omega)] at hno
      have HF : Hid (IdxPost w l (.returned (.int .i64 (-1))) wr) := Lib.hid ⟨-1, rfl, by omega, by rw [hno, decide_eq_false (by omega)], hB⟩
      clear hno
      subst hkn
      go_wp2
      go_ret
      exact HF.out
theorem contains_any (a : Option Addr) (n c : Nat) (l : List Int) (w : World) (hl : l.length = n) (hn : n ≤ 1000000) (hr : Rd w iR a l) :
  Calls Try.prog 62 #[.slice a n c, .func (.func 63) #[] #[]] w fun e w' => e = .returned (.bool (l.any badB)) ∧ Below w.heap.size w w' := by
  go_enter Try.func62, Try.ntmps62
  go_wp2_with fail
  refine (idx_any a n c l w hl hn hr).mono ?_
  rintro e w' ⟨v, rfl, hv, hany, hB⟩
  have HF := Lib.hid hany
  clear hany hl hr
  go_wp2
  go_ret
  exact ⟨by rw [HF.out]; rfl, hB⟩
end Go.Proofs.Ytmmgcfhoigpomaa
