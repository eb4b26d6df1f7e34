/- The fixed calls of the laws on lengths. -/
import Derived.Test.YtbknkahakmfhkaaLenK
import Derived.Test.YtbknkahakmfhkaaPreA
namespace Go.Proofs.Ytbknkahakmfhkaa
open Go.RowKit
set_option linter.unusedVariables false
set_option linter.unusedSimpArgs false

def kindD (l : List Int) : Int := if l.any (fun n => decide (n < 0) || decide (15 < n)) then 0 else if kC l = 0 then 1 else if kC l = 1 ∧ kO l = 1 then 2 else if kW l = 32768 then 3 else 0
theorem kindS_D (l : List Int) : kindS l = kindD l := by
  unfold kindS kindD
  by_cases h : ∃ n ∈ l, kBad n
  · rw [if_pos h, if_pos]
    rw [List.any_eq_true]
    obtain ⟨n, h1, h2⟩ := h
    refine ⟨n, h1, ?_⟩
    unfold kBad at h2
    rcases h2 with h2 | h2 <;> simp [h2]
  · have h3 : ¬ (l.any (fun n => decide (n < 0) || decide (15 < n)) = true) := by
      intro hc
      rw [List.any_eq_true] at hc
      obtain ⟨n, h1, h2⟩ := hc
      refine h ⟨n, h1, ?_⟩
      unfold kBad
      simpa using h2
    rw [if_neg h, if_neg h3]
theorem rd_nat {w : World} {a : Option Addr} {l : List Nat} (h : Rd w zN a l) : Rd w nE a (l.map (fun x : Nat => (x : Int))) := by
  rcases h with rfl | ⟨b, off, rfl, h⟩
  · exact .inl rfl
  · refine .inr ⟨b, off, rfl, fun j x hj => ?_⟩
    rw [List.getElem?_map] at hj
    obtain ⟨y, hy, rfl⟩ := Option.map_eq_some_iff.1 hj
    exact h j y hy
set_option maxHeartbeats 8000000 in
set_option maxRecDepth 100000 in
theorem fixed04_any (w : World) : Calls Try.prog 33 #[] w fun e w' => e = .returned (.bool true) ∧ Below w.heap.size w w' := by
  have hc : ∀ x ∈ ([5, 1, 1] : List Int), ¬ cBad x := by unfold cBad; decide
  have hc1 : ∀ x ∈ ([1, 1, 1] : List Int), ¬ cBad x := by unfold cBad; decide
  have hl : (coinsK [5, 1, 1]).length = 3 := by decide
  have hl1 : (coinsK [1, 1, 1]).length = 3 := by decide
  have k1 : kindS ([1, 2, 2] : List Int) = 3 := by rw [kindS_D]; decide +kernel
  have k2 : kindS ([0, 1] : List Int) = 2 := by rw [kindS_D]; decide +kernel
  have k3 : kindS ([] : List Int) = 1 := by rw [kindS_D]; decide +kernel
  have k4 : kindS ([2] : List Int) = 0 := by rw [kindS_D]; decide +kernel
  have HH := Lib.hid (And.intro hc (And.intro hl (And.intro hc1 hl1)))
  have HK := Lib.hid (And.intro k1 (And.intro k2 (And.intro k3 k4)))
  clear hc hl hc1 hl1 k1 k2 k3 k4
  go_enter Try.func33, Try.ntmps33
  go_wp2_with fail
  refine (best_any _ 3 3 [5, 1, 1] 15 _ rfl (by omega) (rd_new w _ _ _ _ rfl) (by rw [HH.out.2.1]; decide) (by rw [HH.out.2.1]; decide)).mono ?_
  rintro e w1 ⟨hb, h⟩
  rcases h with ⟨h | ⟨x, hx, hx'⟩, -⟩ | ⟨-, -, h, -⟩ | ⟨-, -, -, -, p, d, rfl, hO⟩
  · exact absurd (by decide) h
  · exact absurd hx' (HH.out.1 x hx)
  · rw [HH.out.2.1] at h; exact absurd h (by decide)
  have HB := Lib.hid ((below_alloc w (.cells #[Value.int .i64 5, Value.int .i64 1, Value.int .i64 1] IN)).trans (hb.mono (by simp)))
  rw [show ((15 : Int).toNat) = 15 from rfl, best_511] at hO
  have HO := Lib.hid (hO.mono (Nat.zero_le _))
  clear hb hO
  go_wp2_with fail
  have hal := below_alloc w1 (.cells #[Value.int .i64 1, Value.int .i64 1, Value.int .i64 1] IN)
  refine (best_any _ 3 3 [1, 1, 1] 1 _ rfl (by omega) (rd_new w1 _ _ _ _ rfl) (by rw [HH.out.2.2.2]; decide) (by rw [HH.out.2.2.2]; decide)).mono ?_
  rintro e w2 ⟨hb, h⟩
  rcases h with ⟨h | ⟨x, hx, hx'⟩, -⟩ | ⟨-, -, -, rfl⟩ | ⟨-, -, h, -, -⟩
  · exact absurd (by decide) h
  · exact absurd hx' (HH.out.2.2.1 x hx)
  rotate_left
  · rw [HH.out.2.2.2] at h; exact absurd h (by decide)
  have hb2 := hal.trans (hb.mono (by simp))
  have HB2 := Lib.hid (HB.out.trans (hb2.mono HB.out.size))
  have HO2 := Lib.hid (HO.out.below hb2)
  obtain ⟨gp, rfl, -, -, hcs, -⟩ := HO2.out.row (by decide)
  have q0 : w2.cell? ⟨gp, 0, none⟩ = some (.int .i64 1) := hcs 0 1 rfl
  have q1 : w2.cell? ⟨gp, 1, none⟩ = some (.int .i64 2) := hcs 1 2 rfl
  have q2 : w2.cell? ⟨gp, 2, none⟩ = some (.int .i64 2) := hcs 2 2 rfl
  clear hb hal hb2 hcs HB HO
  go_wp2_with fail
  refine (kind_any _ 3 d [1, 2, 2] _ rfl (by decide) (rd_nat HO2.out.rd)).mono ?_
  rintro e w3 ⟨rfl, rfl⟩
  rw [HK.out.1]
  have HR4 : Hid (Rd ((w3.alloc (.cells #[.int .i64 0, .int .i64 1] IN)).alloc (.cells #[.int .i64 2] IN)) nE (some ⟨w3.heap.size + 1, 0, none⟩) [2]) := Lib.hid (by
    have := rd_new (E := nE) (w3.alloc (.cells #[.int .i64 0, .int .i64 1] IN)) #[.int .i64 2] IN (0, 0) [2] rfl
    rwa [heap_size_alloc] at this)
  go_wp2_with fail
  refine (kind_any _ 2 2 [0, 1] _ rfl (by decide) (rd_new w3 #[.int .i64 0, .int .i64 1] _ _ _ rfl)).mono ?_
  rintro e w4 ⟨rfl, rfl⟩
  rw [HK.out.2.1]
  go_wp2_with fail
  refine (kind_any _ 0 0 [] _ rfl (by decide) Rd.nil).mono ?_
  rintro e w5 ⟨rfl, rfl⟩
  rw [HK.out.2.2.1]
  go_wp2_with fail
  refine (kind_any _ 1 1 [2] _ rfl (by decide) HR4.out).mono ?_
  rintro e w6 ⟨rfl, rfl⟩
  rw [HK.out.2.2.2]
  go_wp2
  go_ret
  exact ⟨rfl, (HB2.out.alloc HB2.out.size _).alloc (by simp; have := HB2.out.size; omega) _⟩
end Go.Proofs.Ytbknkahakmfhkaa
