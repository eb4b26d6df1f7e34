/- The units law's walk. -/
import Derived.Test.YtbknkahakmfhkaaDoorUtfM
namespace Go.Proofs.YtbknkahakmfhkaaDoor
open Go.RowKit
set_option linter.unusedVariables false
set_option linter.unusedSimpArgs false

set_option maxRecDepth 100000 in
set_option maxHeartbeats 16000000 in
theorem unitsLaw_any (p : Option Addr) (n c : Nat) (us : List Nat) (w : World) (hn : us.length = n) (hr : Rd w hE p us) (hu : ∀ x ∈ us, x < 65536) (hT : Hid (Tabs w)) :
  Calls Tryd.prog 4 #[.slice p n c] w (BoolPost true w) := by
  have HN := Lib.hid (And.intro hn (And.intro hr hu))
  clear hn hr hu
  go_enter Tryd.func4, Tryd.ntmps4
  go_wp2_with fail
  refine (fixed_any w hT).mono ?_
  rintro e w1 ⟨rfl, hB1⟩
  have HB1 := Lib.hid hB1
  clear hB1
  by_cases h1 : 300 < n
  · have g1 : (300 : Int) < (n : Int) := by omega
    go_wp2
    go_ret
    exact ⟨rfl, HB1.out⟩
  have g1 : ¬ (300 : Int) < (n : Int) := by omega
  have hbl : (bytU us).length ≤ 1000000 := by have := bytU_len us; have := HN.out.1; omega
  go_wp2_with fail
  refine (bytes_any p n c us w1 HN.out.1 (by omega) (HN.out.2.1.below HB1.out) HN.out.2.2).mono ?_
  rintro e w2 ⟨rfl, hB2⟩
  have HB2 := Lib.hid (HB1.out.trans (hB2.mono HB1.out.size))
  clear hB2
  obtain ⟨s, hs⟩ : ∃ s, s = strOf (bytU us) := ⟨_, rfl⟩
  have HS := Lib.hid hs
  rw [← hs]
  clear hs
  have g2 : (s.toList == s.toList) = true := beq_self_eq_true _
  have HUB := Lib.hid (units_bytes us HN.out.2.2)
  go_wp2_with fail
  refine (units_any s (bytU us) w2 HS hbl).mono ?_
  rintro e w3 ⟨hB3, h⟩
  have HB4 := Lib.hid (HB2.out.trans (hB3.mono HB2.out.size))
  clear hB3
  rcases h with ⟨h, -⟩ | ⟨vs, q, d, h, rfl, ho⟩
  · rw [HUB.out] at h; cases h
  rw [HUB.out] at h
  obtain rfl : us = vs := Option.some.inj h
  have HO := Lib.hid ho.rd
  rw [HN.out.1]
  clear h ho
  go_wp2_with fail
  refine (rbytes_any p n c us w3 HN.out.1 (by omega) (HN.out.2.1.below HB4.out) HN.out.2.2).mono ?_
  rintro e w4 ⟨rfl, hB5⟩
  have HB5 := Lib.hid (HB4.out.trans (hB5.mono HB4.out.size))
  have HO2 := Lib.hid (HO.out.below hB5)
  clear hB5 HO
  rw [← HS.out]
  go_wp2
  go_loopw [36] (fun x36 wr => ∃ (i : Nat), i ≤ n ∧ x36 = .int .i64 i ∧ Hid (Below w4.heap.size w4 wr)) (fun x36 _ => n - (intOf x36).toNat)
  case atStart => exact ⟨0, Nat.zero_le _, rfl, Lib.hid (Below.refl _ _)⟩
  case round =>
    obtain ⟨i, hi, rfl, hBw⟩ := hrel
    have HDN : Hid (∀ k, Below w4.heap.size w4 (wr.drewN k)) := Lib.hid (fun k => hBw.out.trans (below_drewN_iff.2 (Below.refl _ _)))
    have HB6 : Hid (Below w.heap.size w wr) := Lib.hid (HB5.out.trans (hBw.out.mono HB5.out.size))
    by_cases hin : i < n
    · have hil : i < us.length := by rw [HN.out.1]; exact hin
      obtain ⟨b, off, rfl, -, hc⟩ := (HN.out.2.1.below HB6.out).at hil
      replace hc : wr.cell? ⟨b, off + i, none⟩ = some (.int .u16 ((us[i] : Nat) : Int)) := hc
      obtain ⟨b2, off2, rfl, -, hc2⟩ := (HO2.out.below hBw.out).at hil
      replace hc2 : wr.cell? ⟨b2, off2 + i, none⟩ = some (.int .u16 ((us[i] : Nat) : Int)) := hc2
      generalize us[i] = u at *
      have g6 : (i : Int) < (n : Int) := by omega
      have g7 : ((u : Int) != (u : Int)) = false := by simp
      go_wp2
      go_quiet (fail)
      go_wp2
      go_roundw
      case rel => exact ⟨i + 1, by omega, by go_num, Lib.hid (HDN.out _)⟩
      case measure => simp [intOf] <;> omega
    · have hin' : i = n := by omega
      subst hin'
      go_wp2
      go_ret
      exact ⟨rfl, HB6.out⟩
end Go.Proofs.YtbknkahakmfhkaaDoor
