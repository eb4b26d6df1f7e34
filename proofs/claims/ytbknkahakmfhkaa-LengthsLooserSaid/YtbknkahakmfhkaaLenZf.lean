/- slices.SortStableFunc over an owned row of packs, any number. -/
import Derived.Test.YtbknkahakmfhkaaLenZe
import Derived.Test.YtbknkahakmfhkaaLenT
namespace Go.Proofs.Ytbknkahakmfhkaa
open Go.Shelf Go.RowKit Go.Lib Go.Sort
set_option linter.unusedVariables false
set_option linter.unusedSimpArgs false

theorem srtP_perm (ps : List Pk) : (srtP ps).Perm ps := List.mergeSort_perm _ _
theorem srtP_keys (ps : List Pk) : (srtP ps).map keyP = sortK (ps.map keyP) := by
  rw [sortK_srt]
  unfold srtP srt
  exact List.map_mergeSort (fun a _ b _ => rfl)
set_option maxRecDepth 100000 in
set_option maxHeartbeats 8000000 in
theorem sort_all (w : World) (base g n c : Nat) (ps : List Pk) (h : OwnR w base PK 2 (some ⟨g, 0, none⟩) n c (ps.map pkE)) (hn : n < 1000000) :
  Calls Try.prog 74 #[.slice (some ⟨g, 0, none⟩) n c, .func (.func 75) #[] #[]] w fun e w' =>
    e = .returned (.tuple #[]) ∧ OwnR w' base PK 2 (some ⟨g, 0, none⟩) n c ((srtP ps).map pkE) ∧ w.grownBy w' (some g) := by
  have HH := Lib.hid h
  have hl : Hid (ps.length = n) := Lib.hid (by have := h.2.1; rwa [List.length_map] at this)
  have HS := Lib.hid (stable_any g c n ps.toArray w w ps ⟨pkE_len, pkE_one, h.holds.1, h.holds.2⟩ (by have := hl.out; simpa using this) ⟨ps.toArray, by simp, SWK.start h.holds.1⟩ hl.out hn)
  clear h
  go_enter Try.func74, Try.ntmps74
  go_wp2_with fail
  refine HS.out.mono ?_
  rintro e w1 ⟨rfl, d, hd, m, os, hw⟩
  have HW := Lib.hid hw
  have HD := Lib.hid hd
  clear hw hd
  go_wp2
  go_end0
  exact ⟨rfl, by rw [HW.out, ← HD.out]; exact HH.out.sorted (by rw [← Array.length_toList, HD.out, srtP_len, hl.out]), by rw [HW.out]; exact sorted_grown⟩
end Go.Proofs.Ytbknkahakmfhkaa
