/- slices.Clone at packs. -/
import Derived.Test.YtbknkahakmfhkaaLenF
namespace Go.Proofs.Ytbknkahakmfhkaa
open Go.RowKit
set_option linter.unusedVariables false
set_option linter.unusedSimpArgs false

theorem ownR_empty (w : World) {base m : Nat} {e : TypeId} (hb : base ≤ w.heap.size) : OwnR (w.alloc (.cells #[] e)) base e m (some ⟨w.heap.size, 0, none⟩) 0 0 [] :=
  ⟨⟨by simp, .inr ⟨w.heap.size, 0, #[], rfl, hb, Blk.new w e _, Nat.le_refl _, Nat.zero_le _, by simp, by simp⟩⟩, rfl, fun _ h => by cases h⟩
set_option maxRecDepth 100000 in
set_option maxHeartbeats 8000000 in
theorem cloneP_any (g n c e1 : Nat) (l : List Pk) (w : World) (h : OwnR w e1 PK 2 (some ⟨g, 0, none⟩) n c (l.map pkE)) (hn : n ≤ 500000) :
  Calls Try.prog 76 #[.slice (some ⟨g, 0, none⟩) n c] w (CatR w n l) := by
  have HH := Lib.hid h
  have HE := Lib.hid (ownR_empty w (base := w.heap.size) (m := 2) (e := PK) (Nat.le_refl _))
  have hnil := fun w => Lib.run_eql_slice_nil (P := Try.prog) w 100 PK (some ⟨g, 0, none⟩) n c 0 0 Try.underlying100
  clear h
  go_enter Try.func76, Try.ntmps76
  go_wp2_with (at_builtin; refine wpList_catR slPk (by decide) rfl _ _ rfl rfl HE.out rfl (HH.out.below (below_alloc w (.cells #[] PK))) (pkOnes _) (by omega) (by unfold maxLen; omega) (by simp) ?_; intro a6 c6 w6 hown6 hg6; simp only [Nat.zero_add, List.nil_append] at hown6)
  have HF := Lib.hid (And.intro hown6 (HE.out.step (below_alloc w (.cells #[] PK)) hg6 (by simp)))
  clear hown6 hg6
  go_wp2
  go_ret
  exact ⟨HF.out.2, a6, c6, rfl, HF.out.1⟩
end Go.Proofs.Ytbknkahakmfhkaa
