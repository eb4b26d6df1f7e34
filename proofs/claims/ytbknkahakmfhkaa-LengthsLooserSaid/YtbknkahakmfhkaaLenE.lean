/- slices.Grow and slices.Concat at int. -/
import Derived.Test.YtbknkahakmfhkaaLenD
namespace Go.Proofs.Ytbknkahakmfhkaa
open Go.RowKit
set_option linter.unusedVariables false
set_option linter.unusedSimpArgs false

theorem slIn : SlT Try.prog 52 IN (.int .i64 0) 1 8 := ⟨Try.underlying52, by kernel_rfl, rfl⟩
theorem own_zero {α : Type} {w : World} {base g n c : Nat} {e : TypeId} {E : α → Value} {l : List α} (h : Own w base e E (some ⟨g, 0, none⟩) n c l) : Own w base e E (some ⟨g, 0, none⟩) 0 c [] := by
  obtain ⟨⟨h1, h2⟩, h3⟩ := h
  rcases h2 with ⟨h5, _⟩ | ⟨g', cap, cur, hv, hg, hh, hnc, hcm, hcs, htake⟩
  · simp at h5
  · simp only [Value.slice.injEq, Option.some.injEq, Addr.mk.injEq, and_true, true_and] at hv
    obtain ⟨rfl, rfl⟩ := hv
    exact ⟨⟨rfl, .inr ⟨g, c, cur, rfl, hg, hh, Nat.zero_le _, hcm, hcs, by simp⟩⟩, rfl⟩
def GrowP (w : World) (e : Ending) (w' : World) : Prop := Below w.heap.size w w' ∧ ∃ p c, e = .returned (.slice p 0 c) ∧ Own w' w.heap.size IN zN p 0 c []
set_option maxRecDepth 100000 in
set_option maxHeartbeats 8000000 in
theorem sgrowI_any (n : Nat) (w : World) (hn : n ≤ 1000000) :
  Calls Try.prog 124 #[.slice none 0 0, .int .i64 n] w (GrowP w) := by
  by_cases h0 : 0 < n
  · have g1 : (0 : Int) < (n : Int) := by omega
    have g2 : ¬ (n : Int) < 0 := by omega
    go_enter Try.func124, Try.ntmps124
    go_wp2_with (at_builtin; refine wpList_zeros slIn rfl rfl _ _ Try.underlying3 rfl rfl (Own.nil (w := w) (base := w.heap.size) (E := zN)) n rfl rfl h0 0 rfl rfl (by omega) (by unfold maxLen; omega) (Nat.le_refl _) ?_; intro p5 c5 w5 hown5 hg5)
    have HF := Lib.hid (And.intro hown5 ((Own.nil (w := w) (base := w.heap.size) (e := IN) (E := zN)).step (Below.refl _ _) hg5 (Nat.le_refl _)))
    obtain ⟨g, rfl, -, -, -⟩ := hown5.row (by omega)
    have HC := hown5.le_cap
    clear hown5 hg5
    go_wp2
    go_ret
    exact ⟨HF.out.2, _, _, rfl, own_zero HF.out.1⟩
  · have h0' : n = 0 := by omega
    subst h0'
    go_enter Try.func124, Try.ntmps124
    go_wp2
    go_ret
    exact ⟨Below.refl _ _, _, _, rfl, Own.nil⟩
def CatP (w : World) (l : List Nat) (e : Ending) (w' : World) : Prop := Below w.heap.size w w' ∧ ∃ p c, e = .returned (.slice p l.length c) ∧ Own w' w.heap.size IN zN p l.length c l
theorem zOneN (k : List Nat) : ∀ y ∈ k, (zN y).oneCell' = true := fun _ _ => rfl
set_option maxRecDepth 100000 in
set_option maxHeartbeats 8000000 in
theorem concatI_any (b off cap : Nat) (p1 p2 : Option Addr) (n1 c1 n2 c2 : Nat) (l1 l2 : List Nat) (w : World) (hb : b < w.heap.size)
  (k1 : w.cell? ⟨b, off, none⟩ = some (.slice p1 n1 c1)) (k2 : w.cell? ⟨b, off + 1, none⟩ = some (.slice p2 n2 c2)) (h1 : l1.length = n1) (h2 : l2.length = n2)
  (hn1 : n1 ≤ 500000) (hn2 : n2 ≤ 500000) (r1 : Rd w zN p1 l1) (r2 : Rd w zN p2 l2) :
  Calls Try.prog 107 #[.slice (some ⟨b, off, none⟩) 2 cap] w (CatP w (l1 ++ l2)) := by
  have HR := Lib.hid (And.intro r1 (And.intro r2 (And.intro h1 h2)))
  have HK := Lib.hid (And.intro k1 k2)
  clear r1 r2 h1 h2
  go_enter Try.func107, Try.ntmps107
  go_wp2
  go_loopw [3, 11] (fun x3 x11 wr => w = wr ∧ ((x3 = .int .i64 0 ∧ x11 = .int .i64 0) ∨ (x3 = .int .i64 (n1 : Int) ∧ x11 = .int .i64 1) ∨ (x3 = .int .i64 ((n1 : Int) + (n2 : Int)) ∧ x11 = .int .i64 2))) (fun _ x11 _ => 2 - (intOf x11).toNat)
  case atStart => exact ⟨rfl, .inl ⟨rfl, rfl⟩⟩
  case round =>
    obtain ⟨rfl, hrel⟩ := hrel
    rcases hrel with ⟨rfl, rfl⟩ | ⟨rfl, rfl⟩ | ⟨rfl, rfl⟩
    · have g1 : ¬ (n1 : Int) < 0 := by omega
      go_wp2
      go_roundw
      case rel => exact ⟨trivial, .inr (.inl ⟨rfl, rfl⟩)⟩
      case measure => simp [intOf]
    · have g1 : ¬ (n1 : Int) + (n2 : Int) < 0 := by omega
      go_wp2
      go_roundw
      case rel => exact ⟨trivial, .inr (.inr ⟨rfl, rfl⟩)⟩
      case measure => simp [intOf]
    · have HG := Lib.hid (sgrowI_any (n1 + n2) w (by omega))
      rw [Int.natCast_add] at HG
      clear k1 k2
      go_wp2_with fail
      refine HG.out.mono ?_
      rintro e w1 ⟨hB1, q, d, rfl, ho⟩
      have HB1 := Lib.hid hB1
      have HO := Lib.hid ho
      have m1 : w1.cell? ⟨b, off, none⟩ = some (.slice p1 n1 c1) := by
        rw [show w1.cell? ⟨b, off, none⟩ = w.cell? ⟨b, off, none⟩ from World.cell?_of_block (hB1.block b hb)]; exact HK.out.1
      have m2 : w1.cell? ⟨b, off + 1, none⟩ = some (.slice p2 n2 c2) := by
        rw [show w1.cell? ⟨b, off + 1, none⟩ = w.cell? ⟨b, off + 1, none⟩ from World.cell?_of_block (hB1.block b hb)]; exact HK.out.2
      have hs1 := hB1.size
      clear hB1 ho
      go_wp2
      go_loopw [6, 27] (fun x6 x27 wr => (x27 = .int .i64 0 ∧ x6 = .slice q 0 d ∧ wr = w1) ∨ (∃ q1 d1, x27 = .int .i64 1 ∧ x6 = .slice q1 n1 d1 ∧ Own wr w.heap.size IN zN q1 n1 d1 l1 ∧ Below w.heap.size w wr) ∨ (∃ q2 d2, x27 = .int .i64 2 ∧ x6 = .slice q2 (n1 + n2) d2 ∧ Own wr w.heap.size IN zN q2 (n1 + n2) d2 (l1 ++ l2) ∧ Below w.heap.size w wr)) (fun _ x27 _ => 2 - (intOf x27).toNat)
      case atStart => exact .inl ⟨rfl, rfl, rfl⟩
      case round =>
        rcases hrel with ⟨rfl, rfl, rfl⟩ | ⟨q1, d1, rfl, rfl, ho1, hB2⟩ | ⟨q2, d2, rfl, rfl, ho2, hB2⟩
        · go_wp2_with (at_builtin; refine wpList_cat slIn rfl _ _ rfl rfl HO.out rfl HR.out.2.2.1 (HR.out.1.below HB1.out) (zOneN _) (by omega) (by unfold maxLen; omega) hs1 ?_; intro a6 c6 w6 hown6 hg6 _ _)
          have HF := Lib.hid (And.intro hown6 (HO.out.step HB1.out hg6 hs1))
          clear hown6 hg6
          go_roundw
          case rel => exact .inr (.inl ⟨a6, c6, rfl, rfl, by have := HF.out.1; rwa [Nat.zero_add, List.nil_append] at this, HF.out.2⟩)
          case measure => simp [intOf]
        · have hs2 := hB2.size
          have m3 : wr.cell? ⟨b, off + 1, none⟩ = some (.slice p2 n2 c2) := by
            rw [show wr.cell? ⟨b, off + 1, none⟩ = w.cell? ⟨b, off + 1, none⟩ from World.cell?_of_block (hB2.block b hb)]; exact HK.out.2
          have HO2 := Lib.hid (And.intro ho1 hB2)
          clear ho1 hB2
          go_wp2_with (at_builtin; refine wpList_cat slIn rfl _ _ rfl rfl HO2.out.1 rfl HR.out.2.2.2 (HR.out.2.1.below HO2.out.2) (zOneN _) (by omega) (by unfold maxLen; omega) hs2 ?_; intro a6 c6 w6 hown6 hg6 _ _)
          have HF := Lib.hid (And.intro hown6 (HO2.out.1.step HO2.out.2 hg6 hs2))
          clear hown6 hg6
          go_roundw
          case rel => exact .inr (.inr ⟨a6, c6, rfl, rfl, HF.out⟩)
          case measure => simp [intOf]
        · have HF : Hid (CatP w (l1 ++ l2) (.returned (.slice q2 (n1 + n2) d2)) wr) := Lib.hid ⟨hB2, q2, d2, by rw [List.length_append, HR.out.2.2.1, HR.out.2.2.2], by rw [List.length_append, HR.out.2.2.1, HR.out.2.2.2]; exact ho2⟩
          clear ho2 hB2
          go_wp2
          go_ret
          exact HF.out
end Go.Proofs.Ytbknkahakmfhkaa
