/- A code: Signs, longest, Put. -/
import Derived.Test.YtgcdeadfkljeaaaPreC
import Derived.Test.YtgcdeadfkljeaaaPreE
import Derived.Test.YtgcdeadfkljeaaaBitW
import Derived.Test.YtgcdeadfkljeaaaRev
namespace Go.Proofs.Ytgcdeadfkljeaaa
open Go.RowKit
set_option linter.unusedVariables false
set_option linter.unusedSimpArgs false

/-- The longest word's bits, up to k. -/
def lgF (l : List Int) : Nat → Nat
  | 0 => 0
  | k + 1 => if cn l (k + 1) = 0 then lgF l k else k + 1
theorem lgF_le (l : List Int) : ∀ k, lgF l k ≤ k
  | 0 => Nat.le_refl _
  | k + 1 => by unfold lgF; have := lgF_le l k; split <;> omega
section
variable {w : World} {g : Nat} {T : TypeId} {va vb vq : Value} {f : Nat → Nat}
theorem code_cnt (h : Arr w g T 19 (codeF va vb vq f)) {k : Nat} (hk : k < 16) : w.cell? ⟨g, 2 + k, none⟩ = some (.int .i64 ((f k : Nat) : Int)) := by
  have := h.cell (k := 2 + k) (by omega)
  unfold codeF at this
  rw [if_neg (by omega), if_neg (by omega), if_pos (by omega), show 2 + k - 2 = k by omega] at this
  exact this
theorem code_a (h : Arr w g T 19 (codeF va vb vq f)) : w.cell? ⟨g, 0, none⟩ = some va := h.cell (k := 0) (by omega)
theorem code_b (h : Arr w g T 19 (codeF va vb vq f)) : w.cell? ⟨g, 1, none⟩ = some vb := h.cell (k := 1) (by omega)
theorem code_q (h : Arr w g T 19 (codeF va vb vq f)) : w.cell? ⟨g, 18, none⟩ = some vq := h.cell (k := 18) (by omega)
end
set_option maxRecDepth 100000 in
set_option maxHeartbeats 4000000 in
theorem longest_any (g : Nat) (l : List Int) (w : World) (h : CodeOk w g l) : Calls Try.prog 106 #[.pointer (some ⟨g, 0, none⟩)] w fun e w' => e = .returned (.int .i64 ((lgF l 15 : Nat) : Int)) ∧ w' = w := by
  obtain ⟨a, p, q, n, c, m, d, o, h1, h2, h3, h4, h5, h6, h7⟩ := h.ex
  have HA := Lib.hid h1
  clear h h1 h4 h5 h6 h7
  go_enter Try.func106, Try.ntmps106
  go_wp2
  go_loop [3] (fun x3 => ∃ k : Nat, k ≤ 15 ∧ x3 = .int .i64 k ∧ Hid (lgF l k = lgF l 15)) (fun x3 => (intOf x3).toNat)
  case atStart => exact ⟨15, by omega, rfl, Lib.hid rfl⟩
  case round =>
    obtain ⟨k, hk, rfl, hlg⟩ := hrel
    by_cases h0 : k = 0
    · subst h0
      have HE : Hid (lgF l 15 = 0) := Lib.hid (by rw [← hlg.out]; rfl)
      go_wp2
      go_ret
      exact ⟨by rw [HE.out]; rfl, rfl⟩
    · obtain ⟨j, rfl⟩ : ∃ j, k = j + 1 := ⟨k - 1, by omega⟩
      have k1 := code_cnt HA.out (k := j + 1) (by omega)
      by_cases hc : cn l (j + 1) = 0
      · rw [hc] at k1
        have HE : Hid (lgF l j = lgF l 15) := Lib.hid (by rw [← hlg.out]; unfold lgF; rw [if_pos hc]; cases j <;> rfl)
        go_wp2
        go_round
        case rel => exact ⟨j, by omega, by go_num, HE.out |> Lib.hid⟩
        case measure => simp [intOf] <;> omega
      · have HE : Hid (lgF l 15 = j + 1) := Lib.hid (by rw [← hlg.out]; unfold lgF; rw [if_neg hc])
        have g1 : (((cn l (j + 1) : Nat) : Int) == 0) = false := by simp; omega
        generalize cn l (j + 1) = z at *
        go_wp2
        go_ret
        exact ⟨ret_int (by rw [HE.out]; rfl), rfl⟩
theorem bitsL_revN (v n : Nat) (hv : v < 4294967296) (hn : n ≤ 32) : bitsL (revN v n) n = wb n v := by
  have hl : (bitsL v n).reverse.length = n := by rw [List.length_reverse, bitsL_length]
  rw [revN_num v n hv hn, numL_numF _ (by rw [hl]; exact hn)]
  have := bitsL_numF (bitsL v n).reverse
  rw [hl] at this
  exact this
/-- May the sign be written? -/
def putOk (l : List Int) (s : Int) : Prop := 0 ≤ s ∧ s < (l.length : Int) ∧ l.getD s.toNat 0 ≠ 0
open Classical in
noncomputable def putEr (l : List Int) (s : Int) : Int := if putOk l s then 0 else 5
open Classical in
noncomputable def putBits (l : List Int) (s : Int) (all : List Bool) : List Bool := if putOk l s then all ++ wb (l.getD s.toNat 0).toNat (wv l s.toNat) else all
end Go.Proofs.Ytgcdeadfkljeaaa
