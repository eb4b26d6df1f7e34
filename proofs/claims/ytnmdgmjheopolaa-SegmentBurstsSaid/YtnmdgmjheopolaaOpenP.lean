/- An argument that is a slice of slices of bytes, opened. -/
import Derived.Test.YtnmdgmjheopolaaOpenS
import Derived.Test.YtnmdgmjheopolaaSegA
namespace Go.Proofs.Ytnmdgmjheopolaa
open Go.ChangeShapes Go.WideShapes Go.ChangeAt Go.RowKit Go.Deep
set_option linter.unusedVariables false
set_option linter.unusedSimpArgs false
section
variable {P : Program} {H : Type} {enc : TypeId × Value → H} {w : World} {t e u : TypeId} {a : Option Addr} {n c : Nat} {d : DataW H} {ps : List MemPlace}
theorem openParts (ht : P.underlying t = some (.slice e)) (he : P.underlying e = some (.slice u)) (hu : P.underlying u = some (.int .u8)) (hce : P.cellsOf e = 1) (hcu : P.cellsOf u = 1)
    (h : DataW.Trod enc P w 0 (fun _ => true) true t (.slice a n c) d ps) :
    ∃ ls : List (List UInt8), n ≤ c ∧ c ≤ maxLen ∧ Parts w a n ls := by
  obtain ⟨fuel, hf⟩ := h
  rcases open_slice1 ht hce hf with ⟨hcs, _⟩ | ⟨x, len, cap, m, k, V, D, Pl, hcs, _, hl, hm, hmm, hx, hi⟩
  · simp [Value.cells] at hcs
    obtain ⟨rfl, rfl, rfl⟩ := hcs
    exact ⟨[], Nat.le_refl _, Nat.zero_le _, [], rfl, rfl, Rd.nil, trivial⟩
  · simp [Value.cells] at hcs
    obtain ⟨rfl, rfl, rfl⟩ := hcs
    have hmc : m = c := by simpa using hmm
    subst hmc
    have hel : ∀ i, i < n → ∃ l, BytesG l (V i) w := by
      intro i hin
      obtain ⟨-, htr⟩ := hi i (by omega)
      have hv : ∃ a' n' c', V i = .slice a' n' c' := by
        rcases open_slice1 he hcu htr with ⟨h1, _⟩ | ⟨x', l', c', _, _, _, _, _, h1, _⟩
        · simp at h1; exact ⟨_, _, _, h1⟩
        · simp at h1; exact ⟨_, _, _, h1⟩
      obtain ⟨a', n', c', hv⟩ := hv
      rw [hv] at htr ⊢
      obtain ⟨l, h1, h2, h3, h4⟩ := openBytesL (enc := enc) (w := w) (P := P) (d := D i) (ps := Pl i) he hu hcu (a := a') (n := n') (c := c') ⟨k, by simpa [Value.cells] using htr⟩
      exact ⟨l, a', n', c', rfl, h1, h4⟩
    have hb : 0 < n → ∃ b off, x = ⟨b, off, none⟩ := by
      intro hin
      have := World.cell?_spot (hi 0 (by omega)).1
      obtain ⟨b, off, spot⟩ := x
      have hs : spot = none := by simpa [Addr.add] using this
      exact ⟨b, off, by rw [hs]⟩
    have hall : ∀ k, k ≤ n → ∃ (vs : List Value) (ls : List (List UInt8)), vs.length = k ∧ ls.length = k ∧ (∀ j v, vs[j]? = some v → w.cell? (x.add j) = some v) ∧ PartsV w vs ls := by
      intro k
      induction k with
      | zero => intro _; exact ⟨[], [], rfl, rfl, by simp, trivial⟩
      | succ k ih =>
        intro hk
        obtain ⟨vs, ls, h1, h2, h3, h4⟩ := ih (by omega)
        obtain ⟨l, hl'⟩ := hel k (by omega)
        refine ⟨vs ++ [V k], ls ++ [l], by simp [h1], by simp [h2], ?_, h4.snoc hl'⟩
        intro j v hj
        rcases Nat.lt_or_ge j vs.length with hlt | hge
        · rw [List.getElem?_append_left hlt] at hj; exact h3 j v hj
        · rw [List.getElem?_append_right hge] at hj
          by_cases hjk : j = vs.length
          · subst hjk
            simp at hj
            subst hj
            rw [h1]; exact (hi k (by omega)).1
          · have : j - vs.length ≠ 0 := by omega
            obtain ⟨q, hq⟩ : ∃ q, j - vs.length = q + 1 := ⟨j - vs.length - 1, by omega⟩
            rw [hq] at hj; simp at hj
    obtain ⟨vs, ls, h1, h2, h3, h4⟩ := hall n (Nat.le_refl _)
    refine ⟨ls, hl, hm, vs, h1, h2, ?_, h4⟩
    by_cases hn : n = 0
    · subst hn; exact .inl (List.eq_nil_of_length_eq_zero h1)
    · obtain ⟨b, off, rfl⟩ := hb (by omega)
      refine .inr ⟨b, off, rfl, fun j v hj => ?_⟩
      have := h3 j v hj
      rw [Addr.add_lit] at this
      exact this
end
end Go.Proofs.Ytnmdgmjheopolaa
