/- What lengths.Best lays, in keys. -/
import Derived.Test.YtbknkahakmfhkaaLenI
import Derived.Test.YtbknkahakmfhkaaLenH
namespace Go.Proofs.Ytbknkahakmfhkaa
open Go.RowKit
set_option linter.unusedVariables false
set_option linter.unusedSimpArgs false

/-- The row behind t rounds. -/
def rowK (c : List (Int × List Nat)) : Nat → List (Int × List Nat)
  | 0 => c
  | t + 1 => sortK (c ++ pairK (rowK c t))
theorem pairK_len : ∀ l : List (Int × List Nat), (pairK l).length = l.length / 2
  | [] => rfl
  | [_] => by simp [pairK]
  | _ :: _ :: r => by
    show (pairK r).length + 1 = (r.length + 2) / 2
    rw [pairK_len r]; omega
theorem rowK_len (c : List (Int × List Nat)) : ∀ t, c.length ≤ (rowK c t).length ∧ (rowK c t).length ≤ 2 * c.length
  | 0 => ⟨Nat.le_refl _, by show c.length ≤ _; omega⟩
  | t + 1 => by
    obtain ⟨h1, h2⟩ := rowK_len c t
    show c.length ≤ (sortK (c ++ pairK (rowK c t))).length ∧ (sortK (c ++ pairK (rowK c t))).length ≤ _
    rw [sortK_len, List.length_append, pairK_len]
    omega
def bumpL (out : List Nat) (s : Nat) : List Nat := out.set s (out.getD s 0 + 1)
def cntK (out : List Nat) (ks : List (Int × List Nat)) : List Nat := (ks.flatMap (·.2)).foldl bumpL out
/-- The lengths, where two signs or more come. -/
def bestK (l : List Int) (m : Nat) : List Nat := cntK (List.replicate l.length 0) ((rowK (sortK (coinsK l)) (m - 1)).take (2 * (coinsK l).length - 2))
theorem OwnR.some {w : World} {base m n c : Nat} {e : TypeId} {a : Option Addr} {rs : List (List Value)} (h : OwnR w base e m a n c rs) (hn : 0 < n) : ∃ g, a = Option.some ⟨g, 0, none⟩ ∧ base ≤ g ∧ g < w.heap.size := by
  obtain ⟨⟨h1, h2⟩, h3, h4⟩ := h
  rcases h2 with ⟨h5, h6⟩ | ⟨g', cap, cur, hv, hg, hh, _⟩
  · omega
  · simp only [Value.slice.injEq] at hv
    exact ⟨g', hv.1, hg, (Array.getElem?_eq_some_iff.1 hh).1⟩
theorem pairK_mem : ∀ (l : List (Int × List Nat)) (B : Nat) (N : Nat), (∀ x ∈ l, 0 ≤ x.1 ∧ x.1 ≤ (B : Int) ∧ x.2.length ≤ N) → ∀ x ∈ pairK l, 0 ≤ x.1 ∧ x.1 ≤ ((2 * B : Nat) : Int) ∧ x.2.length ≤ 2 * N
  | [], _, _, _ => fun x hx => by simp [pairK] at hx
  | [_], _, _, _ => fun x hx => by simp [pairK] at hx
  | a :: b :: r, B, N, h => fun x hx => by
    have ha := h a (by simp)
    have hb := h b (by simp)
    rcases List.mem_cons.1 (show x ∈ (a.1 + b.1, a.2 ++ b.2) :: pairK r from hx) with rfl | hx
    · refine ⟨?_, ?_, ?_⟩
      · show 0 ≤ a.1 + b.1; omega
      · show a.1 + b.1 ≤ _; omega
      · show (a.2 ++ b.2).length ≤ _; rw [List.length_append]; omega
    · exact pairK_mem r B N (fun y hy => h y (List.mem_cons_of_mem _ (List.mem_cons_of_mem _ hy))) x hx
theorem rowK_mem (c : List (Int × List Nat)) (hc : ∀ x ∈ c, 0 ≤ x.1 ∧ x.1 ≤ 16777216 ∧ x.2.length ≤ 1) : ∀ t, ∀ x ∈ rowK c t, 0 ≤ x.1 ∧ x.1 ≤ ((2 ^ t * 16777216 : Nat) : Int) ∧ x.2.length ≤ 2 ^ t
  | 0 => fun x hx => by have := hc x hx; simpa using this
  | t + 1 => fun x hx => by
    have hx : x ∈ sortK (c ++ pairK (rowK c t)) := hx
    rw [(sortK_perm _).mem_iff] at hx
    have h1 : 1 ≤ 2 ^ t := Nat.one_le_two_pow
    rw [Nat.pow_succ]
    rcases List.mem_append.1 hx with hx | hx
    · have := hc x hx
      refine ⟨this.1, by omega, by omega⟩
    · have := pairK_mem (rowK c t) (2 ^ t * 16777216) (2 ^ t) (rowK_mem c hc t) x hx
      refine ⟨this.1, by omega, by omega⟩
theorem coinsF_sign : ∀ (l : List Int) (i : Nat), ∀ y ∈ coinsF i l, ∀ s ∈ y.2, s < i + l.length
  | [], _, y, hy => by simp [coinsF] at hy
  | x :: r, i, y, hy => fun s hs => by
    rw [List.length_cons]
    unfold coinsF at hy
    rcases List.mem_append.1 hy with hy | hy
    · split at hy
      · rw [List.mem_singleton.1 hy] at hs
        have : s = i := by simpa using hs
        omega
      · cases hy
    · have := coinsF_sign r (i + 1) y hy s hs
      omega
theorem pairK_sign : ∀ (l : List (Int × List Nat)) (N : Nat), (∀ x ∈ l, ∀ s ∈ x.2, s < N) → ∀ x ∈ pairK l, ∀ s ∈ x.2, s < N
  | [], _, _ => fun x hx => by simp [pairK] at hx
  | [_], _, _ => fun x hx => by simp [pairK] at hx
  | a :: b :: r, N, h => fun x hx s hs => by
    rcases List.mem_cons.1 (show x ∈ (a.1 + b.1, a.2 ++ b.2) :: pairK r from hx) with rfl | hx
    · rcases List.mem_append.1 (show s ∈ a.2 ++ b.2 from hs) with hs | hs
      · exact h a (by simp) s hs
      · exact h b (by simp) s hs
    · exact pairK_sign r N (fun y hy => h y (List.mem_cons_of_mem _ (List.mem_cons_of_mem _ hy))) x hx s hs
theorem rowK_sign (c : List (Int × List Nat)) (N : Nat) (hc : ∀ x ∈ c, ∀ s ∈ x.2, s < N) : ∀ t, ∀ x ∈ rowK c t, ∀ s ∈ x.2, s < N
  | 0 => hc
  | t + 1 => fun x hx s hs => by
    have hx : x ∈ sortK (c ++ pairK (rowK c t)) := hx
    rw [(sortK_perm _).mem_iff] at hx
    rcases List.mem_append.1 hx with hx | hx
    · exact hc x hx s hs
    · exact pairK_sign (rowK c t) N (rowK_sign c N hc t) x hx s hs
set_option maxRecDepth 100000 in
theorem best_511 : bestK [5, 1, 1] 15 = [1, 2, 2] := by decide +kernel
end Go.Proofs.Ytbknkahakmfhkaa
