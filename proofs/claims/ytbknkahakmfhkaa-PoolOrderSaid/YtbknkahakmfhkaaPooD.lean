/- The document's Form, none, tagged, right of constants. -/
import Derived.Test.YtbknkahakmfhkaaPooA
namespace Go.Proofs.Ytbknkahakmfhkaa
open Go.RowKit
set_option linter.unusedVariables false
set_option linter.unusedSimpArgs false

def formT (t : Int) : Int := if t = 1 then 116 else if t = 3 ∨ t = 4 then 52 else if t = 5 ∨ t = 6 then 56 else if t = 7 ∨ t = 8 then 97 else if t = 9 ∨ t = 10 ∨ t = 11 ∨ t = 12 then 98 else 0
set_option maxRecDepth 100000 in
set_option maxHeartbeats 8000000 in
theorem form_any (t : Int) (w : World) : Calls Try.prog 82 #[.int .i64 t] w fun e w' => e = .returned (.int .u8 (formT t)) ∧ w' = w := by
  by_cases h : t = 1 ∨ t = 3 ∨ t = 4 ∨ t = 5 ∨ t = 6 ∨ t = 7 ∨ t = 8 ∨ t = 9 ∨ t = 10 ∨ t = 11 ∨ t = 12
  · rcases h with rfl | rfl | rfl | rfl | rfl | rfl | rfl | rfl | rfl | rfl | rfl
    all_goals
      go_enter Try.func82, Try.ntmps82
      go_wp2
      go_ret
      exact ⟨rfl, rfl⟩
  have hz : formT t = 0 := by unfold formT; rw [if_neg (by omega), if_neg (by omega), if_neg (by omega), if_neg (by omega), if_neg (by omega)]
  rw [hz]
  have g1 : (t == 1) = false := by simp; omega
  have g3 : (t == 3) = false := by simp; omega
  have g4 : (t == 4) = false := by simp; omega
  have g5 : (t == 5) = false := by simp; omega
  have g6 : (t == 6) = false := by simp; omega
  have g7 : (t == 7) = false := by simp; omega
  have g8 : (t == 8) = false := by simp; omega
  have g9 : (t == 9) = false := by simp; omega
  have g10 : (t == 10) = false := by simp; omega
  have g11 : (t == 11) = false := by simp; omega
  have g12 : (t == 12) = false := by simp; omega
  clear h hz
  go_enter Try.func82, Try.ntmps82
  go_wp2
  go_ret
  exact ⟨rfl, rfl⟩
def NoneP (n : Nat) (i : Int) (w : World) (e : Ending) (w' : World) : Prop := w' = w ∧ ∃ B : Bool, e = .returned (.bool B) ∧ (B = false → 1 ≤ i ∧ i < (n : Int))
set_option maxRecDepth 100000 in
set_option maxHeartbeats 8000000 in
theorem none_any (a : Option Addr) (n c : Nat) (l : List RawK) (i : Int) (w : World) (hl : l.length = n) (hn : n ≤ maxLen) (hr : RdW w a l) : Calls Try.prog 129 #[.slice a n c, .int .i64 i] w (NoneP n i w) := by
  unfold maxLen at hn
  by_cases h1 : i < 1
  · have HF : Hid (NoneP n i w (.returned (.bool true)) w) := Lib.hid ⟨rfl, true, rfl, fun h => by cases h⟩
    clear hl hr
    go_enter Try.func129, Try.ntmps129
    go_wp2
    go_ret
    exact HF.out
  by_cases h2 : (n : Int) ≤ i
  · have HF : Hid (NoneP n i w (.returned (.bool true)) w) := Lib.hid ⟨rfl, true, rfl, fun h => by cases h⟩
    clear hl hr
    go_enter Try.func129, Try.ntmps129
    go_wp2
    go_ret
    exact HF.out
  obtain ⟨k, rfl⟩ : ∃ k : Nat, i = (k : Int) := ⟨i.toNat, by omega⟩
  have hk : 1 ≤ k ∧ k < n := by omega
  have hkl : k < l.length := by omega
  have hk1 : k - 1 < l.length := by omega
  obtain ⟨b, off, rfl, hc⟩ := hr.at hkl
  obtain ⟨b', off', hb', hc'⟩ := hr.at hk1
  simp only [Option.some.injEq, Addr.mk.injEq, and_true] at hb'
  obtain ⟨rfl, rfl⟩ := hb'
  have c0 := hc.c0
  have c1 := hc'.c0
  generalize l[k].tag = t at c0
  generalize l[k - 1].tag = t1 at c1
  have HF1 : Hid (NoneP n k w (.returned (.bool true)) w) := Lib.hid ⟨rfl, true, rfl, fun h => by cases h⟩
  have HF0 : Hid (NoneP n k w (.returned (.bool false)) w) := Lib.hid ⟨rfl, false, rfl, fun h => by omega⟩
  have g1 : ¬ (k : Int) < 1 := by omega
  have g2 : ¬ (n : Int) ≤ (k : Int) := by omega
  have g2' : ¬ n ≤ k := by omega
  have gk1 : (k : Int) - 1 = ((k - 1 : Nat) : Int) := by omega
  clear hl hr hc hc' hkl hk1 h1 h2
  by_cases ht : t = 0
  · subst ht
    go_enter Try.func129, Try.ntmps129
    go_wp2
    go_ret
    exact HF1.out
  have g3 : (t == 0) = false := by simpa using ht
  by_cases hk2 : 1 < k
  · have g4 : (1 : Int) < (k : Int) := by omega
    have HFm := Lib.hid (form_any t1 w)
    by_cases h56 : formT t1 = 56
    · rw [h56] at HFm
      clear h56
      go_enter Try.func129, Try.ntmps129
      go_wp2_with fail
      refine HFm.out.mono ?_
      rintro e w' ⟨rfl, rfl⟩
      go_wp2
      go_ret
      exact HF1.out
    · have g5 : (formT t1 == 56) = false := by simpa using h56
      generalize formT t1 = f at HFm g5
      clear h56
      go_enter Try.func129, Try.ntmps129
      go_wp2_with fail
      refine HFm.out.mono ?_
      rintro e w' ⟨rfl, rfl⟩
      go_wp2
      go_ret
      exact HF0.out
  · have hk1 : k = 1 := by omega
    subst hk1
    rw [show ((1 : Nat) : Int) = 1 from rfl] at HF0 ⊢
    have g2a : ¬ (n : Int) ≤ 1 := by omega
    have g2b : ¬ n ≤ 1 := by omega
    go_enter Try.func129, Try.ntmps129
    go_wp2
    go_ret
    exact HF0.out
def TagP (n : Nat) (l : List RawK) (i t : Int) (w : World) (e : Ending) (w' : World) : Prop := w' = w ∧ ∃ B : Bool, e = .returned (.bool B) ∧ (B = true → ∃ k : Nat, i = (k : Int) ∧ k < n ∧ ∃ r, l[k]? = some r ∧ r.tag = t)
set_option maxRecDepth 100000 in
set_option maxHeartbeats 8000000 in
theorem tagged_any (a : Option Addr) (n c : Nat) (l : List RawK) (i t : Int) (w : World) (hl : l.length = n) (hn : n ≤ maxLen) (hr : RdW w a l) : Calls Try.prog 111 #[.slice a n c, .int .i64 i, .int .i64 t] w (TagP n l i t w) := by
  have HN := Lib.hid (none_any a n c l i w hl hn hr)
  have HH := Lib.hid (And.intro hl hr)
  unfold maxLen at hn
  clear hl hr
  go_enter Try.func111, Try.ntmps111
  go_wp2_with fail
  refine HN.out.mono ?_
  rintro e w1 ⟨rfl, B, rfl, hB⟩
  cases B with
  | true =>
    have HF : Hid (TagP n l i t w1 (.returned (.bool false)) w1) := Lib.hid ⟨rfl, false, rfl, fun h => by cases h⟩
    clear hB
    go_wp2
    go_ret
    exact HF.out
  | false =>
    have h1 := hB rfl
    obtain ⟨k, rfl⟩ : ∃ k : Nat, i = (k : Int) := ⟨i.toNat, by omega⟩
    have hk : k < n := by omega
    have hkl : k < l.length := by rw [HH.out.1]; exact hk
    obtain ⟨b, off, rfl, hc⟩ := HH.out.2.at hkl
    have c0 := hc.c0
    have HK : Hid (∀ B : Bool, (B = true → l[k].tag = t) → TagP n l k t w1 (.returned (.bool B)) w1) := Lib.hid (fun B hB => ⟨rfl, B, rfl, fun h => ⟨k, rfl, hk, _, List.getElem?_eq_getElem hkl, hB h⟩⟩)
    generalize l[k].tag = t1 at c0 HK
    clear hc hB h1 hkl
    by_cases ht : t1 = t
    · have HF := Lib.hid (HK.out true (fun _ => ht))
      subst ht
      have g : (t1 == t1) = true := by simp
      clear HK
      go_wp2
      go_ret
      exact HF.out
    · have HF := Lib.hid (HK.out false (fun h => by cases h))
      have g : (t1 == t) = false := by simpa using ht
      clear HK ht
      go_wp2
      go_ret
      exact HF.out
end Go.Proofs.Ytbknkahakmfhkaa
