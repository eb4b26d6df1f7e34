/- Runes of a text, one by one; utf.Encode. -/
import Derived.Test.YtbknkahakmfhkaaDoorUtfC
import Derived.Test.YtbknkahakmfhkaaDoorUtfV
import Derived.Laws.RangeString
import Derived.Lib.MapLaws
import Derived.Lib.ValidLaws
import Derived.Lib.TrimUEq
namespace Go.Proofs.YtbknkahakmfhkaaDoor
open Go.RowKit
set_option linter.unusedVariables false
set_option linter.unusedSimpArgs false

theorem Tabs.below {w w' : World} (h : Tabs w) (hb : Below w.heap.size w w') : Tabs w' := by
  have hc : ∀ (a : Addr) (v : Value), w.cell? a = some v → w'.cell? a = some v := fun a v hc => (hb.cell (World.block_lt_of_cell? w _ hc)).trans hc
  unfold Tabs Lib.Utf8Tabs at h ⊢
  exact ⟨fun c hcl => hc _ _ (h.1 c hcl), fun i hi => ⟨hc _ _ (h.2 i hi).1, hc _ _ (h.2 i hi).2⟩⟩
/-- A text that is ranged over, on. -/
def setIt (w : World) (g : Nat) (s : ByteArray) (p : Nat) : World := { w with heap := w.heap.setIfInBounds g (.stringIter s p) }
theorem setIt_same {w : World} {g : Nat} {s : ByteArray} {p : Nat} (h : g < w.heap.size) : (setIt w g s p).heap[g]? = some (.stringIter s p) := by
  simp [setIt, h]
theorem grownBy_setIt (w : World) (g : Nat) (s : ByteArray) (p : Nat) : w.grownBy (setIt w g s p) (some g) :=
  ⟨rfl, rfl, rfl, by simp [setIt], fun k hk hne => by
    have : g ≠ k := fun e => hne (by rw [e])
    show (w.heap.setIfInBounds g _)[k]? = _
    rw [Array.getElem?_setIfInBounds, if_neg this]⟩
section
variable {P : Program} {w : World} {g pos : Nat} {s : ByteArray}
theorem run_next_it (h : w.heap[g]? = some (.stringIter s pos)) (hp : pos < s.size) (ty : TypeId) : (Instr.next (.pointer (some ⟨g, 0, none⟩)) true ty).run P w = .ok (.tuple #[.bool true, .int .i64 pos, .int .i32 ((Utf8.decode s pos).1 : Nat)]) (setIt w g s (pos + (Utf8.decode s pos).2)) := by
  simp only [Instr.next, getObj, setObj, Sem.run_bind, Sem.run, h, Result.andThen, hp, if_true]
  simp [goInt, Sem.run, h, setIt]
theorem run_next_it_end (h : w.heap[g]? = some (.stringIter s pos)) (hp : ¬ pos < s.size) (ty : TypeId) : (Instr.next (.pointer (some ⟨g, 0, none⟩)) true ty).run P w = .ok (.tuple #[.bool false]) w := by
  simp [Instr.next, getObj, Sem.run, h, hp]
end
/-- The runes of a text. -/
def runesL : Nat → List UInt8 → List Nat
  | _, [] => []
  | 0, _ :: _ => []
  | k + 1, b :: r => (Lib.decodeL (b :: r)).1 :: runesL k ((b :: r).drop (Lib.decodeL (b :: r)).2)
def runesOf (l : List UInt8) : List Nat := runesL l.length l
theorem runesL_fuel : ∀ (k j : Nat) (l : List UInt8), l.length ≤ k → l.length ≤ j → runesL k l = runesL j l
  | k, j, [], _, _ => by cases k <;> cases j <;> rfl
  | 0, _, b :: r, h, _ => by simp at h
  | k + 1, 0, b :: r, _, h => by simp at h
  | k + 1, j + 1, b :: r, h1, h2 => by
    unfold runesL
    have := Lib.decodeL_width (b :: r)
    rw [runesL_fuel k j _ (by rw [List.length_drop]; simp at h1 ⊢; omega) (by rw [List.length_drop]; simp at h2 ⊢; omega)]
theorem runesOf_step {l : List UInt8} (h : l ≠ []) : runesOf l = (Lib.decodeL l).1 :: runesOf (l.drop (Lib.decodeL l).2) := by
  cases l with
  | nil => exact absurd rfl h
  | cons b r =>
    unfold runesOf
    rw [List.length_cons]
    conv => lhs; unfold runesL
    congr 1
    have := Lib.decodeL_width (b :: r)
    exact runesL_fuel _ _ _ (by rw [List.length_drop]; simp; omega) (Nat.le_refl _)
/-- A rune's units. -/
def uniR (c : Nat) : List Nat := if c < 65536 then [c] else [55296 + (c - 65536) / 1024, 56320 + (c - 65536) % 1024]
def unisOf (l : List UInt8) : List Nat := (runesOf l).flatMap uniR
theorem unisOf_step {l : List UInt8} (h : l ≠ []) : unisOf l = uniR (Lib.decodeL l).1 ++ unisOf (l.drop (Lib.decodeL l).2) := by
  unfold unisOf; rw [runesOf_step h, List.flatMap_cons]
theorem uniR_lt {c : Nat} (h : c ≤ 1114111) : ∀ x ∈ uniR c, x < 65536 := by
  unfold uniR
  intro x hx
  split at hx
  · simp at hx; omega
  · simp at hx; omega
theorem unisOf_lt : ∀ (n : Nat) (l : List UInt8), l.length ≤ n → (∀ x ∈ unisOf l, x < 65536) ∧ (unisOf l).length ≤ 2 * l.length
  | _, [], _ => ⟨fun x hx => by simp [unisOf, runesOf, runesL] at hx, by simp [unisOf, runesOf, runesL]⟩
  | 0, b :: r, h => by simp at h
  | n + 1, b :: r, h => by
    have h1 := Lib.decodeL_width (b :: r)
    have h2 := Lib.decodeL_rune (b :: r)
    have h3 := Lib.decodeL_le (b :: r) (by simp)
    obtain ⟨h4, h5⟩ := unisOf_lt n ((b :: r).drop (Lib.decodeL (b :: r)).2) (by rw [List.length_drop]; simp at h ⊢; omega)
    rw [unisOf_step (by simp)]
    refine ⟨fun x hx => ?_, ?_⟩
    · rcases List.mem_append.1 hx with hx | hx
      · exact uniR_lt h2 x hx
      · exact h4 x hx
    · rw [List.length_append]
      rw [List.length_drop] at h5
      have : (uniR (Lib.decodeL (b :: r)).1).length ≤ 2 := by unfold uniR; split <;> simp
      omega
/-- What is left of a text that is ranged over. -/
def itLeftU (n g : Nat) (w : World) : Nat := match w.heap[g]? with | some (.stringIter _ p) => n - p | _ => 0
theorem itLeftU_eq {n g p : Nat} {w : World} {s : ByteArray} (h : w.heap[g]? = some (.stringIter s p)) : itLeftU n g w = n - p := by unfold itLeftU; rw [h]
theorem decode_str (l : List UInt8) (p : Nat) : Utf8.decode (strOf l) p = Lib.decodeL (l.drop p) := by
  rw [← Lib.decodeL_drop]; rfl
end Go.Proofs.YtbknkahakmfhkaaDoor
