/- A constant read: what is read, and pool.one. -/
import Derived.Test.YtbknkahakmfhkaaPooK
import Derived.Test.YtbknkahakmfhkaaCurOB
import Derived.Test.YtbknkahakmfhkaaRef02D
import Derived.Test.YtbknkahakmfhkaaUtfD
namespace Go.Proofs.Ytbknkahakmfhkaa
open Go.RowKit
set_option linter.unusedVariables false
set_option linter.unusedSimpArgs false

/-- What is read behind a tag: the constant, the place behind it, the error. -/
def stepT (L : List UInt8) (t : Int) (p1 : Nat) (e1 : Int) : RawK × Nat × Int :=
  let n := L.length
  let m := bigR (nextL L p1 e1 2 true)
  let p2 := nextAt n p1 e1 2 true
  let e2 := nextEr n p1 e1 2 true
  match kindT t with
  | 1 => (⟨t, strOf (nextL L p2 e2 m true), 0, 0, 0⟩, nextAt n p2 e2 m true, if (unitsOf (nextL L p2 e2 m true)).isSome then nextEr n p2 e2 m true else failE (nextEr n p2 e2 m true) 2)
  | 2 => (⟨t, ByteArray.empty, bigR (nextL L p1 e1 (sizeT t) true), 0, 0⟩, nextAt n p1 e1 (sizeT t) true, nextEr n p1 e1 (sizeT t) true)
  | 3 => (⟨t, ByteArray.empty, 0, m, 0⟩, p2, e2)
  | 4 => (⟨t, ByteArray.empty, 0, m, bigR (nextL L p2 e2 2 true)⟩, nextAt n p2 e2 2 true, nextEr n p2 e2 2 true)
  | _ => (⟨t, ByteArray.empty, 0, 0, 0⟩, p1, failE e1 9)
/-- What is read at a place where there is no error yet. -/
def stepK (L : List UInt8) (p : Nat) : RawK × Nat × Int := stepT L (bigR (nextL L p 0 1 true)) (nextAt L.length p 0 1 true) (nextEr L.length p 0 1 true)
theorem sized_sizeT (t : Int) : sizedB (sizeT t) = true := by
  unfold sizeT; split <;> rfl
/-- Few bytes are a small number. -/
theorem bigR_small : ∀ (l : List UInt8), l.length ≤ 2 → 0 ≤ bigR l ∧ bigR l < 256 ^ l.length
  | [], _ => by decide
  | [a], _ => by
    have : bigR [a] = ((a.toNat : Nat) : Int) := by
      have := bigI_num 0 a (by decide)
      show bigI 0 a = _
      rw [← this]; unfold numI
      have := a.toNat_lt; omega
    rw [this]; have := a.toNat_lt; simp only [List.length_singleton]; omega
  | [a, b], _ => by
    have h1 := bigI_num 0 a (by decide)
    have h2 : bigI 0 a = (a.toNat : Int) := by rw [← h1]; unfold numI; have := a.toNat_lt; omega
    have : bigR [a, b] = (a.toNat : Int) * 256 + (b.toNat : Int) := by
      show bigI (bigI 0 a) b = _
      rw [h2, ← bigI_num _ b (by have := a.toNat_lt; omega)]; unfold numI
      have := a.toNat_lt; have := b.toNat_lt; omega
    rw [this]; have := a.toNat_lt; have := b.toNat_lt; simp only [List.length_cons, List.length_nil]; omega
  | _ :: _ :: _ :: _, h => by simp only [List.length_cons] at h; omega
theorem nextL_le2 (l : List UInt8) (p : Nat) (er m : Int) : (nextL l p er m true).length ≤ m.toNat := by
  unfold nextL; split
  · rw [List.length_take]; omega
  · simp
theorem num1 (L : List UInt8) (p : Nat) (er : Int) : 0 ≤ bigR (nextL L p er 1 true) ∧ bigR (nextL L p er 1 true) < 256 := by
  have h := nextL_le2 L p er 1
  have h2 := bigR_small _ (by omega : (nextL L p er 1 true).length ≤ 2)
  refine ⟨h2.1, Int.lt_of_lt_of_le h2.2 ?_⟩
  have : (nextL L p er 1 true).length = 0 ∨ (nextL L p er 1 true).length = 1 := by omega
  rcases this with h | h <;> rw [h] <;> decide
theorem num2 (L : List UInt8) (p : Nat) (er : Int) : 0 ≤ bigR (nextL L p er 2 true) ∧ bigR (nextL L p er 2 true) < 65536 := by
  have h := nextL_le2 L p er 2
  have h2 := bigR_small _ (by omega : (nextL L p er 2 true).length ≤ 2)
  refine ⟨h2.1, Int.lt_of_lt_of_le h2.2 ?_⟩
  have : (nextL L p er 2 true).length = 0 ∨ (nextL L p er 2 true).length = 1 ∨ (nextL L p er 2 true).length = 2 := by omega
  rcases this with h | h | h <;> rw [h] <;> decide
end Go.Proofs.Ytbknkahakmfhkaa
