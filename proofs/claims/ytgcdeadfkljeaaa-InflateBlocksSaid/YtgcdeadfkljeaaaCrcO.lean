/- The walks of crc.Seal, crc.Open, crc.Burst. -/
import Derived.Test.YtgcdeadfkljeaaaCurO
import Derived.Test.YtgcdeadfkljeaaaCrcW
namespace Go.Proofs.Ytgcdeadfkljeaaa
open Go.RowKit
set_option linter.unusedVariables false
set_option linter.unusedSimpArgs false

theorem Buf.le_cap {α : Type} {w : World} {E : α → Value} {a : Option Addr} {l : List α} {base : Nat} {e : TypeId} {n c : Nat} (h : Buf w base e E a n c l) : n ≤ c := by
  rcases h with h | ⟨h1, _⟩
  · exact h.le_cap
  · omega
theorem Buf.cap_max {α : Type} {w : World} {E : α → Value} {a : Option Addr} {l : List α} {base : Nat} {e : TypeId} {n c : Nat} (h : Buf w base e E a n c l) : c ≤ maxLen := by
  rcases h with h | ⟨h1, h2, _⟩
  · exact h.cap_max
  · omega
def sealL (l : List UInt8) : List UInt8 := l ++ putL (crcSumI l).toNat 4
theorem putL4_len (v : Nat) : (putL v 4).length = 4 := by simp [putL, sizedB, littleL]
theorem sealL_len (l : List UInt8) : (sealL l).length = l.length + 4 := by simp [sealL, putL4_len]

/-- What is opened, and the error. -/
def bodyL (l : List UInt8) : List UInt8 := l.take (l.length - 4)
def tailL (l : List UInt8) : List UInt8 := l.drop (l.length - 4)
def openOk (l : List UInt8) : Bool := crcSumI (bodyL l) == litR (tailL l) 4
def openL (l : List UInt8) : List UInt8 := if 4 ≤ l.length ∧ openOk l = true then bodyL l else []
def openEr (l : List UInt8) : Int := if l.length < 4 then 6 else if openOk l then 0 else 7
def OpenPost (w : World) (l : List UInt8) (e : Ending) (w' : World) : Prop :=
  ∃ a' n' c', e = .returned (.tuple #[.slice a' n' c', .int .i64 (openEr l)]) ∧ Own w' w.heap.size 5 bE a' n' c' (openL l) ∧ Below w.heap.size w w'
theorem litR_lt (l : List UInt8) (j : Nat) : 0 ≤ litR l j ∧ litR l j < 18446744073709551616 := litR_range l j

/-- A bit of a byte turned over. -/
def flipB (x : UInt8) (j : Nat) : UInt8 := x ^^^ UInt8.ofNat (2 ^ j)
theorem flipB_val (x : UInt8) (j : Nat) (hj : j < 8) : bits .xor .u8 (x.toNat : Int) ((2 : Int) ^ j) = ((flipB x j).toNat : Int) := by
  have h2 : (2 : Nat) ^ j < 256 := by
    have : 2 ^ j ≤ 2 ^ 7 := Nat.pow_le_pow_right (by omega) (by omega)
    omega
  have := u8_xor_nat x.toNat (2 ^ j) x.toNat_lt h2
  rw [show ((2 ^ j : Nat) : Int) = (2 : Int) ^ j from by simp] at this
  rw [this]
  unfold flipB
  rw [UInt8.toNat_xor, show (UInt8.ofNat (2 ^ j)).toNat = 2 ^ j from by simp [UInt8.toNat_ofNat', Nat.mod_eq_of_lt h2]]
theorem and7_i64 (n : Nat) (h : n < 2 ^ 62) : bits .and .i64 (n : Int) 7 = ((n % 8 : Nat) : Int) :=
  (bits_mask .i64 62 (by decide) (fun m h1 h2 => by rw [IntKind.wrap_i64]; omega) 3 (by decide) (n : Int) (by omega) (by omega)).trans (by omega)
theorem flip_val (y : UInt8) (p : Int) (h0 : 0 ≤ p) (h1 : p < 4611686018427387904) : Value.int .u8 (bits .xor .u8 (y.toNat : Int) (2 ^ min (IntKind.u64.wrap (bits .and .i64 p 7)).toNat 8 % 256)) = bE (flipB y (p.toNat % 8)) := by
  obtain ⟨n, rfl⟩ := Int.eq_ofNat_of_zero_le h0
  have hm : n % 8 < 8 := Nat.mod_lt _ (by omega)
  have hw : IntKind.u64.wrap (bits .and .i64 (n : Int) 7) = ((n % 8 : Nat) : Int) := by
    rw [and7_i64 n (by omega), IntKind.wrap_u64]; omega
  rw [hw, Int.toNat_natCast, Int.toNat_natCast, Nat.min_eq_left (by omega)]
  have h2 : (2 : Nat) ^ (n % 8) < 256 := by
    have : 2 ^ (n % 8) ≤ 2 ^ 7 := Nat.pow_le_pow_right (by omega) (by omega)
    omega
  have h3 : (2 : Int) ^ (n % 8) % 256 = 2 ^ (n % 8) := by
    have : (((2 ^ (n % 8) : Nat) : Int)) = (2 : Int) ^ (n % 8) := by simp
    rw [← this]
    generalize 2 ^ (n % 8) = z at h2
    omega
  rw [h3, flipB_val y _ hm]
/-- Is bit k of the pattern set, and does it fall into the row? -/
def hitsB (n : Nat) (at' pat : Int) (k : Nat) : Bool := (bits .and .u32 (pat / 2 ^ k) 1 == 1) && decide (0 ≤ at' + k) && decide (at' + k < 8 * n)
def burstStep (at' pat : Int) (l : List UInt8) (k : Nat) : List UInt8 :=
  if hitsB l.length at' pat k then l.set ((at' + k).toNat / 8) (flipB (l.getD ((at' + k).toNat / 8) 0) ((at' + k).toNat % 8)) else l
def burstRun (l : List UInt8) (at' pat : Int) : Nat → List UInt8
  | 0 => l
  | k+1 => burstStep at' pat (burstRun l at' pat k) k
def burstL (l : List UInt8) (at' pat : Int) : List UInt8 := if at' < -32 ∨ at' ≥ 8 * (l.length : Int) then l else burstRun l at' pat 32
theorem burstStep_len (at' pat : Int) (l : List UInt8) (k : Nat) : (burstStep at' pat l k).length = l.length := by unfold burstStep; split <;> simp
theorem burstRun_len (l : List UInt8) (at' pat : Int) (k : Nat) : (burstRun l at' pat k).length = l.length := by
  induction k with
  | zero => rfl
  | succ k ih => rw [burstRun, burstStep_len, ih]
theorem burstL_len (l : List UInt8) (at' pat : Int) : (burstL l at' pat).length = l.length := by unfold burstL; split; rfl; exact burstRun_len _ _ _ _

end Go.Proofs.Ytgcdeadfkljeaaa
