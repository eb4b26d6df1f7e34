/- The walks of cursor.Big, Little, and of packsaddleref02's. -/
import Derived.Test.YtgcdeadfkljeaaaBuf
namespace Go.Proofs.Ytgcdeadfkljeaaa
open Go.RowKit
set_option linter.unusedVariables false
set_option linter.unusedSimpArgs false

def sizedB (n : Int) : Bool := n == 1 || n == 2 || n == 4 || n == 8
theorem sizedB_cases (n : Int) (h : sizedB n = true) : n = 1 ∨ n = 2 ∨ n = 4 ∨ n = 8 := by
  simp [sizedB] at h; omega
theorem sizedB_no (n : Int) (h1 : n ≠ 1) (h2 : n ≠ 2) (h4 : n ≠ 4) (h8 : n ≠ 8) : sizedB n = false := by
  simp [sizedB, h1, h2, h4, h8]

set_option maxHeartbeats 1000000 in
theorem sized_any (n : Int) (w : World) (h1 : -9223372036854775808 ≤ n) (h2 : n ≤ 9223372036854775807) :
  Calls Try.prog 82 #[.int .i64 n] w fun e w' => e = .returned (.bool (sizedB n)) ∧ w = w' := by
  by_cases hlo : n < 1
  · have hf : sizedB n = false := sizedB_no n (by omega) (by omega) (by omega) (by omega)
    rw [hf]
    go_enter Try.func82, Try.ntmps82
    go_wp2
    go_ret
    exact ⟨rfl, rfl⟩
  by_cases hhi : 8 < n
  · have hf : sizedB n = false := sizedB_no n (by omega) (by omega) (by omega) (by omega)
    rw [hf]
    go_enter Try.func82, Try.ntmps82
    go_wp2
    go_ret
    exact ⟨rfl, rfl⟩
  have hc : n = 1 ∨ n = 2 ∨ n = 3 ∨ n = 4 ∨ n = 5 ∨ n = 6 ∨ n = 7 ∨ n = 8 := by omega
  rcases hc with rfl | rfl | rfl | rfl | rfl | rfl | rfl | rfl
  all_goals
    clear hlo hhi h1 h2
    go_enter Try.func82, Try.ntmps82
    go_wp2
    go_ret
    exact ⟨ret_bool (by decide), rfl⟩

/-- A number's n bytes, the lowest first. -/
def littleL (v n : Nat) : List UInt8 := (List.range n).map fun i => UInt8.ofNat (v / 256 ^ i % 256)
theorem littleL_length (v n : Nat) : (littleL v n).length = n := by simp [littleL]
theorem littleL_succ (v n : Nat) : littleL v (n + 1) = littleL v n ++ [UInt8.ofNat (v / 256 ^ n % 256)] := by simp [littleL, List.range_succ]
def putL (v : Nat) (n : Int) : List UInt8 := if sizedB n then littleL v n.toNat else []
def putB (v : Nat) (n : Int) : List UInt8 := if sizedB n then (littleL v n.toNat).reverse else []
theorem byte_toNat (x : Nat) : (UInt8.ofNat (x % 256)).toNat = x % 256 := by
  rw [UInt8.toNat_ofNat']; exact Nat.mod_eq_of_lt (by omega)
theorem putL_le (v : Nat) (n : Int) : (putL v n).length ≤ 8 := by
  unfold putL
  cases h : sizedB n
  · simp
  · rcases sizedB_cases n h with rfl | rfl | rfl | rfl <;> simp [littleL_length]
theorem putB_le (v : Nat) (n : Int) : (putB v n).length ≤ 8 := by
  unfold putB
  cases h : sizedB n
  · simp
  · rcases sizedB_cases n h with rfl | rfl | rfl | rfl <;> simp [littleL_length]

end Go.Proofs.Ytgcdeadfkljeaaa
