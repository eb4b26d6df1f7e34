/- math/bits.Mul of 1, slices.Repeat of one number. -/
import Derived.Test.YtmmgcfhoigpomaaRunsA
import Derived.Test.YtmmgcfhoigpomaaPushC
import Derived.Test.YtmmgcfhoigpomaaCrcO
import Derived.Laws.CopyOwn
namespace Go.Proofs.Ytmmgcfhoigpomaa
open Go.RowKit
set_option linter.unusedVariables false
set_option linter.unusedSimpArgs false

theorem and32_u64 (n : Nat) (h : n < 4294967296) : bits .and .u64 (n : Int) 4294967295 = (n : Int) :=
  (bits_mask .u64 62 (by decide) (fun m h1 h2 => by rw [IntKind.wrap_u64]; omega) 32 (by decide) (n : Int) (by omega) (by omega)).trans (by omega)
set_option maxRecDepth 100000 in
theorem mul64_any (y : Nat) (hy : y < 4294967296) (w : World) : Calls Try.prog 77 #[.int .u64 1, .int .u64 (y : Int)] w fun e w' => e = .returned (.tuple #[.int .u64 0, .int .u64 (y : Int)]) ∧ w = w' := by
  have h1 := and32_u64 y hy
  have h2 : bits .and .u64 1 4294967295 = 1 := by decide
  have h3 : bits .and .u64 0 4294967295 = 0 := by decide
  have h4 : (y : Int) / 4294967296 = 0 := by omega
  go_enter Try.func77, Try.ntmps77
  go_wp2
  go_ret2
  exact ⟨rfl, rfl⟩
set_option maxRecDepth 100000 in
theorem mul_any (y : Nat) (hy : y < 4294967296) (w : World) : Calls Try.prog 71 #[.int .u64 1, .int .u64 (y : Int)] w fun e w' => e = .returned (.tuple #[.int .u64 0, .int .u64 (y : Int)]) ∧ w = w' := by
  go_enter Try.func71, Try.ntmps71
  go_wp2_with fail
  refine (mul64_any y hy w).mono ?_
  rintro e w' ⟨rfl, rfl⟩
  go_wp2
  go_ret2
  exact ⟨rfl, rfl⟩
end Go.Proofs.Ytmmgcfhoigpomaa
