/- Slices of bytes. -/
import Derived.Test.YtgcdeadfkljeaaaRows
import Derived.Test.YtgcdeadfkljeaaaLib
namespace Go.Proofs.Ytgcdeadfkljeaaa
open Go.RowKit
theorem slByte : SlT Try.prog 22 5 (.int .u8 0) 1 1 := ⟨Try.underlying22, by kernel_rfl, rfl⟩
end Go.Proofs.Ytgcdeadfkljeaaa
