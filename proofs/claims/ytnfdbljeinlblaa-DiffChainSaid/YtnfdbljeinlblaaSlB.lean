/- Slices of bytes. -/
import Derived.Test.YtnfdbljeinlblaaRows
import Derived.Test.YtnfdbljeinlblaaMem
namespace Go.Proofs.Ytnfdbljeinlblaa
open Go.RowKit
theorem slByte : SlT Try.prog 32 5 (.int .u8 0) 1 1 := ⟨Try.underlying32, by kernel_rfl, rfl⟩
end Go.Proofs.Ytnfdbljeinlblaa
