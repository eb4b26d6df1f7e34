/- Slices of bytes. -/
import Derived.Test.YtbknkahakmfhkaaDoorRows
import Derived.Test.YtbknkahakmfhkaaDoorMem
namespace Go.Proofs.YtbknkahakmfhkaaDoor
open Go.RowKit
theorem slByte : SlT Tryd.prog 41 5 (.int .u8 0) 1 1 := ⟨Tryd.underlying41, by kernel_rfl, rfl⟩
end Go.Proofs.YtbknkahakmfhkaaDoor
