/- Slices of bytes. -/
import Derived.Test.YtbknkahakmfhkaaRows
import Derived.Test.YtbknkahakmfhkaaMem
namespace Go.Proofs.Ytbknkahakmfhkaa
open Go.RowKit
theorem slByte : SlT Try.prog 29 5 (.int .u8 0) 1 1 := ⟨Try.underlying29, by kernel_rfl, rfl⟩
end Go.Proofs.Ytbknkahakmfhkaa
