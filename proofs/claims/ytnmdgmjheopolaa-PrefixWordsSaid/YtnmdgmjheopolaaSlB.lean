/- Slices of bytes. -/
import Derived.Test.YtnmdgmjheopolaaRows
import Derived.Test.YtnmdgmjheopolaaMem
namespace Go.Proofs.Ytnmdgmjheopolaa
open Go.RowKit
theorem slByte : SlT Try.prog 26 5 (.int .u8 0) 1 1 := ⟨Try.underlying26, by kernel_rfl, rfl⟩
end Go.Proofs.Ytnmdgmjheopolaa
