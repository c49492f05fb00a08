/-
  The element type of bytes in this program.
-/
import Derived.Test.YtogkmlodcdgegaaDoorPure1
import Derived.Handy
namespace Go.Proofs.YtogkmlodcdgegaaDoor
open Go.RowKit

theorem eb : ElemT Tryd.prog 22 5 (.int .u8 0) 1 1 := ElemT.of Tryd.underlying22 (by kernel_rfl) rfl (by omega)

end Go.Proofs.YtogkmlodcdgegaaDoor
