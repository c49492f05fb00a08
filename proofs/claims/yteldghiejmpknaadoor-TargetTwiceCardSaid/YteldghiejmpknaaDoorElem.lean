/-
  The element type of bytes in this program.
-/
import Derived.Test.YteldghiejmpknaaDoorPure1
import Derived.Handy
namespace Go.Proofs.YteldghiejmpknaaDoor
open Go.RowKit

theorem eb : ElemT Tryd.prog 40 5 (.int .u8 0) 1 1 := ElemT.of Tryd.underlying40 (by kernel_rfl) rfl (by omega)

end Go.Proofs.YteldghiejmpknaaDoor
