/-
  The element type of bytes in this program.
-/
import Derived.Test.YtebnmpgoiedicaaPure1
import Derived.Handy
namespace Go.Proofs.Ytebnmpgoiedicaa
open Go.RowKit

theorem eb : ElemT Try.prog 27 5 (.int .u8 0) 1 1 := ElemT.of Try.underlying27 (by kernel_rfl) rfl (by omega)

end Go.Proofs.Ytebnmpgoiedicaa
