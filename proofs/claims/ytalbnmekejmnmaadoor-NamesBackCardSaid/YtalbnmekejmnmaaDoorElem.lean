/-
  The element type of bytes in this program.
-/
import Derived.Test.YtalbnmekejmnmaaDoorPure1
import Derived.Handy
namespace Go.Proofs.YtalbnmekejmnmaaDoor
open Go.RowKit

theorem eb : ElemT Tryd.prog 24 5 (.int .u8 0) 1 1 := ElemT.of Tryd.underlying24 (by kernel_rfl) rfl (by omega)

end Go.Proofs.YtalbnmekejmnmaaDoor
