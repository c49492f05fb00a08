/-
  The element type of bytes in this program.
-/
import Derived.Test.YtpidakfpoihdkaaDoorPure1
import Derived.Handy
namespace Go.Proofs.YtpidakfpoihdkaaDoor
open Go.RowKit

theorem eb : ElemT Tryd.prog 32 5 (.int .u8 0) 1 1 := ElemT.of Tryd.underlying32 (by kernel_rfl) rfl (by omega)

end Go.Proofs.YtpidakfpoihdkaaDoor
