/-
  The element type of bytes in this program.
-/
import Derived.Test.YtgdbdhfomlkpdaaPure1
import Derived.Handy
namespace Go.Proofs.Ytgdbdhfomlkpdaa
open Go.RowKit

theorem eb : ElemT Try.prog 25 5 (.int .u8 0) 1 1 := ElemT.of Try.underlying25 (by kernel_rfl) rfl (by omega)

end Go.Proofs.Ytgdbdhfomlkpdaa
