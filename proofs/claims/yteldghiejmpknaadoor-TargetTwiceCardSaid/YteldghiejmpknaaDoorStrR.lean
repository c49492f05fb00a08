/-
  The string of a row of bytes.
-/
import Derived.Test.YteldghiejmpknaaDoorElem
namespace Go.Proofs.YteldghiejmpknaaDoor
open Go.RowKit

theorem str_rd {A : Option Addr} {n c : Nat} {l : List UInt8} {w : World} (h : Rd w 1 A n c (l.map b8)) : (convert 40 9 (.slice A n c)).run Tryd.prog w = .ok (.string ⟨l.toArray⟩) w :=
  run_str_rd eb Tryd.underlying5 Tryd.underlying9 h

end Go.Proofs.YteldghiejmpknaaDoor
