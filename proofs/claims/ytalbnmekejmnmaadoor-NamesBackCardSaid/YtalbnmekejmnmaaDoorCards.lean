/-
  DERIVED. GIVEN WITH THE SEED: THE CARDS: each row of YtalbnmekejmnmaaDoorRows.lean that lists a variable, with what it lists TIED to the program's text (the seventh form; the later family's looks); each row that meets fmt, with fmt's text TOLD by the authors' own Lean function (tested against real Go, not proved from fmt's source: count such statements apart). THE CARD IS WHAT COUNTS. Prove the row's statement (the work); the ties are given (YtalbnmekejmnmaaDoorTie.lean); close each card by the builder's one call (the guide's Derived/Test/ToyasCard.lean, 'card_holds'). Laid BY PROGRAM, IN A SANDBOX (cutbox-door.mjs). By AI agents, Wed Nov 11 2026. No macro, syntax, notation, axiom, sorry.
-/
import Derived.Test.YtalbnmekejmnmaaDoorRows
import GoSem.ClaimSeven
namespace Go.Proofs.YtalbnmekejmnmaaDoor
namespace Rows

/-- THE TIED CARD OF 'cofferlaw4.NamesMay'. -/
def namesMayCard : Claim7 := { stood := { row := namesMayRow, standIns := [], harness := (true, "2a4133d56cbf5db8b21501ad70fec6a765a954dca157d5c95ebecf4d20d99b6a"), looks := false }, kinds := [], alts := [], laidByText := true, laidKinds := [.data, .data, .data], laidTests := true, laidLooks := .later }
def NamesMayCardSaid : Prop := Claim7.holds Tryd.pinned (.plain (OpenSpec.ofChange namesMaySpec)) namesMayCard

/-- THE TIED CARD OF 'cofferlaw4.NamesWrites'. -/
def namesWritesCard : Claim7 := { stood := { row := namesWritesRow, standIns := [], harness := (true, "2a4133d56cbf5db8b21501ad70fec6a765a954dca157d5c95ebecf4d20d99b6a"), looks := false }, kinds := [], alts := [], laidByText := true, laidKinds := [.data, .data, .data], laidTests := true, laidLooks := .later }
def NamesWritesCardSaid : Prop := Claim7.holds Tryd.pinned (.plain (OpenSpec.ofChange namesWritesSpec)) namesWritesCard

/-- THE TIED CARD OF 'cofferlaw4.NamesOrder'. -/
def namesOrderCard : Claim7 := { stood := { row := namesOrderRow, standIns := [], harness := (true, "2a4133d56cbf5db8b21501ad70fec6a765a954dca157d5c95ebecf4d20d99b6a"), looks := false }, kinds := [], alts := [], laidByText := true, laidKinds := [.data, .data, .data], laidTests := true, laidLooks := .later }
def NamesOrderCardSaid : Prop := Claim7.holds Tryd.pinned (.plain (OpenSpec.ofChange namesOrderSpec)) namesOrderCard

/-- THE TIED CARD OF 'cofferlaw4.NamesReads'. -/
def namesReadsCard : Claim7 := { stood := { row := namesReadsRow, standIns := [], harness := (true, "2a4133d56cbf5db8b21501ad70fec6a765a954dca157d5c95ebecf4d20d99b6a"), looks := false }, kinds := [], alts := [], laidByText := true, laidKinds := [.data, .data, .data], laidTests := true, laidLooks := .later }
def NamesReadsCardSaid : Prop := Claim7.holds Tryd.pinned (.plain (OpenSpec.ofChange namesReadsSpec)) namesReadsCard

/-- THE TIED CARD OF 'cofferlaw4.NamesBack'. -/
def namesBackCard : Claim7 := { stood := { row := namesBackRow, standIns := [], harness := (true, "2a4133d56cbf5db8b21501ad70fec6a765a954dca157d5c95ebecf4d20d99b6a"), looks := false }, kinds := [], alts := [], laidByText := true, laidKinds := [.data, .data, .data], laidTests := true, laidLooks := .later }
def NamesBackCardSaid : Prop := Claim7.holds Tryd.pinned (.plain (OpenSpec.ofChange namesBackSpec)) namesBackCard

/-- THE SECOND FORM's CARD OF 'cofferlaw4.NamesMay'. -/
def namesMayUptoCard : Claim7 := { stood := { row := namesMayUptoRow, standIns := [], harness := (true, "2a4133d56cbf5db8b21501ad70fec6a765a954dca157d5c95ebecf4d20d99b6a"), looks := false }, kinds := [], alts := [], laidByText := true, laidKinds := [.data, .data, .data], laidTests := true, laidLooks := .later }
def NamesMayUptoCardSaid : Prop := Claim7.holds Tryd.pinned (.plain (OpenSpec.upto namesMaySpec)) namesMayUptoCard

/-- THE SECOND FORM's CARD OF 'cofferlaw4.NamesWrites'. -/
def namesWritesUptoCard : Claim7 := { stood := { row := namesWritesUptoRow, standIns := [], harness := (true, "2a4133d56cbf5db8b21501ad70fec6a765a954dca157d5c95ebecf4d20d99b6a"), looks := false }, kinds := [], alts := [], laidByText := true, laidKinds := [.data, .data, .data], laidTests := true, laidLooks := .later }
def NamesWritesUptoCardSaid : Prop := Claim7.holds Tryd.pinned (.plain (OpenSpec.upto namesWritesSpec)) namesWritesUptoCard

/-- THE SECOND FORM's CARD OF 'cofferlaw4.NamesOrder'. -/
def namesOrderUptoCard : Claim7 := { stood := { row := namesOrderUptoRow, standIns := [], harness := (true, "2a4133d56cbf5db8b21501ad70fec6a765a954dca157d5c95ebecf4d20d99b6a"), looks := false }, kinds := [], alts := [], laidByText := true, laidKinds := [.data, .data, .data], laidTests := true, laidLooks := .later }
def NamesOrderUptoCardSaid : Prop := Claim7.holds Tryd.pinned (.plain (OpenSpec.upto namesOrderSpec)) namesOrderUptoCard

/-- THE SECOND FORM's CARD OF 'cofferlaw4.NamesReads'. -/
def namesReadsUptoCard : Claim7 := { stood := { row := namesReadsUptoRow, standIns := [], harness := (true, "2a4133d56cbf5db8b21501ad70fec6a765a954dca157d5c95ebecf4d20d99b6a"), looks := false }, kinds := [], alts := [], laidByText := true, laidKinds := [.data, .data, .data], laidTests := true, laidLooks := .later }
def NamesReadsUptoCardSaid : Prop := Claim7.holds Tryd.pinned (.plain (OpenSpec.upto namesReadsSpec)) namesReadsUptoCard

/-- THE SECOND FORM's CARD OF 'cofferlaw4.NamesBack'. -/
def namesBackUptoCard : Claim7 := { stood := { row := namesBackUptoRow, standIns := [], harness := (true, "2a4133d56cbf5db8b21501ad70fec6a765a954dca157d5c95ebecf4d20d99b6a"), looks := false }, kinds := [], alts := [], laidByText := true, laidKinds := [.data, .data, .data], laidTests := true, laidLooks := .later }
def NamesBackUptoCardSaid : Prop := Claim7.holds Tryd.pinned (.plain (OpenSpec.upto namesBackSpec)) namesBackUptoCard
end Rows
end Go.Proofs.YtalbnmekejmnmaaDoor
