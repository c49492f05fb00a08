/-
  DERIVED. GIVEN WITH THE SEED: THE CARDS: each row of YteldghiejmpknaaDoorRows.lean that lists a variable, with what it lists TIED to the program's text (the seventh form; the later family's looks); each row that meets fmt, with fmt's text TOLD by the authors' own Lean function (tested against real Go, not proved from fmt's source: count such statements apart). THE CARD IS WHAT COUNTS. Prove the row's statement (the work); the ties are given (YteldghiejmpknaaDoorTie.lean); close each card by the builder's one call (the guide's Derived/Test/ToyasCard.lean, 'card_holds'). Laid BY PROGRAM, IN A SANDBOX (cutbox-door.mjs). By AI agents, Wed Nov 11 2026. No macro, syntax, notation, axiom, sorry.
-/
import Derived.Test.YteldghiejmpknaaDoorRows
import GoSem.ClaimSeven
namespace Go.Proofs.YteldghiejmpknaaDoor
namespace Rows

/-- THE TIED CARD OF 'cofferlaw21.TargetReads'. -/
def targetReadsCard : Claim7 := { stood := { row := targetReadsRow, standIns := [], harness := (true, "31b49ea57a88a5f3b82c6b0b2a7175dd4c9af8295a14b9d9f7965dc953f780f8"), looks := false }, kinds := [], alts := [], laidByText := true, laidKinds := [.data, .pinned], laidTests := true, laidLooks := .later }
def TargetReadsCardSaid : Prop := Claim7.holds Tryd.pinned (.plain (OpenSpec.ofChange targetReadsSpec)) targetReadsCard

/-- THE TIED CARD OF 'cofferlaw21.TargetWrites'. -/
def targetWritesCard : Claim7 := { stood := { row := targetWritesRow, standIns := [], harness := (true, "31b49ea57a88a5f3b82c6b0b2a7175dd4c9af8295a14b9d9f7965dc953f780f8"), looks := false }, kinds := [], alts := [], laidByText := true, laidKinds := [.data, .pinned], laidTests := true, laidLooks := .later }
def TargetWritesCardSaid : Prop := Claim7.holds Tryd.pinned (.plain (OpenSpec.ofChange targetWritesSpec)) targetWritesCard

/-- THE TIED CARD OF 'cofferlaw21.TargetBack'. -/
def targetBackCard : Claim7 := { stood := { row := targetBackRow, standIns := [], harness := (true, "31b49ea57a88a5f3b82c6b0b2a7175dd4c9af8295a14b9d9f7965dc953f780f8"), looks := false }, kinds := [], alts := [], laidByText := true, laidKinds := [.data, .pinned], laidTests := true, laidLooks := .later }
def TargetBackCardSaid : Prop := Claim7.holds Tryd.pinned (.plain (OpenSpec.ofChange targetBackSpec)) targetBackCard

/-- THE TIED CARD OF 'cofferlaw21.TargetEscapes'. -/
def targetEscapesCard : Claim7 := { stood := { row := targetEscapesRow, standIns := [], harness := (true, "31b49ea57a88a5f3b82c6b0b2a7175dd4c9af8295a14b9d9f7965dc953f780f8"), looks := false }, kinds := [], alts := [], laidByText := true, laidKinds := [.data, .pinned], laidTests := true, laidLooks := .later }
def TargetEscapesCardSaid : Prop := Claim7.holds Tryd.pinned (.plain (OpenSpec.ofChange targetEscapesSpec)) targetEscapesCard

/-- THE TIED CARD OF 'cofferlaw21.TargetTwice'. -/
def targetTwiceCard : Claim7 := { stood := { row := targetTwiceRow, standIns := [], harness := (true, "31b49ea57a88a5f3b82c6b0b2a7175dd4c9af8295a14b9d9f7965dc953f780f8"), looks := false }, kinds := [], alts := [], laidByText := true, laidKinds := [.data, .pinned], laidTests := true, laidLooks := .later }
def TargetTwiceCardSaid : Prop := Claim7.holds Tryd.pinned (.plain (OpenSpec.ofChange targetTwiceSpec)) targetTwiceCard

/-- THE SECOND FORM's CARD OF 'cofferlaw21.TargetReads'. -/
def targetReadsUptoCard : Claim7 := { stood := { row := targetReadsUptoRow, standIns := [], harness := (true, "31b49ea57a88a5f3b82c6b0b2a7175dd4c9af8295a14b9d9f7965dc953f780f8"), looks := false }, kinds := [], alts := [], laidByText := true, laidKinds := [.data, .pinned], laidTests := true, laidLooks := .later }
def TargetReadsUptoCardSaid : Prop := Claim7.holds Tryd.pinned (.plain (OpenSpec.upto targetReadsSpec)) targetReadsUptoCard

/-- THE SECOND FORM's CARD OF 'cofferlaw21.TargetWrites'. -/
def targetWritesUptoCard : Claim7 := { stood := { row := targetWritesUptoRow, standIns := [], harness := (true, "31b49ea57a88a5f3b82c6b0b2a7175dd4c9af8295a14b9d9f7965dc953f780f8"), looks := false }, kinds := [], alts := [], laidByText := true, laidKinds := [.data, .pinned], laidTests := true, laidLooks := .later }
def TargetWritesUptoCardSaid : Prop := Claim7.holds Tryd.pinned (.plain (OpenSpec.upto targetWritesSpec)) targetWritesUptoCard

/-- THE SECOND FORM's CARD OF 'cofferlaw21.TargetBack'. -/
def targetBackUptoCard : Claim7 := { stood := { row := targetBackUptoRow, standIns := [], harness := (true, "31b49ea57a88a5f3b82c6b0b2a7175dd4c9af8295a14b9d9f7965dc953f780f8"), looks := false }, kinds := [], alts := [], laidByText := true, laidKinds := [.data, .pinned], laidTests := true, laidLooks := .later }
def TargetBackUptoCardSaid : Prop := Claim7.holds Tryd.pinned (.plain (OpenSpec.upto targetBackSpec)) targetBackUptoCard

/-- THE SECOND FORM's CARD OF 'cofferlaw21.TargetEscapes'. -/
def targetEscapesUptoCard : Claim7 := { stood := { row := targetEscapesUptoRow, standIns := [], harness := (true, "31b49ea57a88a5f3b82c6b0b2a7175dd4c9af8295a14b9d9f7965dc953f780f8"), looks := false }, kinds := [], alts := [], laidByText := true, laidKinds := [.data, .pinned], laidTests := true, laidLooks := .later }
def TargetEscapesUptoCardSaid : Prop := Claim7.holds Tryd.pinned (.plain (OpenSpec.upto targetEscapesSpec)) targetEscapesUptoCard

/-- THE SECOND FORM's CARD OF 'cofferlaw21.TargetTwice'. -/
def targetTwiceUptoCard : Claim7 := { stood := { row := targetTwiceUptoRow, standIns := [], harness := (true, "31b49ea57a88a5f3b82c6b0b2a7175dd4c9af8295a14b9d9f7965dc953f780f8"), looks := false }, kinds := [], alts := [], laidByText := true, laidKinds := [.data, .pinned], laidTests := true, laidLooks := .later }
def TargetTwiceUptoCardSaid : Prop := Claim7.holds Tryd.pinned (.plain (OpenSpec.upto targetTwiceSpec)) targetTwiceUptoCard
end Rows
end Go.Proofs.YteldghiejmpknaaDoor
