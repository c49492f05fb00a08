/-
  DERIVED. GIVEN WITH THE SEED: THE CARDS: each row of YtegdepimddlphaaDoorRows.lean that lists a variable, with what it lists TIED to the program's text (the seventh form; the later family's looks); each row that meets fmt, with fmt's text TOLD by the authors' own Lean function (tested against real Go, not proved from fmt's source: count such statements apart). THE CARD IS WHAT COUNTS. Prove the row's statement (the work); the ties are given (YtegdepimddlphaaDoorTie.lean); close each card by the builder's one call (the guide's Derived/Test/ToyasCard.lean, 'card_holds'). Laid BY PROGRAM, IN A SANDBOX (cutbox-door.mjs). By AI agents, Wed Nov 11 2026. No macro, syntax, notation, axiom, sorry.
-/
import Derived.Test.YtegdepimddlphaaDoorRows
import GoSem.ClaimSeven
namespace Go.Proofs.YtegdepimddlphaaDoor
namespace Rows

/-- THE TIED CARD OF 'cofferlaw13.RightsReads'. -/
def rightsReadsCard : Claim7 := { stood := { row := rightsReadsRow, standIns := [], harness := (true, "b93827c750b495089ce74b28f4163d8f28f6c2a1db1adeee8e97f19543d06d18"), looks := false }, kinds := [], alts := [], laidByText := true, laidKinds := [.data, .data, .data], laidTests := true, laidLooks := .later }
def RightsReadsCardSaid : Prop := Claim7.holds Tryd.pinned (.plain (OpenSpec.ofChange rightsReadsSpec)) rightsReadsCard

/-- THE TIED CARD OF 'cofferlaw13.RightsBack'. -/
def rightsBackCard : Claim7 := { stood := { row := rightsBackRow, standIns := [], harness := (true, "b93827c750b495089ce74b28f4163d8f28f6c2a1db1adeee8e97f19543d06d18"), looks := false }, kinds := [], alts := [], laidByText := true, laidKinds := [.data, .data, .data], laidTests := true, laidLooks := .later }
def RightsBackCardSaid : Prop := Claim7.holds Tryd.pinned (.plain (OpenSpec.ofChange rightsBackSpec)) rightsBackCard

/-- THE TIED CARD OF 'cofferlaw13.RightsLattice'. -/
def rightsLatticeCard : Claim7 := { stood := { row := rightsLatticeRow, standIns := [], harness := (true, "b93827c750b495089ce74b28f4163d8f28f6c2a1db1adeee8e97f19543d06d18"), looks := false }, kinds := [], alts := [], laidByText := true, laidKinds := [.data, .data, .data], laidTests := true, laidLooks := .later }
def RightsLatticeCardSaid : Prop := Claim7.holds Tryd.pinned (.plain (OpenSpec.ofChange rightsLatticeSpec)) rightsLatticeCard

/-- THE TIED CARD OF 'cofferlaw13.RightsAll'. -/
def rightsAllCard : Claim7 := { stood := { row := rightsAllRow, standIns := [], harness := (true, "b93827c750b495089ce74b28f4163d8f28f6c2a1db1adeee8e97f19543d06d18"), looks := false }, kinds := [], alts := [], laidByText := true, laidKinds := [.data, .data, .data], laidTests := true, laidLooks := .later }
def RightsAllCardSaid : Prop := Claim7.holds Tryd.pinned (.plain (OpenSpec.ofChange rightsAllSpec)) rightsAllCard

/-- THE TIED CARD OF 'cofferlaw13.RightsNeeds'. -/
def rightsNeedsCard : Claim7 := { stood := { row := rightsNeedsRow, standIns := [], harness := (true, "b93827c750b495089ce74b28f4163d8f28f6c2a1db1adeee8e97f19543d06d18"), looks := false }, kinds := [], alts := [], laidByText := true, laidKinds := [.data, .data, .data], laidTests := true, laidLooks := .later }
def RightsNeedsCardSaid : Prop := Claim7.holds Tryd.pinned (.plain (OpenSpec.ofChange rightsNeedsSpec)) rightsNeedsCard

/-- THE SECOND FORM's CARD OF 'cofferlaw13.RightsReads'. -/
def rightsReadsUptoCard : Claim7 := { stood := { row := rightsReadsUptoRow, standIns := [], harness := (true, "b93827c750b495089ce74b28f4163d8f28f6c2a1db1adeee8e97f19543d06d18"), looks := false }, kinds := [], alts := [], laidByText := true, laidKinds := [.data, .data, .data], laidTests := true, laidLooks := .later }
def RightsReadsUptoCardSaid : Prop := Claim7.holds Tryd.pinned (.plain (OpenSpec.upto rightsReadsSpec)) rightsReadsUptoCard

/-- THE SECOND FORM's CARD OF 'cofferlaw13.RightsBack'. -/
def rightsBackUptoCard : Claim7 := { stood := { row := rightsBackUptoRow, standIns := [], harness := (true, "b93827c750b495089ce74b28f4163d8f28f6c2a1db1adeee8e97f19543d06d18"), looks := false }, kinds := [], alts := [], laidByText := true, laidKinds := [.data, .data, .data], laidTests := true, laidLooks := .later }
def RightsBackUptoCardSaid : Prop := Claim7.holds Tryd.pinned (.plain (OpenSpec.upto rightsBackSpec)) rightsBackUptoCard

/-- THE SECOND FORM's CARD OF 'cofferlaw13.RightsLattice'. -/
def rightsLatticeUptoCard : Claim7 := { stood := { row := rightsLatticeUptoRow, standIns := [], harness := (true, "b93827c750b495089ce74b28f4163d8f28f6c2a1db1adeee8e97f19543d06d18"), looks := false }, kinds := [], alts := [], laidByText := true, laidKinds := [.data, .data, .data], laidTests := true, laidLooks := .later }
def RightsLatticeUptoCardSaid : Prop := Claim7.holds Tryd.pinned (.plain (OpenSpec.upto rightsLatticeSpec)) rightsLatticeUptoCard

/-- THE SECOND FORM's CARD OF 'cofferlaw13.RightsAll'. -/
def rightsAllUptoCard : Claim7 := { stood := { row := rightsAllUptoRow, standIns := [], harness := (true, "b93827c750b495089ce74b28f4163d8f28f6c2a1db1adeee8e97f19543d06d18"), looks := false }, kinds := [], alts := [], laidByText := true, laidKinds := [.data, .data, .data], laidTests := true, laidLooks := .later }
def RightsAllUptoCardSaid : Prop := Claim7.holds Tryd.pinned (.plain (OpenSpec.upto rightsAllSpec)) rightsAllUptoCard

/-- THE SECOND FORM's CARD OF 'cofferlaw13.RightsNeeds'. -/
def rightsNeedsUptoCard : Claim7 := { stood := { row := rightsNeedsUptoRow, standIns := [], harness := (true, "b93827c750b495089ce74b28f4163d8f28f6c2a1db1adeee8e97f19543d06d18"), looks := false }, kinds := [], alts := [], laidByText := true, laidKinds := [.data, .data, .data], laidTests := true, laidLooks := .later }
def RightsNeedsUptoCardSaid : Prop := Claim7.holds Tryd.pinned (.plain (OpenSpec.upto rightsNeedsSpec)) rightsNeedsUptoCard
end Rows
end Go.Proofs.YtegdepimddlphaaDoor
