/-
  DERIVED. GIVEN WITH THE SEED: THE CARDS: each row of YtckkmdigmecagaaDoorRows.lean that lists a variable, with what it lists TIED to the program's text (the seventh form; the later family's looks); each row that meets fmt, with fmt's text TOLD by the authors' own Lean function (tested against real Go, not proved from fmt's source: count such statements apart). THE CARD IS WHAT COUNTS. Prove the row's statement (the work); the ties are given (YtckkmdigmecagaaDoorTie.lean); close each card by the builder's one call (the guide's Derived/Test/ToyasCard.lean, 'card_holds'). Laid BY PROGRAM, IN A SANDBOX (cutbox-door.mjs). By AI agents, Wed Nov 11 2026. No macro, syntax, notation, axiom, sorry.
-/
import Derived.Test.YtckkmdigmecagaaDoorRows
import GoSem.ClaimSeven
namespace Go.Proofs.YtckkmdigmecagaaDoor
namespace Rows

/-- THE TIED CARD OF 'cofferlaw24.WirePieces'. -/
def wirePiecesCard : Claim7 := { stood := { row := wirePiecesRow, standIns := [], harness := (true, "f1869bab47e5ea0c37ef7a1d5664c59686de58615805d9c918c5ebc05b9f39f9"), looks := false }, kinds := [], alts := [], laidByText := true, laidKinds := [.data, .pinned, .pinned], laidTests := true, laidLooks := .later }
def WirePiecesCardSaid : Prop := Claim7.holds Tryd.pinned (.plain (OpenSpec.ofChange wirePiecesSpec)) wirePiecesCard

/-- THE TIED CARD OF 'cofferlaw24.WireBounds'. -/
def wireBoundsCard : Claim7 := { stood := { row := wireBoundsRow, standIns := [], harness := (true, "f1869bab47e5ea0c37ef7a1d5664c59686de58615805d9c918c5ebc05b9f39f9"), looks := false }, kinds := [], alts := [], laidByText := true, laidKinds := [.data, .pinned, .pinned], laidTests := true, laidLooks := .later }
def WireBoundsCardSaid : Prop := Claim7.holds Tryd.pinned (.plain (OpenSpec.ofChange wireBoundsSpec)) wireBoundsCard

/-- THE TIED CARD OF 'cofferlaw24.WireNone'. -/
def wireNoneCard : Claim7 := { stood := { row := wireNoneRow, standIns := [], harness := (true, "f1869bab47e5ea0c37ef7a1d5664c59686de58615805d9c918c5ebc05b9f39f9"), looks := false }, kinds := [], alts := [], laidByText := true, laidKinds := [.data, .pinned, .pinned], laidTests := true, laidLooks := .later }
def WireNoneCardSaid : Prop := Claim7.holds Tryd.pinned (.plain (OpenSpec.ofChange wireNoneSpec)) wireNoneCard

/-- THE SECOND FORM's CARD OF 'cofferlaw24.WirePieces'. -/
def wirePiecesUptoCard : Claim7 := { stood := { row := wirePiecesUptoRow, standIns := [], harness := (true, "f1869bab47e5ea0c37ef7a1d5664c59686de58615805d9c918c5ebc05b9f39f9"), looks := false }, kinds := [], alts := [], laidByText := true, laidKinds := [.data, .pinned, .pinned], laidTests := true, laidLooks := .later }
def WirePiecesUptoCardSaid : Prop := Claim7.holds Tryd.pinned (.plain (OpenSpec.upto wirePiecesSpec)) wirePiecesUptoCard

/-- THE SECOND FORM's CARD OF 'cofferlaw24.WireBounds'. -/
def wireBoundsUptoCard : Claim7 := { stood := { row := wireBoundsUptoRow, standIns := [], harness := (true, "f1869bab47e5ea0c37ef7a1d5664c59686de58615805d9c918c5ebc05b9f39f9"), looks := false }, kinds := [], alts := [], laidByText := true, laidKinds := [.data, .pinned, .pinned], laidTests := true, laidLooks := .later }
def WireBoundsUptoCardSaid : Prop := Claim7.holds Tryd.pinned (.plain (OpenSpec.upto wireBoundsSpec)) wireBoundsUptoCard

/-- THE SECOND FORM's CARD OF 'cofferlaw24.WireNone'. -/
def wireNoneUptoCard : Claim7 := { stood := { row := wireNoneUptoRow, standIns := [], harness := (true, "f1869bab47e5ea0c37ef7a1d5664c59686de58615805d9c918c5ebc05b9f39f9"), looks := false }, kinds := [], alts := [], laidByText := true, laidKinds := [.data, .pinned, .pinned], laidTests := true, laidLooks := .later }
def WireNoneUptoCardSaid : Prop := Claim7.holds Tryd.pinned (.plain (OpenSpec.upto wireNoneSpec)) wireNoneUptoCard
end Rows
end Go.Proofs.YtckkmdigmecagaaDoor
