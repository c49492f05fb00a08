/-
  DERIVED. GIVEN WITH THE SEED: THE CARDS: each row of YtckkmdigmecagaaGreatDoorRows.lean that lists a variable, with what it lists TIED to the program's text (the seventh form; the later family's looks); each row that meets fmt, with fmt's text TOLD by the authors' own Lean function (tested against real Go, not proved from fmt's source: count such statements apart). THE CARD IS WHAT COUNTS. Prove the row's statement (the work); the ties are given (YtckkmdigmecagaaGreatDoorTie.lean); close each card by the builder's one call (the guide's Derived/Test/ToyasCard.lean, 'card_holds'). Laid BY PROGRAM, IN A SANDBOX (cutbox-door.mjs). By AI agents, Wed Nov 11 2026. No macro, syntax, notation, axiom, sorry.
-/
import Derived.Test.YtckkmdigmecagaaGreatDoorRows
import GoSem.ClaimSeven
namespace Go.Proofs.YtckkmdigmecagaaGreatDoor
namespace Rows

/-- THE TIED CARD OF 'cofferlaw24.WireAll'. -/
def wireAllCard : Claim7 := { stood := { row := wireAllRow, standIns := [], harness := (true, "a0b4d8637caa2d636b3380cd7b72669bace78aa6ad7cde39f19e6ff80afe7e42"), looks := false }, kinds := [], alts := [], laidByText := true, laidKinds := [.data, .pinned, .pinned], laidTests := true, laidLooks := .later }
def WireAllCardSaid : Prop := Claim7.holds Tryz.pinned (.plain (OpenSpec.ofChange wireAllSpec)) wireAllCard

/-- THE TIED CARD OF 'cofferlaw24.WireBad'. -/
def wireBadCard : Claim7 := { stood := { row := wireBadRow, standIns := [], harness := (true, "a0b4d8637caa2d636b3380cd7b72669bace78aa6ad7cde39f19e6ff80afe7e42"), looks := false }, kinds := [], alts := [], laidByText := true, laidKinds := [.data, .pinned, .pinned], laidTests := true, laidLooks := .later }
def WireBadCardSaid : Prop := Claim7.holds Tryz.pinned (.plain (OpenSpec.ofChange wireBadSpec)) wireBadCard

/-- THE TIED CARD OF 'cofferlaw24.WireMade'. -/
def wireMadeCard : Claim7 := { stood := { row := wireMadeRow, standIns := [], harness := (true, "a0b4d8637caa2d636b3380cd7b72669bace78aa6ad7cde39f19e6ff80afe7e42"), looks := false }, kinds := [], alts := [], laidByText := true, laidKinds := [.data, .data, .data, .data, .pinned, .pinned], laidTests := true, laidLooks := .later }
def WireMadeCardSaid : Prop := Claim7.holds Tryz.pinned (.plain (OpenSpec.ofChange wireMadeSpec)) wireMadeCard

/-- THE SECOND FORM's CARD OF 'cofferlaw24.WireAll'. -/
def wireAllUptoCard : Claim7 := { stood := { row := wireAllUptoRow, standIns := [], harness := (true, "a0b4d8637caa2d636b3380cd7b72669bace78aa6ad7cde39f19e6ff80afe7e42"), looks := false }, kinds := [], alts := [], laidByText := true, laidKinds := [.data, .pinned, .pinned], laidTests := true, laidLooks := .later }
def WireAllUptoCardSaid : Prop := Claim7.holds Tryz.pinned (.plain (OpenSpec.upto wireAllSpec)) wireAllUptoCard

/-- THE SECOND FORM's CARD OF 'cofferlaw24.WireBad'. -/
def wireBadUptoCard : Claim7 := { stood := { row := wireBadUptoRow, standIns := [], harness := (true, "a0b4d8637caa2d636b3380cd7b72669bace78aa6ad7cde39f19e6ff80afe7e42"), looks := false }, kinds := [], alts := [], laidByText := true, laidKinds := [.data, .pinned, .pinned], laidTests := true, laidLooks := .later }
def WireBadUptoCardSaid : Prop := Claim7.holds Tryz.pinned (.plain (OpenSpec.upto wireBadSpec)) wireBadUptoCard

/-- THE SECOND FORM's CARD OF 'cofferlaw24.WireMade'. -/
def wireMadeUptoCard : Claim7 := { stood := { row := wireMadeUptoRow, standIns := [], harness := (true, "a0b4d8637caa2d636b3380cd7b72669bace78aa6ad7cde39f19e6ff80afe7e42"), looks := false }, kinds := [], alts := [], laidByText := true, laidKinds := [.data, .data, .data, .data, .pinned, .pinned], laidTests := true, laidLooks := .later }
def WireMadeUptoCardSaid : Prop := Claim7.holds Tryz.pinned (.plain (OpenSpec.upto wireMadeSpec)) wireMadeUptoCard
end Rows
end Go.Proofs.YtckkmdigmecagaaGreatDoor
