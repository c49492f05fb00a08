/-
  DERIVED. GIVEN WITH THE SEED: THE CARDS: each row of YthijpbakhnakeaaDoorRows.lean that lists a variable, with what it lists TIED to the program's text (the seventh form; the later family's looks); each row that meets fmt, with fmt's text TOLD by the authors' own Lean function (tested against real Go, not proved from fmt's source: count such statements apart). THE CARD IS WHAT COUNTS. Prove the row's statement (the work); the ties are given (YthijpbakhnakeaaDoorTie.lean); close each card by the builder's one call (the guide's Derived/Test/ToyasCard.lean, 'card_holds'). Laid BY PROGRAM, IN A SANDBOX (cutbox-door.mjs). By AI agents, Wed Nov 11 2026. No macro, syntax, notation, axiom, sorry.
-/
import Derived.Test.YthijpbakhnakeaaDoorRows
import GoSem.ClaimSeven
namespace Go.Proofs.YthijpbakhnakeaaDoor
namespace Rows

/-- THE TIED CARD OF 'cofferlaw23.ChunkWrites'. -/
def chunkWritesCard : Claim7 := { stood := { row := chunkWritesRow, standIns := [], harness := (true, "356e5e9498e6e579722d7b2052a0f4b6dbdc07639bada49bac491c6e60584ded"), looks := false }, kinds := [], alts := [], laidByText := true, laidKinds := [.data, .data, .data], laidTests := true, laidLooks := .later }
def ChunkWritesCardSaid : Prop := Claim7.holds Tryd.pinned (.plain (OpenSpec.ofChange chunkWritesSpec)) chunkWritesCard

/-- THE TIED CARD OF 'cofferlaw23.ChunkBack'. -/
def chunkBackCard : Claim7 := { stood := { row := chunkBackRow, standIns := [], harness := (true, "356e5e9498e6e579722d7b2052a0f4b6dbdc07639bada49bac491c6e60584ded"), looks := false }, kinds := [], alts := [], laidByText := true, laidKinds := [.data, .data, .data], laidTests := true, laidLooks := .later }
def ChunkBackCardSaid : Prop := Claim7.holds Tryd.pinned (.plain (OpenSpec.ofChange chunkBackSpec)) chunkBackCard

/-- THE TIED CARD OF 'cofferlaw23.ChunkBounds'. -/
def chunkBoundsCard : Claim7 := { stood := { row := chunkBoundsRow, standIns := [], harness := (true, "356e5e9498e6e579722d7b2052a0f4b6dbdc07639bada49bac491c6e60584ded"), looks := false }, kinds := [], alts := [], laidByText := true, laidKinds := [.data, .data, .data], laidTests := true, laidLooks := .later }
def ChunkBoundsCardSaid : Prop := Claim7.holds Tryd.pinned (.plain (OpenSpec.ofChange chunkBoundsSpec)) chunkBoundsCard

/-- THE SECOND FORM's CARD OF 'cofferlaw23.ChunkWrites'. -/
def chunkWritesUptoCard : Claim7 := { stood := { row := chunkWritesUptoRow, standIns := [], harness := (true, "356e5e9498e6e579722d7b2052a0f4b6dbdc07639bada49bac491c6e60584ded"), looks := false }, kinds := [], alts := [], laidByText := true, laidKinds := [.data, .data, .data], laidTests := true, laidLooks := .later }
def ChunkWritesUptoCardSaid : Prop := Claim7.holds Tryd.pinned (.plain (OpenSpec.upto chunkWritesSpec)) chunkWritesUptoCard

/-- THE SECOND FORM's CARD OF 'cofferlaw23.ChunkBack'. -/
def chunkBackUptoCard : Claim7 := { stood := { row := chunkBackUptoRow, standIns := [], harness := (true, "356e5e9498e6e579722d7b2052a0f4b6dbdc07639bada49bac491c6e60584ded"), looks := false }, kinds := [], alts := [], laidByText := true, laidKinds := [.data, .data, .data], laidTests := true, laidLooks := .later }
def ChunkBackUptoCardSaid : Prop := Claim7.holds Tryd.pinned (.plain (OpenSpec.upto chunkBackSpec)) chunkBackUptoCard

/-- THE SECOND FORM's CARD OF 'cofferlaw23.ChunkBounds'. -/
def chunkBoundsUptoCard : Claim7 := { stood := { row := chunkBoundsUptoRow, standIns := [], harness := (true, "356e5e9498e6e579722d7b2052a0f4b6dbdc07639bada49bac491c6e60584ded"), looks := false }, kinds := [], alts := [], laidByText := true, laidKinds := [.data, .data, .data], laidTests := true, laidLooks := .later }
def ChunkBoundsUptoCardSaid : Prop := Claim7.holds Tryd.pinned (.plain (OpenSpec.upto chunkBoundsSpec)) chunkBoundsUptoCard
end Rows
end Go.Proofs.YthijpbakhnakeaaDoor
