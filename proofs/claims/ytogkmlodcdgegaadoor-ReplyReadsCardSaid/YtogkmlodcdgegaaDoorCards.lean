/-
  DERIVED. GIVEN WITH THE SEED: THE CARDS: each row of YtogkmlodcdgegaaDoorRows.lean that lists a variable, with what it lists TIED to the program's text (the seventh form; the later family's looks); each row that meets fmt, with fmt's text TOLD by the authors' own Lean function (tested against real Go, not proved from fmt's source: count such statements apart). THE CARD IS WHAT COUNTS. Prove the row's statement (the work); the ties are given (YtogkmlodcdgegaaDoorTie.lean); close each card by the builder's one call (the guide's Derived/Test/ToyasCard.lean, 'card_holds'). Laid BY PROGRAM, IN A SANDBOX (cutbox-door.mjs). By AI agents, Wed Nov 11 2026. No macro, syntax, notation, axiom, sorry.
-/
import Derived.Test.YtogkmlodcdgegaaDoorRows
import GoSem.ClaimSeven
namespace Go.Proofs.YtogkmlodcdgegaaDoor
namespace Rows

/-- THE TIED CARD OF 'cofferlaw25.ReplyWrites'. -/
def replyWritesCard : Claim7 := { stood := { row := replyWritesRow, standIns := [], harness := (true, "83fc0ad12ef3cd82a8a62aad5e0ad30ac39bfd3395bd4708607f3303f8c503d4"), looks := false }, kinds := [], alts := [], laidByText := true, laidKinds := [.data, .data, .data], laidTests := true, laidLooks := .later }
def ReplyWritesCardSaid : Prop := Claim7.holds Tryd.pinned (.plain (OpenSpec.ofChange replyWritesSpec)) replyWritesCard

/-- THE TIED CARD OF 'cofferlaw25.ReplyReads'. -/
def replyReadsCard : Claim7 := { stood := { row := replyReadsRow, standIns := [], harness := (true, "83fc0ad12ef3cd82a8a62aad5e0ad30ac39bfd3395bd4708607f3303f8c503d4"), looks := false }, kinds := [], alts := [], laidByText := true, laidKinds := [.data, .data, .data], laidTests := true, laidLooks := .later }
def ReplyReadsCardSaid : Prop := Claim7.holds Tryd.pinned (.plain (OpenSpec.ofChange replyReadsSpec)) replyReadsCard

/-- THE TIED CARD OF 'cofferlaw25.ReplyBack'. -/
def replyBackCard : Claim7 := { stood := { row := replyBackRow, standIns := [], harness := (true, "83fc0ad12ef3cd82a8a62aad5e0ad30ac39bfd3395bd4708607f3303f8c503d4"), looks := false }, kinds := [], alts := [], laidByText := true, laidKinds := [.data, .data, .data], laidTests := true, laidLooks := .later }
def ReplyBackCardSaid : Prop := Claim7.holds Tryd.pinned (.plain (OpenSpec.ofChange replyBackSpec)) replyBackCard

/-- THE TIED CARD OF 'cofferlaw25.ReplyTwo'. -/
def replyTwoCard : Claim7 := { stood := { row := replyTwoRow, standIns := [], harness := (true, "83fc0ad12ef3cd82a8a62aad5e0ad30ac39bfd3395bd4708607f3303f8c503d4"), looks := false }, kinds := [], alts := [], laidByText := true, laidKinds := [.data, .data, .data], laidTests := true, laidLooks := .later }
def ReplyTwoCardSaid : Prop := Claim7.holds Tryd.pinned (.plain (OpenSpec.ofChange replyTwoSpec)) replyTwoCard

/-- THE SECOND FORM's CARD OF 'cofferlaw25.ReplyWrites'. -/
def replyWritesUptoCard : Claim7 := { stood := { row := replyWritesUptoRow, standIns := [], harness := (true, "83fc0ad12ef3cd82a8a62aad5e0ad30ac39bfd3395bd4708607f3303f8c503d4"), looks := false }, kinds := [], alts := [], laidByText := true, laidKinds := [.data, .data, .data], laidTests := true, laidLooks := .later }
def ReplyWritesUptoCardSaid : Prop := Claim7.holds Tryd.pinned (.plain (OpenSpec.upto replyWritesSpec)) replyWritesUptoCard

/-- THE SECOND FORM's CARD OF 'cofferlaw25.ReplyReads'. -/
def replyReadsUptoCard : Claim7 := { stood := { row := replyReadsUptoRow, standIns := [], harness := (true, "83fc0ad12ef3cd82a8a62aad5e0ad30ac39bfd3395bd4708607f3303f8c503d4"), looks := false }, kinds := [], alts := [], laidByText := true, laidKinds := [.data, .data, .data], laidTests := true, laidLooks := .later }
def ReplyReadsUptoCardSaid : Prop := Claim7.holds Tryd.pinned (.plain (OpenSpec.upto replyReadsSpec)) replyReadsUptoCard

/-- THE SECOND FORM's CARD OF 'cofferlaw25.ReplyBack'. -/
def replyBackUptoCard : Claim7 := { stood := { row := replyBackUptoRow, standIns := [], harness := (true, "83fc0ad12ef3cd82a8a62aad5e0ad30ac39bfd3395bd4708607f3303f8c503d4"), looks := false }, kinds := [], alts := [], laidByText := true, laidKinds := [.data, .data, .data], laidTests := true, laidLooks := .later }
def ReplyBackUptoCardSaid : Prop := Claim7.holds Tryd.pinned (.plain (OpenSpec.upto replyBackSpec)) replyBackUptoCard

/-- THE SECOND FORM's CARD OF 'cofferlaw25.ReplyTwo'. -/
def replyTwoUptoCard : Claim7 := { stood := { row := replyTwoUptoRow, standIns := [], harness := (true, "83fc0ad12ef3cd82a8a62aad5e0ad30ac39bfd3395bd4708607f3303f8c503d4"), looks := false }, kinds := [], alts := [], laidByText := true, laidKinds := [.data, .data, .data], laidTests := true, laidLooks := .later }
def ReplyTwoUptoCardSaid : Prop := Claim7.holds Tryd.pinned (.plain (OpenSpec.upto replyTwoSpec)) replyTwoUptoCard
end Rows
end Go.Proofs.YtogkmlodcdgegaaDoor
