/-
  DERIVED. GIVEN WITH THE SEED: THE CARDS: each row of YtpidakfpoihdkaaDoorRows.lean that lists a variable, with what it lists TIED to the program's text (the seventh form; the later family's looks); each row that meets fmt, with fmt's text TOLD by the authors' own Lean function (tested against real Go, not proved from fmt's source: count such statements apart). THE CARD IS WHAT COUNTS. Prove the row's statement (the work); the ties are given (YtpidakfpoihdkaaDoorTie.lean); close each card by the builder's one call (the guide's Derived/Test/ToyasCard.lean, 'card_holds'). Laid BY PROGRAM, IN A SANDBOX (cutbox-door.mjs). By AI agents, Wed Nov 11 2026. No macro, syntax, notation, axiom, sorry.
-/
import Derived.Test.YtpidakfpoihdkaaDoorRows
import GoSem.ClaimSeven
namespace Go.Proofs.YtpidakfpoihdkaaDoor
namespace Rows

/-- THE TIED CARD OF 'cofferlaw22.FieldLines'. -/
def fieldLinesCard : Claim7 := { stood := { row := fieldLinesRow, standIns := [], harness := (true, "1761ff3afd7ce33c07ec3e564bf937c45a303dfa3845451369655a282a28d571"), looks := false }, kinds := [], alts := [], laidByText := true, laidKinds := [.data, .pinned], laidTests := true, laidLooks := .later }
def FieldLinesCardSaid : Prop := Claim7.holds Tryd.pinned (.plain (OpenSpec.ofChange fieldLinesSpec)) fieldLinesCard

/-- THE TIED CARD OF 'cofferlaw22.FieldWords'. -/
def fieldWordsCard : Claim7 := { stood := { row := fieldWordsRow, standIns := [], harness := (true, "1761ff3afd7ce33c07ec3e564bf937c45a303dfa3845451369655a282a28d571"), looks := false }, kinds := [], alts := [], laidByText := true, laidKinds := [.data, .pinned], laidTests := true, laidLooks := .later }
def FieldWordsCardSaid : Prop := Claim7.holds Tryd.pinned (.plain (OpenSpec.ofChange fieldWordsSpec)) fieldWordsCard

/-- THE TIED CARD OF 'cofferlaw22.FieldBlanks'. -/
def fieldBlanksCard : Claim7 := { stood := { row := fieldBlanksRow, standIns := [], harness := (true, "1761ff3afd7ce33c07ec3e564bf937c45a303dfa3845451369655a282a28d571"), looks := false }, kinds := [], alts := [], laidByText := true, laidKinds := [.data, .pinned], laidTests := true, laidLooks := .later }
def FieldBlanksCardSaid : Prop := Claim7.holds Tryd.pinned (.plain (OpenSpec.ofChange fieldBlanksSpec)) fieldBlanksCard

/-- THE TIED CARD OF 'cofferlaw22.FieldJoins'. -/
def fieldJoinsCard : Claim7 := { stood := { row := fieldJoinsRow, standIns := [], harness := (true, "1761ff3afd7ce33c07ec3e564bf937c45a303dfa3845451369655a282a28d571"), looks := false }, kinds := [], alts := [], laidByText := true, laidKinds := [.data, .pinned], laidTests := true, laidLooks := .later }
def FieldJoinsCardSaid : Prop := Claim7.holds Tryd.pinned (.plain (OpenSpec.ofChange fieldJoinsSpec)) fieldJoinsCard

/-- THE TIED CARD OF 'cofferlaw22.FieldLists'. -/
def fieldListsCard : Claim7 := { stood := { row := fieldListsRow, standIns := [], harness := (true, "1761ff3afd7ce33c07ec3e564bf937c45a303dfa3845451369655a282a28d571"), looks := false }, kinds := [], alts := [], laidByText := true, laidKinds := [.data, .pinned], laidTests := true, laidLooks := .later }
def FieldListsCardSaid : Prop := Claim7.holds Tryd.pinned (.plain (OpenSpec.ofChange fieldListsSpec)) fieldListsCard

/-- THE SECOND FORM's CARD OF 'cofferlaw22.FieldLines'. -/
def fieldLinesUptoCard : Claim7 := { stood := { row := fieldLinesUptoRow, standIns := [], harness := (true, "1761ff3afd7ce33c07ec3e564bf937c45a303dfa3845451369655a282a28d571"), looks := false }, kinds := [], alts := [], laidByText := true, laidKinds := [.data, .pinned], laidTests := true, laidLooks := .later }
def FieldLinesUptoCardSaid : Prop := Claim7.holds Tryd.pinned (.plain (OpenSpec.upto fieldLinesSpec)) fieldLinesUptoCard

/-- THE SECOND FORM's CARD OF 'cofferlaw22.FieldWords'. -/
def fieldWordsUptoCard : Claim7 := { stood := { row := fieldWordsUptoRow, standIns := [], harness := (true, "1761ff3afd7ce33c07ec3e564bf937c45a303dfa3845451369655a282a28d571"), looks := false }, kinds := [], alts := [], laidByText := true, laidKinds := [.data, .pinned], laidTests := true, laidLooks := .later }
def FieldWordsUptoCardSaid : Prop := Claim7.holds Tryd.pinned (.plain (OpenSpec.upto fieldWordsSpec)) fieldWordsUptoCard

/-- THE SECOND FORM's CARD OF 'cofferlaw22.FieldBlanks'. -/
def fieldBlanksUptoCard : Claim7 := { stood := { row := fieldBlanksUptoRow, standIns := [], harness := (true, "1761ff3afd7ce33c07ec3e564bf937c45a303dfa3845451369655a282a28d571"), looks := false }, kinds := [], alts := [], laidByText := true, laidKinds := [.data, .pinned], laidTests := true, laidLooks := .later }
def FieldBlanksUptoCardSaid : Prop := Claim7.holds Tryd.pinned (.plain (OpenSpec.upto fieldBlanksSpec)) fieldBlanksUptoCard

/-- THE SECOND FORM's CARD OF 'cofferlaw22.FieldJoins'. -/
def fieldJoinsUptoCard : Claim7 := { stood := { row := fieldJoinsUptoRow, standIns := [], harness := (true, "1761ff3afd7ce33c07ec3e564bf937c45a303dfa3845451369655a282a28d571"), looks := false }, kinds := [], alts := [], laidByText := true, laidKinds := [.data, .pinned], laidTests := true, laidLooks := .later }
def FieldJoinsUptoCardSaid : Prop := Claim7.holds Tryd.pinned (.plain (OpenSpec.upto fieldJoinsSpec)) fieldJoinsUptoCard

/-- THE SECOND FORM's CARD OF 'cofferlaw22.FieldLists'. -/
def fieldListsUptoCard : Claim7 := { stood := { row := fieldListsUptoRow, standIns := [], harness := (true, "1761ff3afd7ce33c07ec3e564bf937c45a303dfa3845451369655a282a28d571"), looks := false }, kinds := [], alts := [], laidByText := true, laidKinds := [.data, .pinned], laidTests := true, laidLooks := .later }
def FieldListsUptoCardSaid : Prop := Claim7.holds Tryd.pinned (.plain (OpenSpec.upto fieldListsSpec)) fieldListsUptoCard
end Rows
end Go.Proofs.YtpidakfpoihdkaaDoor
